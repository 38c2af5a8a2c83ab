/- Lists of ints in memory; words on lists whose block is known to be one of a kind; cells of a block that is known whole. -/
import Derived.Test.YtigffndobddflaaProg
import Derived.Test.YtigffndobddflaaMem
import Derived.Test.YtigffndobddflaaApp
import Derived.Test.YtigffndobddflaaQuiet
import Derived.IntWalk
namespace Go.Proofs.Ytigffndobddflaa
open Go.RowKit

def icells (n : Int) : List Value := [.int .i64 n]
theorem i_len (n : Int) : (icells n).length = 1 := rfl
theorem i_one : ∀ t : Int, ∀ u ∈ icells t, u.oneCell' = true := by
  intro x u hu; simp [icells] at hu; subst hu; rfl
theorem icells_len : ∀ l : List Int, (l.flatMap icells).length = l.length * 1
  | [] => rfl
  | a :: l => by rw [List.flatMap_cons, List.length_append, icells_len l]; simp [icells]; omega
theorem rd_i {w : World} {B : Nat} {A : Option Addr} {l : List Int} (h : Rd icells 1 w B A l) {k : Nat} (hk : k < l.length) :
    ∃ c b off, l[k]? = some c ∧ A = some ⟨b, off, none⟩ ∧ b < B ∧ ∀ W, Below B w W → W.cell? ⟨b, off + k, none⟩ = some (.int .i64 c) := by
  obtain ⟨c, b, off, hc, hA, hb, hcell⟩ := h.at_ hk
  exact ⟨c, b, off, hc, hA, hb, fun W hW => by simpa using hcell W hW 0 _ rfl⟩
theorem Try.infoInt : (Try.prog.info? 3).map (fun i => (i.zero, i.size, i.bytes)) = some (some (.int .i64 0), 1, 8) := by kernel_rfl

theorem cells_of {V : World} {b : Nat} {cs : Array Value} {t : TypeId} (h : V.heap[b]? = some (.cells cs t (0, 0))) (j : Nat) : V.cell? ⟨b, j, none⟩ = cs[j]? := by simp [World.cell?, h]
theorem frozen_of {V : World} {b : Nat} {cs : Array Value} {t : TypeId} (h : V.heap[b]? = some (.cells cs t (0, 0))) (j : Nat) : V.frozen? ⟨b, j, none⟩ = false := by simp [World.frozen?, h]

/-- a list that lies in memory, in a block of which something is known -/
def Rd' {α : Type} (f : α → List Value) (sz : Nat) (w : World) (ok : Nat → Prop) (A : Option Addr) (l : List α) : Prop :=
  l ≠ [] → ∃ b off, A = some ⟨b, off, none⟩ ∧ ok b ∧ ∀ k x, l[k]? = some x → ∀ j v, (f x)[j]? = some v → w.cell? ⟨b, off + k * sz + j, none⟩ = some v
section
variable {α : Type} {f : α → List Value} {sz : Nat} {w w' : World} {ok ok' : Nat → Prop} {A : Option Addr} {l : List α} {B : Nat}
theorem Rd'.imp (h : Rd' f sz w ok A l) (hi : ∀ b, ok b → ok' b) : Rd' f sz w ok' A l := fun hn => by
  obtain ⟨b, off, e, hb, hc⟩ := h hn
  exact ⟨b, off, e, hi b hb, hc⟩
theorem Rd'.nil : Rd' f sz w ok A ([] : List α) := fun h => absurd rfl h
theorem Rd'.keep (h : Rd' f sz w ok A l) (hk : ∀ b, ok b → w'.heap[b]? = w.heap[b]?) : Rd' f sz w' ok A l := fun hn => by
  obtain ⟨b, off, e, hb, hc⟩ := h hn
  exact ⟨b, off, e, hb, fun k x hx j v hv => (World.cell?_of_block (a := ⟨b, off + k * sz + j, none⟩) (hk b hb)).trans (hc k x hx j v hv)⟩
theorem Rd'.to (h : Rd' f sz w ok A l) (hi : ∀ b, ok b → b < B) : Rd f sz w B A l := h.imp hi
theorem Rd'.of_own {base : Nat} {e : TypeId} {c : Nat} {n : Nat} (h : w.ownsRow base e sz (.slice A n c) n (l.flatMap f)) (hf : ∀ x, (f x).length = sz) (hsz : 0 < sz) : Rd' f sz w (fun b => base ≤ b ∧ b < w.heap.size) A l := fun hn => by
  obtain ⟨b, off, e1, hb, hc⟩ := Rd.of_own h hf hsz hn
  exact ⟨b, off, e1, ⟨(h.lt b (by rw [e1]; rfl)).1, hb⟩, hc⟩
/-- the rest of a list, behind k elements -/
theorem Rd'.drop {b0 off0 : Nat} (h : Rd' f sz w ok (some ⟨b0, off0, none⟩) l) (k : Nat) : Rd' f sz w ok (some ⟨b0, off0 + k * sz, none⟩) (l.drop k) := fun hn => by
  obtain ⟨b, off, e, hb, hc⟩ := h (fun e => hn (by rw [e]; simp))
  injection e with e
  injection e with e1 e2
  subst e1 e2
  refine ⟨b0, off0 + k * sz, rfl, hb, fun j x hx i v hv => ?_⟩
  rw [List.getElem?_drop] at hx
  have := hc (k + j) x hx i v hv
  rwa [Nat.add_mul, ← Nat.add_assoc] at this
end
theorem Rd.cell_own {α : Type} {f : α → List Value} {sz : Nat} {w : World} {B : Nat} {g : Nat} {l : List α} (h : Rd f sz w B (some ⟨g, 0, none⟩) l) {k : Nat} {x : α} (hx : l[k]? = some x) : ∀ j v, (f x)[j]? = some v → w.cell? ⟨g, k * sz + j, none⟩ = some v := fun j v hv => by
  obtain ⟨b, off, e, _, hc⟩ := h (fun e => by subst e; simp at hx)
  injection e with e
  injection e with e1 e2
  subst e1 e2
  simpa using hc k x hx j v hv
theorem own_le {w : World} {base base' size n : Nat} {e : TypeId} {v : Value} {xs : List Value} (h : w.ownsRow base e size v n xs) (hb : base' ≤ base) : w.ownsRow base' e size v n xs := by
  refine ⟨h.1, ?_⟩
  rcases h.2 with hn | ⟨g, cap, cur, h1, h2, r⟩
  · exact .inl hn
  · exact .inr ⟨g, cap, cur, h1, by omega, r⟩
theorem own_cap {w : World} {base sz n c : Nat} {e : TypeId} {A : Option Addr} {xs : List Value} (h : w.ownsRow base e sz (.slice A n c) n xs) : n ≤ c ∧ c ≤ 9223372036854775807 := by
  obtain ⟨_, _, hv, h1, h2⟩ := own_slice h
  injection hv with _ _ hv
  subst hv
  exact ⟨h1, h2⟩
/-- a row stays where another block turned -/
theorem own_heap {w w' : World} {base size n : Nat} {e : TypeId} {v : Value} {xs : List Value} (h : w.ownsRow base e size v n xs) (hk : ∀ g, v.ownBlock = some g → w'.heap[g]? = w.heap[g]?) : w'.ownsRow base e size v n xs := by
  refine ⟨h.1, ?_⟩
  rcases h.2 with hn | ⟨g, cap, cur, e1, e2, e3, r⟩
  · exact .inl hn
  · exact .inr ⟨g, cap, cur, e1, e2, by rw [hk g (by rw [e1]; rfl)]; exact e3, r⟩
theorem own_none {v : Value} {b : Nat} (h : v.ownBlock = none) : v.ownBlock ≠ some b := by rw [h]; simp
def nextI (r : Option Nat) : Int := match r with
  | some i => i
  | none => -1
end Go.Proofs.Ytigffndobddflaa
