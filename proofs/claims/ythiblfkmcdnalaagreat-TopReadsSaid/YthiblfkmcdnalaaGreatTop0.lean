/- Memory words of the top seat: a value that is a slice of a list, its block of a known element type. -/
import Derived.Test.YthiblfkmcdnalaaGreatRegC
import Derived.Test.YthiblfkmcdnalaaGreatRow
namespace Go.Proofs.YthiblfkmcdnalaaGreat
set_option maxRecDepth 1000000
open Go.RowKit
set_option maxRecDepth 1000000

/-- the list l, each element f x of sz cells, lies at A in a block of type t -/
def Rt {α : Type} (f : α → List Value) (sz : Nat) (t : TypeId) (w : World) (A : Option Addr) (l : List α) : Prop :=
  l ≠ [] → ∃ b off cs fr, A = some ⟨b, off, none⟩ ∧ w.heap[b]? = some (.cells cs t fr) ∧ ∀ k x, l[k]? = some x → ∀ j v, (f x)[j]? = some v → cs[off + k * sz + j]? = some v
section
variable {α : Type} {f : α → List Value} {sz : Nat} {t : TypeId} {w w' : World} {A : Option Addr} {l : List α}
theorem Rt.nil : Rt f sz t w A ([] : List α) := fun h => absurd rfl h
theorem Rt.keep (h : Rt f sz t w A l) (hk : ∀ (b : Nat) cs fr, w.heap[b]? = some (Obj.cells cs t fr) → w'.heap[b]? = w.heap[b]?) : Rt f sz t w' A l := fun hn => by
  obtain ⟨b, off, cs, fr, e, hb, hc⟩ := h hn
  exact ⟨b, off, cs, fr, e, (hk b cs fr hb).trans hb, hc⟩
theorem Rt.up (h : Rt f sz t w A l) (hb : Below w.heap.size w w') : Rt f sz t w' A l := h.keep fun b _ _ hb' => hb.block b (Array.getElem?_eq_some_iff.1 hb').1
theorem Rt.take (h : Rt f sz t w A l) (n : Nat) : Rt f sz t w A (l.take n) := fun hn => by
  obtain ⟨b, off, cs, fr, e, hb, hc⟩ := h (fun e => hn (by rw [e]; simp))
  refine ⟨b, off, cs, fr, e, hb, fun k x hx => hc k x ?_⟩
  rw [List.getElem?_take] at hx
  split at hx
  · exact hx
  · cases hx
theorem Rt.rd (h : Rt f sz t w A l) : Rd f sz w w.heap.size A l := fun hn => by
  obtain ⟨b, off, cs, fr, e, hb, hc⟩ := h hn
  exact ⟨b, off, e, (Array.getElem?_eq_some_iff.1 hb).1, fun k x hx j v hv => by simp [World.cell?, hb, hc k x hx j v hv]⟩
/-- the cells of one element, in every world above -/
theorem Rt.at_ (h : Rt f sz t w A l) {k : Nat} (hk : k < l.length) :
    ∃ x b off, l[k]? = some x ∧ A = some ⟨b, off, none⟩ ∧ b < w.heap.size ∧ ∀ W, Below w.heap.size w W → ∀ j v, (f x)[j]? = some v → W.cell? ⟨b, off + k * sz + j, none⟩ = some v := h.rd.at_ hk
theorem Rt.of_own {base c n : Nat} (h : w.ownsRow base t sz (.slice A n c) n (l.flatMap f)) (hf : ∀ x, (f x).length = sz) (hsz : 0 < sz) : Rt f sz t w A l := by
  intro hn
  rcases h.2 with ⟨hv, h0⟩ | ⟨g, cap, cur, hv, hg, hh, hnc, hcm, hcs, htake⟩
  · have h1 := h.1
    rw [flat_len hf, h0] at h1
    rcases Nat.mul_eq_zero.1 (show l.length * sz = 0 by omega) with h2 | h2
    · exact absurd (List.eq_nil_of_length_eq_zero h2) hn
    · omega
  · injection hv with hA _ _
    subst hA
    refine ⟨g, 0, cur, (0, 0), rfl, hh, fun k x hx j v hv => ?_⟩
    have hrd := Rd.of_own h hf hsz hn
    obtain ⟨b, off, e, _, hc⟩ := hrd
    injection e with e
    injection e with e1 e2
    subst e1; subst e2
    have := hc k x hx j v hv
    simpa [World.cell?, hh] using this
end

/-- the value v is a slice of the list l -/
def Sl {α : Type} (f : α → List Value) (sz : Nat) (t : TypeId) (w : World) (v : Value) (l : List α) : Prop :=
  ∃ A cap, v = .slice A l.length cap ∧ l.length ≤ cap ∧ cap ≤ 9223372036854775807 ∧ Rt f sz t w A l
section
variable {α : Type} {f : α → List Value} {sz : Nat} {t : TypeId} {w w' : World} {v : Value} {l : List α}
theorem Sl.up (h : Sl f sz t w v l) (hb : Below w.heap.size w w') : Sl f sz t w' v l := by
  obtain ⟨A, cap, e, h1, h2, h3⟩ := h
  exact ⟨A, cap, e, h1, h2, h3.up hb⟩
theorem Sl.keep (h : Sl f sz t w v l) (hk : ∀ (b : Nat) cs fr, w.heap[b]? = some (Obj.cells cs t fr) → w'.heap[b]? = w.heap[b]?) : Sl f sz t w' v l := by
  obtain ⟨A, cap, e, h1, h2, h3⟩ := h
  exact ⟨A, cap, e, h1, h2, h3.keep hk⟩
theorem Sl.nil : Sl f sz t w (.slice none 0 0) ([] : List α) := ⟨none, 0, rfl, Nat.le_refl _, by decide, Rt.nil⟩
theorem Sl.of_own {base n : Nat} (h : w.ownsRow base t sz v n (l.flatMap f)) (hn : n = l.length) (hf : ∀ x, (f x).length = sz) (hsz : 0 < sz) : Sl f sz t w v l := by
  subst hn
  obtain ⟨A, c, rfl, h1, h2⟩ := own_slice h
  exact ⟨A, c, rfl, h1, h2, Rt.of_own h hf hsz⟩
end

theorem cells_of {V : World} {b : Nat} {cs : Array Value} {t : TypeId} (h : V.heap[b]? = some (.cells cs t (0, 0))) (j : Nat) : V.cell? ⟨b, j, none⟩ = cs[j]? := by simp [World.cell?, h]
theorem frozen_of {V : World} {b : Nat} {cs : Array Value} {t : TypeId} (h : V.heap[b]? = some (.cells cs t (0, 0))) (j : Nat) : V.frozen? ⟨b, j, none⟩ = false := by simp [World.frozen?, h]
theorem lt_of {V : World} {b : Nat} {o : Obj} (h : V.heap[b]? = some o) : b < V.heap.size := (Array.getElem?_eq_some_iff.1 h).1
theorem up_of {V W : World} {b : Nat} {o : Obj} (h : V.heap[b]? = some o) (hb : Below V.heap.size V W) : W.heap[b]? = some o := (hb.block b (lt_of h)).trans h
theorem own_base {w : World} {base base' : Nat} {e : TypeId} {sz n : Nat} {v : Value} {xs : List Value} (h : w.ownsRow base e sz v n xs) (hb : base' ≤ base) : w.ownsRow base' e sz v n xs := by
  refine ⟨h.1, ?_⟩
  rcases h.2 with hn | ⟨g, cap, cur, hv, hg, r⟩
  · exact .inl hn
  · exact .inr ⟨g, cap, cur, hv, by omega, r⟩
/-- old cells and marks read as before -/
theorem bcell {W w1 : World} (hb : Below W.heap.size W w1) : (∀ b o, b < W.heap.size → w1.cell? ⟨b, o, none⟩ = W.cell? ⟨b, o, none⟩) ∧ (∀ b o, b < W.heap.size → w1.frozen? ⟨b, o, none⟩ = W.frozen? ⟨b, o, none⟩) :=
  ⟨fun b o h => hb.cell (p := ⟨b, o, none⟩) h, fun b o h => hb.frozen (p := ⟨b, o, none⟩) h⟩
/-- a list of one cell each -/
def one1 {α : Type} (g : α → Value) (x : α) : List Value := [g x]
end Go.Proofs.YthiblfkmcdnalaaGreat
