/- Memory words shared by the contracts of this seat: a list that lies in memory, and how it stays there. -/
import Derived.WalkKit
import Derived.WalkSpells
import Derived.WalkLawsBesides
import Derived.Deep.LoopGhost
import Derived.Lib.Hide
import Derived.Deep.QuietTactic
import Derived.BigQuiet
namespace Go.Proofs.YthiblfkmcdnalaaGreat
set_option maxRecDepth 1000000
open Go.RowKit

theorem ret_bool {a b : Bool} (h : a = b) : Ending.returned (.bool a) = .returned (.bool b) := by rw [h]
theorem ret_val {a b : Value} (h : a = b) : Ending.returned a = .returned b := by rw [h]

/-- The list l, each element f x of sz cells, lies at the address A, in a block below B. -/
def Rd {α : Type} (f : α → List Value) (sz : Nat) (w : World) (B : Nat) (A : Option Addr) (l : List α) : Prop :=
  l ≠ [] → ∃ b off, A = some ⟨b, off, none⟩ ∧ b < B ∧ ∀ k x, l[k]? = some x → ∀ j v, (f x)[j]? = some v → w.cell? ⟨b, off + k * sz + j, none⟩ = some v

section
variable {α : Type} {f : α → List Value} {sz : Nat} {w w' : World} {B B' : Nat} {A : Option Addr} {l : List α}

theorem Rd.nil : Rd f sz w B A ([] : List α) := fun h => absurd rfl h
theorem Rd.keep (h : Rd f sz w B A l) (hk : ∀ p : Addr, p.block < B → w'.cell? p = w.cell? p) : Rd f sz w' B A l := fun hn => by
  obtain ⟨b, off, e, hb, hc⟩ := h hn
  exact ⟨b, off, e, hb, fun k x hx j v hv => (hk _ hb).trans (hc k x hx j v hv)⟩
theorem Rd.below (h : Rd f sz w B A l) (hb : Below B w w') : Rd f sz w' B A l := h.keep fun _ hp => hb.cell hp
theorem Rd.more (h : Rd f sz w B A l) (hB : B ≤ B') : Rd f sz w B' A l := fun hn => by
  obtain ⟨b, off, e, hb, hc⟩ := h hn
  exact ⟨b, off, e, by omega, hc⟩
theorem Rd.up (h : Rd f sz w w.heap.size A l) (hb : Below w.heap.size w w') : Rd f sz w' w'.heap.size A l := (h.below hb).more hb.size
theorem Rd.take (h : Rd f sz w B A l) (n : Nat) : Rd f sz w B A (l.take n) := fun hn => by
  obtain ⟨b, off, e, hb, hc⟩ := h (fun e => hn (by rw [e]; simp))
  refine ⟨b, off, e, hb, fun k x hx => hc k x ?_⟩
  rw [List.getElem?_take] at hx
  split at hx
  · exact hx
  · cases hx
theorem Rd.at_ (h : Rd f sz w B A l) {k : Nat} (hk : k < l.length) :
    ∃ x b off, l[k]? = some x ∧ A = some ⟨b, off, none⟩ ∧ b < B ∧ ∀ W, Below B w W → ∀ j v, (f x)[j]? = some v → W.cell? ⟨b, off + k * sz + j, none⟩ = some v := by
  obtain ⟨b, off, e, hb, hc⟩ := h (fun e => by rw [e] at hk; simp at hk)
  exact ⟨l[k], b, off, List.getElem?_eq_getElem hk, e, hb, fun W hW j v hv => (hW.cell hb).trans (hc k _ (List.getElem?_eq_getElem hk) j v hv)⟩
theorem flat_split {α : Type} {f : α → List Value} {sz : Nat} (hf : ∀ x, (f x).length = sz) : ∀ (l : List α) (j : Nat) (u : Value), (l.flatMap f)[j]? = some u → ∃ k x r, l[k]? = some x ∧ (f x)[r]? = some u ∧ j = k * sz + r
  | [], j, u, h => by simp at h
  | y :: l, j, u, h => by
    rw [List.flatMap_cons] at h
    rcases Nat.lt_or_ge j (f y).length with h1 | h1
    · rw [List.getElem?_append_left h1] at h
      exact ⟨0, y, j, rfl, h, by omega⟩
    · rw [List.getElem?_append_right h1] at h
      obtain ⟨k, x, r, hx, hr, e⟩ := flat_split hf l _ u h
      rw [hf] at e h1
      exact ⟨k + 1, x, r, by simpa using hx, hr, by rw [Nat.succ_mul]; omega⟩
/-- A list that lies in memory as the source of an append. -/
theorem Rd.src {ad : Addr} (h : Rd f sz w B (some ad) l) (hf : ∀ x, (f x).length = sz) : ∀ (j : Nat) (u : Value), (l.flatMap f)[j]? = some u → w.cell? (ad.add j) = some u := by
  intro j u hu
  obtain ⟨k, x, r, hx, hr, rfl⟩ := flat_split hf l j u hu
  obtain ⟨b, off, e, _, hc⟩ := h (fun e => by subst e; simp at hx)
  injection e with e
  subst e
  rw [Addr.add_lit, ← Nat.add_assoc]
  exact hc k x hx r u hr
/-- What the call itself owns lies in memory. -/
theorem Rd.of_own {base : Nat} {e : TypeId} {c : Nat} {n : Nat} (h : w.ownsRow base e sz (.slice A n c) n (l.flatMap f)) (hf : ∀ x, (f x).length = sz) (hsz : 0 < sz) : Rd f sz w w.heap.size A l := by
  intro hn
  have hl : ∀ l : List α, (l.flatMap f).length = l.length * sz := by
    intro l
    induction l with
    | nil => simp
    | cons x l ih => simp [hf, ih, Nat.add_mul, Nat.add_comm]
  have hget : ∀ (l : List α) (k : Nat) (x : α), l[k]? = some x → ∀ j v, (f x)[j]? = some v → (l.flatMap f)[k * sz + j]? = some v := by
    intro l
    induction l with
    | nil => intro k x hx; simp at hx
    | cons y l ih =>
      intro k x hx j v hv
      have hj : j < sz := by have := (List.getElem?_eq_some_iff.1 hv).1; rwa [hf] at this
      rw [List.flatMap_cons]
      cases k with
      | zero =>
        simp at hx
        subst hx
        rw [List.getElem?_append_left (by rw [hf]; omega)]
        simpa using hv
      | succ k =>
        simp at hx
        rw [List.getElem?_append_right (by rw [hf, Nat.succ_mul]; omega), hf]
        rw [show (k + 1) * sz + j - sz = k * sz + j from by rw [Nat.succ_mul]; omega]
        exact ih k x hx j v hv
  rcases h.2 with ⟨hv, h0⟩ | ⟨g, cap, cur, hv, hg, hh, hnc, hcm, hcs, htake⟩
  · have h1 := h.1
    rw [hl, h0] at h1
    rcases Nat.mul_eq_zero.1 (show l.length * sz = 0 by omega) with h2 | h2
    · exact absurd (List.eq_nil_of_length_eq_zero h2) hn
    · omega
  · injection hv with hA _ _
    subst hA
    refine ⟨g, 0, rfl, (Array.getElem?_eq_some_iff.1 hh).1, fun k x hx j v hv => ?_⟩
    have h3 := h.cells (g := g) rfl (k * sz + j) v (hget l k x hx j v hv)
    simpa [Addr.add_lit] using h3
end

theorem below_drewN {B : Nat} {a w : World} (h : Below B a w) (n : Nat) : Below B a (w.drewN n) := ⟨h.os, h.tape, h.output, h.size, h.block⟩
theorem bnext {w W W' : World} (h : Below w.heap.size w W) (h2 : Below W.heap.size W W') : Below w.heap.size w W' := h.trans (h2.mono h.size)
/-- The cells of a new block, whatever they are. -/
theorem cells_new {w : World} {cs : Array Value} {t : TypeId} {g : Nat} (hg : g = w.heap.size) : ∀ (j : Nat) (u : Value), cs.toList[j]? = some u → (w.alloc (.cells cs t)).cell? ((⟨g, 0, none⟩ : Addr).add j) = some u := by
  intro j u hu
  subst hg
  rw [Addr.add_lit, Nat.zero_add, World.cell?_alloc_new]
  simpa using hu

section
variable {w w' : World} {base base' : Nat} {e e' : TypeId} {sz sz' : Nat} {v v' : Value} {n n' : Nat} {xs xs' : List Value}
/-- Two rows of unlike element types are not one block. -/
theorem own_apart (h : w.ownsRow base e sz v n xs) (h' : w.ownsRow base' e' sz' v' n' xs') (hne : e ≠ e') : v.ownBlock = none ∨ v.ownBlock ≠ v'.ownBlock := by
  rcases h.2 with ⟨rfl, _⟩ | ⟨g, cap, cur, rfl, _, hh, _⟩
  · exact .inl rfl
  rcases h'.2 with ⟨rfl, _⟩ | ⟨g', cap', cur', rfl, _, hh', _⟩
  · right; simp [Value.ownBlock]
  right
  intro hg
  have hg' : g = g' := by simpa [Value.ownBlock] using hg
  subst hg'
  rw [hh] at hh'
  injection hh' with h1
  injection h1 with _ h2
  exact hne h2
theorem own_slice (h : w.ownsRow base e sz v n xs) : ∃ A c, v = .slice A n c ∧ n ≤ c ∧ c ≤ 9223372036854775807 := by
  rcases h.2 with ⟨rfl, rfl⟩ | ⟨g, cap, cur, rfl, _, _, h1, h2, _⟩
  · exact ⟨none, 0, rfl, Nat.le_refl _, by omega⟩
  · exact ⟨_, cap, rfl, h1, by unfold maxLen at h2; exact h2⟩
theorem own_addr (h : w.ownsRow base e sz v n xs) (hn : 0 < n) : ∃ g c, v = .slice (some ⟨g, 0, none⟩) n c ∧ base ≤ g ∧ n ≤ c ∧ c ≤ 9223372036854775807 := by
  rcases h.2 with ⟨rfl, rfl⟩ | ⟨g, cap, cur, rfl, hb, _, h1, h2, _⟩
  · omega
  · exact ⟨g, cap, rfl, hb, h1, by unfold maxLen at h2; exact h2⟩
theorem own_setCell (h : w.ownsRow base e sz v n xs) {g j : Nat} (hg : v.ownBlock ≠ some g) (u : Value) : (w.setCell ⟨g, j, none⟩ u).ownsRow base e sz v n xs :=
  h.kept (row := some g) ⟨rfl, rfl, rfl, by simp [World.setCell], fun k _ hk => Below.heap_setCell _ _ _ _ (fun e => hk (by rw [e]))⟩ (by
    rcases hb : v.ownBlock with _ | k
    · exact .inl rfl
    · right; rw [← hb]; exact hg)
theorem own_below {B : Nat} (h : w.ownsRow base e sz v n xs) (hb : Below B w w') (hB : ∀ g, v.ownBlock = some g → g < B) : w'.ownsRow base e sz v n xs := by
  refine ⟨h.1, ?_⟩
  rcases h.2 with hn | ⟨g, cap, cur, rfl, h1, hh, r⟩
  · exact .inl hn
  · exact .inr ⟨g, cap, cur, rfl, h1, (hb.block g (hB g rfl)).trans hh, r⟩
theorem own_up (h : w.ownsRow base e sz v n xs) (hb : Below w.heap.size w w') : w'.ownsRow base e sz v n xs := own_below h hb fun g hg => (h.lt g hg).2
end
end Go.Proofs.YthiblfkmcdnalaaGreat
