/- How an argument that is a slice is opened: it reads as a list, and the list lies in memory. -/
import Derived.Test.YthiblfkmcdnalaaGreatRows
import Derived.Test.YthiblfkmcdnalaaGreatMem
import Derived.WalkKit
import Derived.ProofKit
import Derived.OpenShut
import Derived.ShutString
import Derived.ChangeOld
import Derived.Below
import Derived.Deep.Slices
import Derived.Deep.Strs
namespace Go.Proofs.YthiblfkmcdnalaaGreat
set_option maxRecDepth 1000000
open Go.ChangeShapes Go.WideShapes Go.ChangeAt Go.RowKit

theorem own_ : ownKnob Tryz.prog.godebug = none := by kernel_rfl
theorem laid_ : laidOutB Tryz.prog = true := by kernel_rfl

/-- From 'for every i < n there is an x' to a list. -/
theorem list_of {α : Type} (P : Nat → α → Prop) (n : Nat) (h : ∀ i, i < n → ∃ x, P i x) : ∃ l : List α, l.length = n ∧ ∀ k x, l[k]? = some x → P k x := by
  induction n with
  | zero => exact ⟨[], rfl, fun k x hx => by simp at hx⟩
  | succ n ih =>
    obtain ⟨l, hl, hp⟩ := ih (fun i hi => h i (by omega))
    obtain ⟨x, hx⟩ := h n (by omega)
    refine ⟨l ++ [x], by simp [hl], fun k y hy => ?_⟩
    rcases Nat.lt_or_ge k l.length with h1 | h1
    · rw [List.getElem?_append_left h1] at hy
      exact hp k y hy
    · rw [List.getElem?_append_right h1] at hy
      have hk : k - l.length = 0 := by
        rcases Nat.eq_zero_or_pos (k - l.length) with h2 | h2
        · exact h2
        · rw [List.getElem?_eq_none (by simp; omega)] at hy
          cases hy
      rw [hk] at hy
      simp at hy
      subst hy
      have : k = n := by omega
      subst this
      exact hx

theorem spot_none {w : World} {a : Addr} {v : Value} (h : w.cell? a = some v) : a.spot = none := by
  unfold World.cell? at h
  split at h
  · split at h
    · cases h
    · rename_i hs
      cases hsp : a.spot with
      | none => rfl
      | some x => rw [hsp] at hs; exact absurd rfl hs
  · cases h

section
variable {H : Type} {enc : TypeId × Value → H} {P : Program} {w : World}
theorem open_list {α : Type} {f : α → List Value} {sz : Nat} {Q : α → Prop} {t e : TypeId} {A : Option Addr} {len cap : Nat} {d : DataW H} {p : List MemPlace} (ht : P.underlying t = some (.slice e)) (hC : P.cellsOf e = sz) (hsz : 0 < sz)
    (hf : ∀ x, (f x).length = sz) (el : ∀ (n : Nat) (cs : List Value) (x : DataW H × List MemPlace), cs.length = sz → DataW.trod enc P w 0 (fun _ => true) true n e cs = some x → ∃ y : α, cs = f y ∧ Q y)
    (h : DataW.Trod enc P w 0 (fun _ => true) true t (.slice A len cap) d p) :
    ∃ l : List α, l.length = len ∧ len ≤ cap ∧ cap ≤ 9223372036854775807 ∧ Rd f sz w w.heap.size A l ∧ ∀ (k : Nat) (x : α), l[k]? = some x → Q x := by
  obtain ⟨fuel, hh⟩ := h
  rcases Go.Deep.open_slice ht hh with ⟨hcs, _⟩ | ⟨a, len', cap', m, n, D, Pl, hcs, _, hl, hm, hmm, _, hi⟩
  · simp [Value.cells] at hcs
    obtain ⟨rfl, rfl, rfl⟩ := hcs
    exact ⟨[], rfl, Nat.le_refl _, by omega, Rd.nil, fun k x hx => by simp at hx⟩
  · simp [Value.cells] at hcs
    obtain ⟨rfl, rfl, rfl⟩ := hcs
    simp only [if_true] at hmm
    subst hmm
    obtain ⟨l, hll, hp⟩ := list_of (fun i (y : α) => (∀ j v, (f y)[j]? = some v → w.cell? (a.add (i * sz + j)) = some v) ∧ Q y) len (fun i hi' => by
      obtain ⟨cs', hc, htr⟩ := hi i (by omega)
      rw [hC] at hc
      obtain ⟨_, hcl, hat⟩ := World.cells?_some hc
      obtain ⟨y, rfl, hQ⟩ := el n cs' _ hcl htr
      refine ⟨y, fun j v hv => ?_, hQ⟩
      have hj : j < sz := by rw [← hf y]; exact (List.getElem?_eq_some_iff.1 hv).1
      have := hat j hj
      rw [Go.Deep.add_add, hv] at this
      exact this)
    refine ⟨l, hll, hl, by unfold maxLen at hm; exact hm, fun hne => ?_, fun k x hx => (hp k x hx).2⟩
    obtain ⟨x0, hx0⟩ : ∃ x, l[0]? = some x := by
      cases l with
      | nil => exact absurd rfl hne
      | cons x l => exact ⟨x, rfl⟩
    obtain ⟨v0, hv0⟩ : ∃ v, (f x0)[0]? = some v := ⟨(f x0)[0]'(by rw [hf]; exact hsz), List.getElem?_eq_getElem _⟩
    have h0 := (hp 0 x0 hx0).1 0 v0 hv0
    have ha : a.add (0 * sz + 0) = a := by simp [Addr.add]
    rw [ha] at h0
    have hs := spot_none h0
    obtain ⟨b, off, sp⟩ := a
    simp only at hs
    subst hs
    refine ⟨b, off, rfl, World.block_lt_of_cell? w _ h0, fun k x hx j v hv => ?_⟩
    have := (hp k x hx).1 j v hv
    rw [Addr.add_lit] at this
    rw [Nat.add_assoc]
    exact this
end
end Go.Proofs.YthiblfkmcdnalaaGreat
