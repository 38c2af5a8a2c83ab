/- An array in memory: the zero value of [256]bool; its cells read and stored into. -/
import Derived.Test.YtigffndobddflaaLat1
namespace Go.Proofs.Ytigffndobddflaa
open Go.RowKit

@[irreducible] def zs256 : Array Value := Array.replicate 256 (.bool false)
theorem Try.info256 : (Try.prog.info? 55).map (fun i => (i.zero, i.size, i.bytes)) = some (some (.agg zs256), 256, 256) := by kernel_rfl
theorem zero_of {P : Program} {t : TypeId} {i : TypeInfo} {z : Value} (hi : P.info? t = some i) (hz : i.zero = some z) (w : World) : (zeroValue t).run P w = .ok z w := by
  unfold zeroValue typeInfo
  simp [Sem.run_bind, go_sem, hi, hz]
theorem zero256 (w : World) : (zeroValue 55).run Try.prog w = .ok (.agg zs256) w := by
  obtain ⟨i, hi, hz, _, _⟩ := info_parts Try.info256
  exact zero_of hi hz w
theorem zs256_ne : ¬ zs256 = #[] := by
  intro h
  have : zs256.size = 256 := by unfold zs256; simp
  rw [h] at this
  simp at this
theorem zs256_get {k : Nat} (h : k < 256) : zs256[k]? = some (.bool false) := by
  unfold zs256
  simp [h]
/-- n cells of block P hold what f says -/
structure AR (P n : Nat) (f : Nat → Value) (U : World) : Prop where
  cell : ∀ k, k < n → U.cell? ⟨P, k, none⟩ = some (f k)
  froz : ∀ k, k < n → U.frozen? ⟨P, k, none⟩ = false
  lt : P < U.heap.size
section
variable {P n : Nat} {f f' : Nat → Value} {U U' : World}
theorem AR.keep (H : AR P n f U) (hk : U'.heap[P]? = U.heap[P]?) : AR P n f U' :=
  ⟨fun k h => (World.cell?_of_block (a := ⟨P, k, none⟩) hk).trans (H.cell k h), fun k h => (World.frozen?_of_block (a := ⟨P, k, none⟩) hk).trans (H.froz k h), lt_of_keep hk H.lt⟩
theorem AR.up {B : Nat} (H : AR P n f U) (hb : Below B U U') (hP : P < B) : AR P n f U' := H.keep (hb.block P hP)
theorem AR.of {cs : Array Value} {t : TypeId} (hU : U.heap[P]? = some (.cells cs t (0, 0))) (hf : ∀ k, k < n → cs[k]? = some (f k)) : AR P n f U :=
  ⟨fun k h => (cells_of hU k).trans (hf k h), fun k _ => frozen_of hU k, (Array.getElem?_eq_some_iff.1 hU).1⟩
theorem AR.set (H : AR P n f U) {j : Nat} (v : Value) (hj : j < n) : AR P n (fun k => if k = j then v else f k) (U.setCell ⟨P, j, none⟩ v) := by
  refine ⟨fun k h => ?_, fun k h => ?_, by simpa using H.lt⟩
  · by_cases hk : k = j
    · subst hk
      simp only [if_pos]
      exact World.cell?_setCell_same _ _ _ (H.cell k h)
    · rw [if_neg hk, World.cell?_setCell_other _ _ _ _ (fun e => hk (Addr.mk.inj e).2.1.symm)]
      exact H.cell k h
  · rw [World.frozen?_setCell]
    exact H.froz k h
theorem AR.congr (H : AR P n f U) (h : ∀ k, k < n → f k = f' k) : AR P n f' U := ⟨fun k hk => by rw [← h k hk]; exact H.cell k hk, H.froz, H.lt⟩
end
end Go.Proofs.Ytigffndobddflaa
