/- The plain laws behind OpsLast, OpsBack. -/
import Derived.Test.YtbnegkkjgkignaaOps8
namespace Go.Proofs.Ytbnegkkjgkignaa

/-- a write of a page that is there -/
theorem write_plain {l : List Pg} {k : Int} {many : Int} {last b : ByteArray} (h : rightM l = true) (h1 : 1 ≤ k) (h2 : k ≤ 16) (hm : 1 ≤ many) (hm2 : many < 2147483647) (hg : getM l k = some ⟨k, many, last⟩) :
    (b.size ≤ 16 → (doM l ⟨3, k, b⟩).2 = ⟨0, ⟨k, many + 1, b⟩⟩ ∧ getM (doM l ⟨3, k, b⟩).1 k = some ⟨k, many + 1, b⟩ ∧ rightM (doM l ⟨3, k, b⟩).1 = true) ∧
    (¬ b.size ≤ 16 → doM l ⟨3, k, b⟩ = (l, ⟨5, pg0⟩)) := by
  have ho : Op.right ⟨3, k, b⟩ = true := opRight_iff.2 ⟨by show (1 : Int) ≤ 3; decide, by show (3 : Int) ≤ 4; decide, h1, h2⟩
  have hD := doM_did (o := ⟨3, k, b⟩) h
  constructor
  · intro hb
    have hs : stepF (getM l k) ⟨3, k, b⟩ = (some ⟨k, many + 1, b⟩, ⟨0, ⟨k, many + 1, b⟩⟩) := by
      rw [hg]
      simp [stepF, ho, pgUp, show ¬ 16 < b.size by omega, show ¬ 2147483647 ≤ many by omega]
    refine ⟨by rw [hD.told]; show (stepF (getM l k) _).2 = _; rw [hs], ?_, hD.right⟩
    rw [hD.get, if_pos rfl]
    show (stepF (getM l k) _).1 = _
    rw [hs]
  · intro hb
    exact doM_eq h (by show stepF (getM l k) _ = (getM l k, _); rw [hg]; simp [stepF, ho, show 16 < b.size by omega])
end Go.Proofs.Ytbnegkkjgkignaa
