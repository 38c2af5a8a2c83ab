/- A region that draws: three operations are up. -/
import Derived.Test.YtigffndobddflaaRegC
namespace Go.Proofs.Ytigffndobddflaa
open Go.RowKit
section
variable {P : Program} {md : Region.Mode} {C : World → Prop} {Q : Exit → Act → World → Prop}
/-- three operations are up -/
theorem threeC {l : List Oper} {i j k : Nat} {oi oj ok : Oper} {fuel : Nat} {listed listed1 listed2 listed3 : Array Bool} {a : Act} {w : World} (hr : Region.ready md l.toArray listed = [i, j, k]) (hi : l.toArray[i]? = some oi) (hj : l.toArray[j]? = some oj) (hk : l.toArray[k]? = some ok)
    (hl1 : listed.setIfInBounds i true = listed1) (hl2 : listed.setIfInBounds j true = listed2) (hl3 : listed.setIfInBounds k true = listed3)
    (hwi : Region.wanted oi (yielded l.toArray a.tmps) = true) (hwj : Region.wanted oj (yielded l.toArray a.tmps) = true) (hwk : Region.wanted ok (yielded l.toArray a.tmps) = true)
    (h1 : ∀ K : Act → World → Prop, (∀ a' w', C w' → wpAnyC P md l.toArray C Q fuel listed1 a' w' → K a' w') → oi.wp P a w K Q)
    (h2 : ∀ K : Act → World → Prop, (∀ a' w', C w' → wpAnyC P md l.toArray C Q fuel listed2 a' w' → K a' w') → oj.wp P a w K Q)
    (h3 : ∀ K : Act → World → Prop, (∀ a' w', C w' → wpAnyC P md l.toArray C Q fuel listed3 a' w' → K a' w') → ok.wp P a w K Q) : wpAnyC P md l.toArray C Q (fuel + 1) listed a w := by
  refine ⟨fun h0 => (by rw [hr] at h0; cases h0), fun m hm => ?_⟩
  rw [hr] at hm
  rcases List.mem_cons.1 hm with rfl | hm
  · unfold wpOp
    simp only [hi, hwi, if_true]
    exact .inl (h1 _ fun a' w' h4 h5 => ⟨h4, hl1 ▸ h5⟩)
  rcases List.mem_cons.1 hm with rfl | hm
  · unfold wpOp
    simp only [hj, hwj, if_true]
    exact .inl (h2 _ fun a' w' h4 h5 => ⟨h4, hl2 ▸ h5⟩)
  · obtain rfl : m = k := by simpa using hm
    unfold wpOp
    simp only [hk, hwk, if_true]
    exact .inl (h3 _ fun a' w' h4 h5 => ⟨h4, hl3 ▸ h5⟩)
end
end Go.Proofs.Ytigffndobddflaa
