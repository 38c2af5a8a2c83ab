/- lives returns true, from every world, in every order. -/
import Derived.Test.YthiblfkmcdnalaaGreatAe17
namespace Go.Proofs.YthiblfkmcdnalaaGreat.Ae
open Go.RowKit Go.Proofs.YthiblfkmcdnalaaGreat
set_option maxRecDepth 1000000

theorem lives_run : saysTrue (callOf Tryz.prog spec2 (ev Tryz.prog okB spec2 3000) 4 [] 0 [] 0) = true := by kernel_rfl
theorem lives_any (w : World) : Calls Tryz.prog 4 #[] w fun e w' => e = .returned (.bool true) ∧ Below w.heap.size w w' := by
  obtain ⟨hp', nx', h⟩ := saysTrue_spec lives_run
  have hR : R (fun _ => none) ([] : Hp) 0 w := ⟨fun b hb => (by cases hb), fun b hb => (by cases hb), fun b hb => (by cases hb)⟩
  refine Calls.mono (run_sound spec2_sound 3000 _ _ _ _ _ _ _ _ h (fun _ => none) w #[] .nil hR (fun _ _ _ => rfl)) ?_
  rintro e w' ⟨v, rfl, φ', hE, hv, hR', hF⟩
  obtain rfl : v = .bool true := hv
  exact ⟨rfl, ⟨hF.os, hF.tape, hF.output, hF.size, fun g hg => hF.blk g hg fun ⟨b, hb, _⟩ => by cases hb⟩⟩
end Go.Proofs.YthiblfkmcdnalaaGreat.Ae
