/- The abstract evaluator over this program: table.Right with page 3 in it. -/
import Derived.Test.YthiblfkmcdnalaaGreatAe15
namespace Go.Proofs.YthiblfkmcdnalaaGreat.Ae
open Go.RowKit Go.Proofs.YthiblfkmcdnalaaGreat
set_option maxRecDepth 1000000

noncomputable def mTabB : Memo := ⟨93, [.e (.g [.u 0 0 16 0])], [⟨0, [.c (.int .i64 (.ofNat 0)), .c (.int .i64 (.ofNat 0)), .c (.int .i64 (.ofNat 0)), .c (.int .i64 (.ofNat 0)), .c (.int .i64 (.ofNat 0)), .c (.int .i64 (.ofNat 0)), .c (.int .i64 (.ofNat 3)), .c (.int .i64 (.ofNat 0)), .c (.int .i64 (.ofNat 0)), .c (.int .i64 (.ofNat 0)), .c (.int .i64 (.ofNat 0)), .c (.int .i64 (.ofNat 0)), .c (.int .i64 (.ofNat 0)), .c (.int .i64 (.ofNat 0)), .c (.int .i64 (.ofNat 0)), .c (.int .i64 (.ofNat 0)), .c (.int .i64 (.ofNat 0)), .c (.int .i64 (.ofNat 0)), .c (.int .i64 (.ofNat 0)), .c (.int .i64 (.ofNat 0)), .c (.int .i64 (.ofNat 0)), .c (.int .i64 (.ofNat 0)), .c (.int .i64 (.ofNat 0)), .c (.int .i64 (.ofNat 0)), .c (.int .i64 (.ofNat 0)), .c (.int .i64 (.ofNat 0)), .c (.int .i64 (.ofNat 0)), .c (.int .i64 (.ofNat 0)), .c (.int .i64 (.ofNat 0)), .c (.int .i64 (.ofNat 0)), .c (.int .i64 (.ofNat 0)), .c (.int .i64 (.ofNat 0))], 236, 2⟩], 1, .e (.l (.c (.bool true)))⟩
theorem mTabB_run : saysTrue (callOf Tryz.prog spec0 (ev Tryz.prog okB spec0 3000) mTabB.f mTabB.args mTabB.n mTabB.hp mTabB.n) = true := by kernel_rfl
theorem mTabB_ok : MemoOk Tryz.prog mTabB := memo_of (run_sound spec0_sound 3000) rfl mTabB_run (by decide)
noncomputable def spec1 : Call := orSpec spec0 (memoSpec [mTabA, mTabB])
theorem spec1_sound : CallSound Tryz.prog spec1 := orSpec_sound spec0_sound (memoSpec_sound fun e he => by
  simp only [List.mem_cons, List.mem_nil_iff, or_false] at he
  rcases he with rfl | rfl
  · exact mTabA_ok
  · exact mTabB_ok)
end Go.Proofs.YthiblfkmcdnalaaGreat.Ae
