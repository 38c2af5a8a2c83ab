/- The abstract evaluator over this program: table.Right at the two tables that lives meets. -/
import Derived.Test.YthiblfkmcdnalaaGreatAe14
namespace Go.Proofs.YthiblfkmcdnalaaGreat.Ae
open Go.RowKit Go.Proofs.YthiblfkmcdnalaaGreat
set_option maxRecDepth 1000000

noncomputable def saysTrue : Option (AV × Hp × Nat) → Bool
  | some (.e (.l (.c (.bool true))), _, _) => true
  | _ => false
theorem saysTrue_spec {r : Option (AV × Hp × Nat)} (h : saysTrue r = true) : ∃ hp nx, r = some (.e (.l (.c (.bool true))), hp, nx) := by
  unfold saysTrue at h
  split at h
  · rename_i hp nx
    exact ⟨hp, nx, rfl⟩
  · cases h
theorem memo_of {call : Call} (hc : CallSound Tryz.prog call) {e : Memo} (hy : e.y = .e (.l (.c (.bool true)))) (h : saysTrue (call e.f e.args e.n e.hp e.n) = true) (hids : ∀ b ∈ e.hp, b.id < e.n) : MemoOk Tryz.prog e := by
  obtain ⟨hp', nx', hr⟩ := saysTrue_spec h
  exact ⟨call, hp', nx', .bool true, hc, by rw [hr, hy], by rw [hy]; rfl, fun φ => by rw [hy]; rfl, hids⟩
noncomputable def mTabA : Memo := ⟨93, [.e (.g [.s 0 0 16 16])], [⟨0, [.c (.int .i64 (.ofNat 0)), .c (.int .i64 (.ofNat 0)), .c (.int .i64 (.ofNat 0)), .c (.int .i64 (.ofNat 0)), .c (.int .i64 (.ofNat 0)), .c (.int .i64 (.ofNat 0)), .c (.int .i64 (.ofNat 0)), .c (.int .i64 (.ofNat 0)), .c (.int .i64 (.ofNat 0)), .c (.int .i64 (.ofNat 0)), .c (.int .i64 (.ofNat 0)), .c (.int .i64 (.ofNat 0)), .c (.int .i64 (.ofNat 0)), .c (.int .i64 (.ofNat 0)), .c (.int .i64 (.ofNat 0)), .c (.int .i64 (.ofNat 0)), .c (.int .i64 (.ofNat 0)), .c (.int .i64 (.ofNat 0)), .c (.int .i64 (.ofNat 0)), .c (.int .i64 (.ofNat 0)), .c (.int .i64 (.ofNat 0)), .c (.int .i64 (.ofNat 0)), .c (.int .i64 (.ofNat 0)), .c (.int .i64 (.ofNat 0)), .c (.int .i64 (.ofNat 0)), .c (.int .i64 (.ofNat 0)), .c (.int .i64 (.ofNat 0)), .c (.int .i64 (.ofNat 0)), .c (.int .i64 (.ofNat 0)), .c (.int .i64 (.ofNat 0)), .c (.int .i64 (.ofNat 0)), .c (.int .i64 (.ofNat 0))], 236, 0⟩], 1, .e (.l (.c (.bool true)))⟩
theorem mTabA_run : saysTrue (callOf Tryz.prog spec0 (ev Tryz.prog okB spec0 3000) mTabA.f mTabA.args mTabA.n mTabA.hp mTabA.n) = true := by kernel_rfl
theorem mTabA_ok : MemoOk Tryz.prog mTabA := memo_of (run_sound spec0_sound 3000) rfl mTabA_run (by decide)
end Go.Proofs.YthiblfkmcdnalaaGreat.Ae
