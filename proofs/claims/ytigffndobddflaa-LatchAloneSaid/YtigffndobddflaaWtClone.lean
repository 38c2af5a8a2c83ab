/- The contract of slices.Clone at latch.Wait: the same list, in memory of the call's own. -/
import Derived.Test.YtigffndobddflaaProg
import Derived.Test.YtigffndobddflaaApp
import Derived.Test.YtigffndobddflaaLat1
namespace Go.Proofs.Ytigffndobddflaa
open Go.RowKit

theorem Try.infoWt : (Try.prog.info? 58).map (fun i => (i.zero, i.size, i.bytes)) = some (some (.agg #[.int .i64 0, .bool false]), 2, 16) := by kernel_rfl
/-- a list in memory of the call's own -/
def OwnWt (l : List Wt) (w : World) (e : Ending) (w' : World) : Prop :=
  ∃ A cap, e = .returned (.slice A l.length cap) ∧ w'.ownsRow w.heap.size 58 2 (.slice A l.length cap) l.length (l.flatMap Wt.cells) ∧ Below w.heap.size w w'

set_option maxHeartbeats 1000000 in
theorem clone_Wt (w : World) (A : Option Addr) (cap : Nat) (l : List Wt) (hl : l.length ≤ 1000000) (hf : ∀ x : Wt, (Wt.cells x).length = 2) (h1 : ∀ x : Wt, ∀ u ∈ Wt.cells x, u.oneCell' = true) (hr : Rd Wt.cells 2 w w.heap.size A l) :
    Calls Try.prog 24 #[.slice A l.length cap] w (OwnWt l w) := by
  obtain ⟨i0, hi, hz0, hz1, hz2⟩ := info_parts Try.infoWt
  have hnil := fun (W : World) (B : Option Addr) (n c : Nat) => Lib.run_eql_slice_nil (P := Try.prog) W 23 58 B n c 0 0 Try.underlying23
  cases A with
  | none =>
    obtain rfl := List.eq_nil_of_length_eq_zero (hr.none_len rfl)
    clear hf h1
    go_enter Try.func24, Try.ntmps24
    go_wp2_with fail
    go_ret
    exact ⟨none, 0, rfl, World.ownsRow_nil _ _ _ _, Below.refl _ _⟩
  | some ad =>
    have Hf := Lib.hid hf; clear hf
    have H1 := Lib.hid h1; clear h1
    have hlen := flat_len Hf.out l
    have Hlen := Lib.hid hlen; clear hlen
    have Hr := Lib.hid hr; clear hr
    go_enter Try.func24, Try.ntmps24
    go_wp2_with (at_builtin; refine list_app rfl (.tmp 5) (.tmp 6) 23 rfl w.heap.size 58 i0 (.agg #[.int .i64 0, .bool false]) 2 16 Try.underlying23 hi hz0 hz1 hz2 rfl (by decide) rfl (own_made (g := w.heap.size) (Nat.le_refl _) rfl) (A := some ad) (m := l.length) (news := l.flatMap Wt.cells) rfl Hlen.out (by simp) ?_ (flat_one H1.out l) ?_ ?_ ?_ ?_)
    · exact (Hr.out.below ((Below.refl _ _).alloc (Nat.le_refl _) _)).srcs Hf.out
    · unfold maxLen; omega
    · omega
    · simp
    intro v' w5 ho5 hg5 _
    have hb5 : Below w.heap.size w w5 := ((Below.refl _ _).alloc (Nat.le_refl _) _).grown hg5 (by simp) (by simp [Value.ownBlock])
    obtain ⟨A', c', rfl, _, _⟩ := own_slice ho5
    have Ho5 := Lib.hid ho5; clear ho5 hg5
    go_wp2_with fail
    go_ret
    exact ⟨A', c', rfl, Ho5.out, hb5⟩
end Go.Proofs.Ytigffndobddflaa
