/- The contract of lockkeeperlaw10.ref: the clients as the document's, in memory of its own. -/
import Derived.Test.YtlhnmgjoalifpaaBank3
namespace Go.Proofs.Ytlhnmgjoalifpaa
open Go.RowKit

/-- A slice of clients in memory of the call's own, of the document's type. -/
def RefCs (l : List C) (w : World) (e : Ending) (w' : World) : Prop :=
  ∃ A cap, e = .returned (.slice A l.length cap) ∧ l.length ≤ cap ∧ cap ≤ 9223372036854775807 ∧ w'.ownsRow w.heap.size 43 3 (.slice A l.length cap) l.length (l.flatMap C.cells) ∧ Below w.heap.size w w'

theorem Try.infoRef : (Try.prog.info? 43).map (fun i => (i.zero, i.size, i.bytes)) = some (some (.agg #[.int .i64 0, .int .i64 0, .int .i64 0]), 3, 24) := by kernel_rfl

theorem take_snoc_c {l : List C} {k : Nat} {c : C} (h : l[k]? = some c) : (l.take (k + 1)).flatMap C.cells = (l.take k).flatMap C.cells ++ [.int .i64 c.who, .int .i64 c.claim, .int .i64 c.held] := by
  rw [List.take_add_one, h]; simp [C.cells]

set_option maxHeartbeats 1000000 in
theorem ref_any (w : World) (A : Option Addr) (cap : Nat) (l : List C)
    (hm : l.length ≤ 1000000) (hr : Rd C.cells 3 w w.heap.size A l) :
    Calls Try.prog 11 #[.slice A l.length cap] w (RefCs l w) := by
  obtain ⟨i0, hi, hz0, hz1, hz2⟩ := info_parts Try.infoRef
  go_enter Try.func11, Try.ntmps11
  go_wp2_with fail
  go_loopg [3, 8] l.length (fun g v i wr => ∃ (k : Nat) (O : Option Addr) (oc : Nat), k ≤ l.length ∧ g = l.length - k ∧ i = .int .i64 k ∧ v = .slice O k oc ∧
     wr.ownsRow w.heap.size 43 3 (.slice O k oc) k ((l.take k).flatMap C.cells) ∧ Below w.heap.size w wr)
  case atStart => exact ⟨0, none, 0, Nat.zero_le _, rfl, rfl, rfl, World.ownsRow_nil _ _ _ _, Below.refl _ _⟩
  case round =>
    obtain ⟨k, O, oc, hk, hg, rfl, rfl, hown, hb⟩ := hrel
    have Hg := Lib.hid hg; clear hg
    by_cases hlt : k < l.length
    · obtain ⟨c, b, off, hc, rfl, hbb, hcell⟩ := rd_c hr hlt
      obtain ⟨g0, g1, g2⟩ := hcell wr hb
      have hbw : b < wr.heap.size := by have := hb.size; omega
      have Hc := Lib.hid hc; clear hc
      have Hr := Lib.hid hr; clear hr
      clear hcell
      go_wp2_with (at_builtin; refine wpList_append_own _ rfl (.tmp 12) (.tmp 14) 24 rfl w.heap.size 43 i0 (.agg #[.int .i64 0, .int .i64 0, .int .i64 0]) 3 24 Try.underlying24 hi hz0 hz1 hz2 rfl (by decide) _ _ _ rfl ((hown.alloc _).alloc _) ⟨wr.heap.size + 1, 0, none⟩ 1 1 [.int .i64 c.who, .int .i64 c.claim, .int .i64 c.held] rfl rfl ?_ ?_ ?_ ?_ ?_ ?_)
      · exact cells_new (cs := #[.int .i64 c.who, .int .i64 c.claim, .int .i64 c.held]) (by simp)
      · intro u hu; simp at hu; rcases hu with rfl | rfl | rfl <;> rfl
      · unfold maxLen; omega
      · omega
      · have := hb.size; simp; omega
      intro v' w5 hown5 hg5 _
      have hb2 : Below w.heap.size w ((wr.alloc (.cells #[.int .i64 c.who, .int .i64 c.claim, .int .i64 c.held] 37)).alloc (.cells #[.int .i64 c.who, .int .i64 c.claim, .int .i64 c.held] 43)) :=
        (hb.alloc hb.size _).alloc (by have := hb.size; simp; omega) _
      have hb5 : Below w.heap.size w w5 := hb2.grown hg5 hb2.size (fun k hk => (hown.lt k hk).1)
      obtain ⟨A', c', rfl, _, _⟩ := own_slice hown5
      clear hown hg5
      go_wp2_with fail
      go_roundg (l.length - (k + 1))
      case measure => have := Hg.out; omega
      case rel => exact ⟨k + 1, A', c', by omega, rfl, by go_num, rfl, by rw [take_snoc_c Hc.out]; exact hown5, hb5⟩
    · have hkl : k = l.length := by omega
      have Hkl := Lib.hid hkl; clear hkl
      go_wp2_with fail
      go_ret
      obtain ⟨A', c', he, hc1, hc2⟩ := own_slice hown
      injection he with h1 h2 h3
      subst h1
      subst h3
      have e := Hkl.out
      subst e
      refine ⟨O, oc, rfl, hc1, hc2, ?_, hb⟩
      rw [List.take_length] at hown
      exact hown
end Go.Proofs.Ytlhnmgjoalifpaa
