/- The contracts of lockkeeperref18.Same and of small. -/
import Derived.Test.YtbnegkkjgkignaaOpsD
import Derived.Test.YtbnegkkjgkignaaQuiet
import Derived.Test.YtbnegkkjgkignaaProg
import Derived.Laws.StructEq
namespace Go.Proofs.Ytbnegkkjgkignaa
open Go.RowKit

theorem body_no {a b : ByteArray} (h : ¬ a = b) : (a.toList == b.toList) = false := by
  rw [ByteArray.toList_eq, ByteArray.toList_eq]
  obtain ⟨⟨x⟩⟩ := a
  obtain ⟨⟨y⟩⟩ := b
  have hxy : ¬ x = y := fun e => h (by rw [e])
  simpa using hxy
theorem eql_pg (w : World) (p q : Pg) : (binOp .eql 31 (.agg #[.int .i64 p.id, .int .i64 p.ver, .string p.body]) (.agg #[.int .i64 q.id, .int .i64 q.ver, .string q.body])).run Try.prog w = .ok (.bool (decide (p = q))) w := by
  by_cases hpq : p = q
  · subst hpq
    go_simp
  · have hc : (¬ p.id = q.id) ∨ (p.id = q.id ∧ ¬ p.ver = q.ver) ∨ (p.id = q.id ∧ p.ver = q.ver ∧ ¬ p.body = q.body) := by
      by_cases h1 : p.id = q.id
      · by_cases h2 : p.ver = q.ver
        · exact .inr (.inr ⟨h1, h2, fun h3 => hpq (by cases p; cases q; simp_all)⟩)
        · exact .inr (.inl ⟨h1, h2⟩)
      · exact .inl h1
    rcases hc with h | ⟨h1, h⟩ | ⟨h1, h2, h⟩
    · go_simp
    · go_simp
    · have := body_no h
      go_simp
theorem neq_pg (w : World) (p q : Pg) : (binOp .neq 31 (.agg #[.int .i64 p.id, .int .i64 p.ver, .string p.body]) (.agg #[.int .i64 q.id, .int .i64 q.ver, .string q.body])).run Try.prog w = .ok (.bool (decide (¬ p = q))) w := by
  have h := eql_pg w p q
  rw [run_eql_struct] at h
  rw [run_neq_struct]
  generalize (Op.equalIn 10000 31 (.agg #[.int .i64 p.id, .int .i64 p.ver, .string p.body]) (.agg #[.int .i64 q.id, .int .i64 q.ver, .string q.body])).run Try.prog w = r at h ⊢
  cases r with
  | ok b w' =>
    simp only [Result.andThen_ok, Result.ok.injEq, Value.bool.injEq] at h ⊢
    obtain ⟨rfl, rfl⟩ := h
    simp
  | halt x w' => simp [Result.andThen] at h

set_option maxHeartbeats 2000000 in
theorem same_any (w : World) (A A2 : Option Addr) (cap cap2 : Nat) (l m : List Pg) (hl : l.length ≤ 1000000) (hm : m.length ≤ 1000000) (hr : Rd Pg.cells 3 w w.heap.size A l) (hr2 : Rd Pg.cells 3 w w.heap.size A2 m) :
    Calls Try.prog 17 #[.slice A l.length cap, .slice A2 m.length cap2] w fun e w' => e = .returned (.bool (decide (l = m))) ∧ Below w.heap.size w w' := by
  have Hr := Lib.hid hr; clear hr
  have Hr2 := Lib.hid hr2; clear hr2
  by_cases hlm : l.length = m.length
  · have hlmi : ((l.length : Int) == (m.length : Int)) = true := by simp [hlm]
    have hlmb : ¬ ((l.length : Int) < (m.length : Int)) := by omega
    rw [← hlm]
    have Hlm := Lib.hid hlm; clear hlm hm hlmi hlmb
    go_enter Try.func17, Try.ntmps17
    go_wp2_with fail
    go_loopg [5] l.length (fun g i wr => ∃ k : Nat, k ≤ l.length ∧ g = l.length - k ∧ i = .int .i64 k ∧ l.take k = m.take k ∧ Below w.heap.size w wr)
    case atStart => exact ⟨0, Nat.zero_le _, rfl, rfl, rfl, Below.refl _ _⟩
    case round =>
      obtain ⟨k, hk, hg, rfl, heq, hb⟩ := hrel
      have Hg := Lib.hid hg; clear hg
      have Heq := Lib.hid heq; clear heq
      by_cases hlt : k < l.length
      · obtain ⟨p, b, off, hp, rfl, hbb, hcell⟩ := rd_p Hr.out hlt
        obtain ⟨q, b2, off2, hq, rfl, hbb2, hcell2⟩ := rd_p Hr2.out (k := k) (by have := Hlm.out; omega)
        obtain ⟨g0, g1, g2⟩ := hcell wr hb
        obtain ⟨x0, x1, x2⟩ := hcell2 wr hb
        have Hp := Lib.hid hp; have Hq := Lib.hid hq; clear hp hq hcell hcell2
        have hki : (k : Int) < (l.length : Int) := by omega
        by_cases hpq : p = q
        · subst hpq
          go_wp2_with fail
          go_quiet (fail)
          go_wp2_with fail
          go_roundg (l.length - (k + 1))
          case measure => have := Hg.out; omega
          case rel => exact ⟨k + 1, by omega, rfl, by go_num, by rw [List.take_add_one, List.take_add_one, Heq.out, Hp.out, Hq.out], below_drewN hb _⟩
        · have hneq : ∀ U, (binOp .neq 31 (.agg #[.int .i64 p.id, .int .i64 p.ver, .string p.body]) (.agg #[.int .i64 q.id, .int .i64 q.ver, .string q.body])).run Try.prog U = .ok (.bool true) U := fun U => by rw [neq_pg, decide_eq_true hpq]
          have Hpq := Lib.hid hpq; clear hpq
          go_wp2_with fail
          go_quiet (fail)
          go_wp2_with fail
          go_ret
          refine ⟨ret_bool (decide_eq_false ?_).symm, below_drewN hb _⟩
          intro e
          have h1 := Hp.out
          have h2 := Hq.out
          rw [e, h2] at h1
          exact Hpq.out (Option.some.inj h1).symm
      · obtain rfl : k = l.length := by omega
        go_wp2_with fail
        go_ret
        refine ⟨ret_bool (decide_eq_true ?_).symm, hb⟩
        have h1 := Heq.out
        rwa [List.take_length, Hlm.out, List.take_length] at h1
  · have hlmb : ((l.length : Int) == (m.length : Int)) = false := by simp; omega
    have hne : ¬ l = m := fun e => hlm (by rw [e])
    have Hne := Lib.hid hne; clear hne hlm
    go_enter Try.func17, Try.ntmps17
    go_wp2_with fail
    go_ret
    exact ⟨ret_bool (decide_eq_false Hne.out).symm, Below.refl _ _⟩
end Go.Proofs.Ytbnegkkjgkignaa
