/- The document's answer for a latch: may, In. -/
import Derived.Test.YtigffndobddflaaLatA
namespace Go.Proofs.Ytigffndobddflaa
open Go.RowKit

set_option maxHeartbeats 2000000 in
theorem refMay_any (w : World) (A Q : Option Addr) (ac qc : Nat) (l : La) (hq : Rd Wt.cells 2 w w.heap.size Q l.q) :
    Calls Try.prog 21 #[.agg #[.slice A l.hs.length ac, .bool l.ex, .slice Q l.q.length qc]] w fun e w' => e = .returned (.bool l.open) ∧ Below w.heap.size w w' := by
  obtain ⟨W, hW, hbW, hsW, hB⟩ := la_box w A Q ac qc l 28
  have Hq := Lib.hid (hq.up hbW)
  have HbW := Lib.hid hbW
  obtain ⟨c0, c1, c2, _, _, _, lt⟩ := hB
  have hW' := hW.symm
  clear hW hbW hq
  by_cases hq0 : l.q.length = 0
  · have hqi : ((l.q.length : Int) == 0) = true := by rw [hq0]; rfl
    have hne : l.open = false := by
      have : l.q = [] := List.eq_nil_of_length_eq_zero hq0
      rw [La.open, this]; rfl
    have Hne := Lib.hid hne; clear hne hq0
    go_enter Try.func21, Try.ntmps21
    go_wp2_with fail
    go_ret
    exact ⟨ret_bool Hne.out.symm, HbW.out⟩
  have hqi : ((l.q.length : Int) == 0) = false := by rw [beq_eq_false_iff_ne]; omega
  have hql : (0 : Int) < (l.q.length : Int) := by omega
  have hqn : 0 < l.q.length := by omega
  obtain ⟨t, b, off, ht, rfl, hbb, hcell⟩ := rd_w Hq.out (k := 0) (by omega)
  obtain ⟨g0, g1⟩ := hcell W (Below.refl _ _)
  simp only [Nat.zero_mul, Nat.add_zero] at g0 g1
  have hop := openW_at (hs := l.hs) (ex := l.ex) ht
  rw [show openW l.hs l.ex l.q = l.open from rfl] at hop
  clear hcell ht hq0
  by_cases h0 : l.hs.length = 0
  · have hhi : ((l.hs.length : Int) == 0) = true := by rw [h0]; rfl
    rw [decide_eq_true h0, Bool.true_or] at hop
    have Hop := Lib.hid hop
    clear hop h0
    go_enter Try.func21, Try.ntmps21
    go_wp2_with fail
    go_ret
    exact ⟨ret_bool Hop.out.symm, HbW.out⟩
  have hhi : ((l.hs.length : Int) == 0) = false := by rw [beq_eq_false_iff_ne]; omega
  rw [decide_eq_false h0, Bool.false_or] at hop
  obtain ⟨lx, hlx⟩ : ∃ lx, lx = l.ex := ⟨_, rfl⟩
  obtain ⟨tx, htx⟩ : ∃ tx, tx = t.ex := ⟨_, rfl⟩
  rw [← hlx, ← htx] at hop
  rw [← hlx] at c1 hW' ⊢
  rw [← htx] at g1
  have Hop := Lib.hid hop
  clear hop h0 hlx htx
  cases lx <;> cases tx
  all_goals
    go_enter Try.func21, Try.ntmps21
    go_wp2_with fail
    go_ret
    exact ⟨ret_bool Hop.out.symm, HbW.out⟩

def cntH (l : List Int) (who : Int) : Nat := l.countP (fun n => decide (n = who))
def cntW (l : List Wt) (who : Int) : Nat := l.countP (fun t => decide (t.who = who))
theorem cntH_snoc {l : List Int} {k : Nat} {c : Int} (who : Int) (h : l[k]? = some c) : cntH (l.take (k + 1)) who = cntH (l.take k) who + if c = who then 1 else 0 := by
  rw [cntH, cntH, List.take_add_one, h]; simp [List.countP_append, List.countP_cons]
theorem cntW_snoc {l : List Wt} {k : Nat} {c : Wt} (who : Int) (h : l[k]? = some c) : cntW (l.take (k + 1)) who = cntW (l.take k) who + if c.who = who then 1 else 0 := by
  rw [cntW, cntW, List.take_add_one, h]; simp [List.countP_append, List.countP_cons]
theorem cntH_le (l : List Int) (who : Int) : cntH l who ≤ l.length := List.countP_le_length
theorem cntW_le (l : List Wt) (who : Int) : cntW l who ≤ l.length := List.countP_le_length
def cntL (l : La) (who : Int) : Nat := cntH l.hs who + cntW l.q who

set_option maxHeartbeats 2000000 in
theorem refIn_any (w : World) (A Q : Option Addr) (ac qc : Nat) (l : La) (who : Int) (hl1 : l.hs.length ≤ 1000) (hl2 : l.q.length ≤ 1000) (hr : Rd icells 1 w w.heap.size A l.hs) (hq : Rd Wt.cells 2 w w.heap.size Q l.q) :
    Calls Try.prog 12 #[.agg #[.slice A l.hs.length ac, .bool l.ex, .slice Q l.q.length qc], .int .i64 who] w fun e w' => e = .returned (.int .i64 ((cntL l who : Nat) : Int)) ∧ Below w.heap.size w w' := by
  obtain ⟨W, hW, hbW, hsW, hB⟩ := la_box w A Q ac qc l 28
  have Hr := Lib.hid (hr.up hbW)
  have Hq := Lib.hid (hq.up hbW)
  have HbW := Lib.hid hbW
  obtain ⟨c0, c1, c2, _, _, _, lt⟩ := hB
  have hW' := hW.symm
  clear hW hbW hr hq
  go_enter Try.func12, Try.ntmps12
  go_wp2_with fail
  go_loopg [5, 6] l.hs.length (fun g n i wr => ∃ k : Nat, k ≤ l.hs.length ∧ g = l.hs.length - k ∧ i = .int .i64 k ∧ n = .int .i64 ((cntH (l.hs.take k) who : Nat) : Int) ∧ wr = W)
  case atStart => exact ⟨0, Nat.zero_le _, rfl, rfl, by simp [cntH], rfl⟩
  case round =>
    obtain ⟨k, hk, hg, rfl, rfl, rfl⟩ := hrel
    have Hg := Lib.hid hg; clear hg
    have h4 := cntH_le (l.hs.take k) who
    rw [List.length_take] at h4
    clear hW'
    by_cases hlt : k < l.hs.length
    · obtain ⟨c, b, off, hc, rfl, hbb, hcell⟩ := rd_i Hr.out hlt
      have g0 := hcell _ (Below.refl _ _)
      have hki : (k : Int) < (l.hs.length : Int) := by omega
      have hsn := cntH_snoc who hc
      obtain ⟨n, hn⟩ : ∃ n, n = cntH (l.hs.take k) who := ⟨_, rfl⟩
      rw [← hn] at h4 hsn ⊢
      have Hsn := Lib.hid hsn
      clear hcell hc hn hsn
      by_cases hw : c = who
      · have hwb : (c == who) = true := by simpa using hw
        clear hw
        go_wp2_with fail
        go_roundg (l.hs.length - (k + 1))
        case measure => have := Hg.out; omega
        case rel => exact ⟨k + 1, by omega, rfl, by go_num, by rw [Hsn.out, if_pos (by simpa using hwb)]; go_num, rfl⟩
      · have hwb : (c == who) = false := by simpa using hw
        clear hw
        go_wp2_with fail
        go_roundg (l.hs.length - (k + 1))
        case measure => have := Hg.out; omega
        case rel => exact ⟨k + 1, by omega, rfl, by go_num, by rw [Hsn.out, if_neg (by simpa using hwb)]; rfl, rfl⟩
    · obtain rfl : k = l.hs.length := by omega
      rw [List.take_length]
      obtain ⟨m, hm⟩ : ∃ m, m = cntH l.hs who := ⟨_, rfl⟩
      have hm1 : m ≤ l.hs.length := by rw [hm]; exact cntH_le _ _
      rw [← hm]
      have Hm := Lib.hid hm
      clear hm h4
      go_wp2_with fail
      go_loopg [5, 7] l.q.length (fun g n i wz => ∃ k : Nat, k ≤ l.q.length ∧ g = l.q.length - k ∧ i = .int .i64 k ∧ n = .int .i64 ((m + cntW (l.q.take k) who : Nat) : Int) ∧ wz = wr)
      case atStart => exact ⟨0, Nat.zero_le _, rfl, rfl, by simp [cntW], rfl⟩
      case round =>
        obtain ⟨k, hk, hg, rfl, rfl, rfl⟩ := hrel
        have Hg := Lib.hid hg; clear hg
        have h4 := cntW_le (l.q.take k) who
        rw [List.length_take] at h4
        by_cases hlt : k < l.q.length
        · obtain ⟨c, b, off, hc, rfl, hbb, hcell⟩ := rd_w Hq.out hlt
          obtain ⟨g0, g1⟩ := hcell _ (Below.refl _ _)
          have hki : (k : Int) < (l.q.length : Int) := by omega
          have hsn := cntW_snoc who hc
          obtain ⟨n, hn⟩ : ∃ n, n = cntW (l.q.take k) who := ⟨_, rfl⟩
          rw [← hn] at h4 hsn ⊢
          have Hsn := Lib.hid hsn
          obtain ⟨n2, hn2⟩ : ∃ n2, n2 = m + n := ⟨_, rfl⟩
          rw [← hn2]
          have Hn2 := Lib.hid hn2
          have hn3 : n2 ≤ 2000 := by omega
          clear hcell hc hn hsn hn2
          by_cases hw : c.who = who
          · have hwb : (c.who == who) = true := by simpa using hw
            clear hw
            go_wp2_with fail
            go_roundg (l.q.length - (k + 1))
            case measure => have := Hg.out; omega
            case rel => exact ⟨k + 1, by omega, rfl, by go_num, by rw [Hsn.out, if_pos (by simpa using hwb), ← Nat.add_assoc, ← Hn2.out]; go_num, rfl⟩
          · have hwb : (c.who == who) = false := by simpa using hw
            clear hw
            go_wp2_with fail
            go_roundg (l.q.length - (k + 1))
            case measure => have := Hg.out; omega
            case rel => exact ⟨k + 1, by omega, rfl, by go_num, by rw [Hsn.out, if_neg (by simpa using hwb), Nat.add_zero, ← Hn2.out], rfl⟩
        · obtain rfl : k = l.q.length := by omega
          go_wp2_with fail
          go_ret
          refine ⟨ret_val ?_, HbW.out⟩
          rw [List.take_length, Hm.out]
          rfl
end Go.Proofs.Ytigffndobddflaa
