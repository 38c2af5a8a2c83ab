/- The document's answer for halls: Least, In, Held, may, Safe. -/
import Derived.Test.YthhfhgkkfaghoaaAdmQ
namespace Go.Proofs.Ythhfhgkkfaghoaa
open Go.RowKit

def cntC (l : List C) (who : Int) : Nat := l.countP (fun c => decide (c.who = who))
def cntT (l : List T) (who : Int) : Nat := l.countP (fun t => decide (t.who = who))
theorem cntC_snoc {l : List C} {k : Nat} {c : C} (who : Int) (h : l[k]? = some c) : cntC (l.take (k + 1)) who = cntC (l.take k) who + if c.who = who then 1 else 0 := by
  rw [cntC, cntC, List.take_add_one, h]; simp [List.countP_append, List.countP_cons]
theorem cntT_snoc {l : List T} {k : Nat} {c : T} (who : Int) (h : l[k]? = some c) : cntT (l.take (k + 1)) who = cntT (l.take k) who + if c.who = who then 1 else 0 := by
  rw [cntT, cntT, List.take_add_one, h]; simp [List.countP_append, List.countP_cons]
theorem cntC_le (l : List C) (who : Int) : cntC l who ≤ l.length := List.countP_le_length
theorem cntT_le (l : List T) (who : Int) : cntT l who ≤ l.length := List.countP_le_length

theorem refLeast_any (w : World) (A Q : Option Addr) (ac qc : Nat) (x : Hall) :
    Calls Try.prog 33 #[.agg #[.int .i64 x.frames, .int .i64 x.budget, .slice A x.cs.length ac, .slice Q x.q.length qc]] w fun e w' => e = .returned (.int .i64 x.least) ∧ Below w.heap.size w w' := by
  rcases Int.lt_or_le x.frames x.budget with h2 | h2
  · have e : x.least = x.frames := by rw [Hall.least, if_pos h2]
    have He := Lib.hid e; clear e
    go_enter Try.func33, Try.ntmps33
    go_wp2_with fail
    go_ret
    rw [He.out]
    exact ⟨rfl, (Below.refl _ _).alloc (Nat.le_refl _) _⟩
  · have e : x.least = x.budget := by rw [Hall.least, if_neg (by omega)]
    have He := Lib.hid e; clear e
    go_enter Try.func33, Try.ntmps33
    go_wp2_with fail
    go_ret
    rw [He.out]
    exact ⟨rfl, (Below.refl _ _).alloc (Nat.le_refl _) _⟩

set_option maxHeartbeats 2000000 in
theorem refHeld_any (w : World) (A Q : Option Addr) (ac qc : Nat) (x : Hall) (hl : x.cs.length ≤ 1000) (hs : smallC x.cs) (hr : Rd C.cells 3 w w.heap.size A x.cs) :
    Calls Try.prog 16 #[.agg #[.int .i64 x.frames, .int .i64 x.budget, .slice A x.cs.length ac, .slice Q x.q.length qc]] w fun e w' => e = .returned (.int .i64 (heldS x.cs)) ∧ Below w.heap.size w w' := by
  obtain ⟨W, hW, hbW, hsW, hB⟩ := hall_box w A Q ac qc x 29
  have Hr := Lib.hid (hr.up hbW)
  have HbW := Lib.hid hbW
  have HB' := Lib.hid hB
  have hW' := hW.symm
  have Hs := Lib.hid hs
  obtain ⟨c0, c1, c2, c3, _, _, _, _, lt⟩ := hB
  clear hW hbW hr hs
  go_enter Try.func16, Try.ntmps16
  go_wp2_with fail
  go_loopg [3, 4] x.cs.length (fun g n i wr => ∃ k : Nat, k ≤ x.cs.length ∧ g = x.cs.length - k ∧ i = .int .i64 k ∧ n = .int .i64 (heldS (x.cs.take k)) ∧ wr = W)
  case atStart => exact ⟨0, Nat.zero_le _, rfl, rfl, by simp [heldS], rfl⟩
  case round =>
    obtain ⟨k, hk, hg, rfl, rfl, rfl⟩ := hrel
    have Hg := Lib.hid hg; clear hg
    have h4 := heldS_le Hs.out k
    by_cases hlt : k < x.cs.length
    · obtain ⟨c, b, off, hc, rfl, hbb, hcell⟩ := rd_c Hr.out hlt
      obtain ⟨g0, g1, g2⟩ := hcell _ (Below.refl _ _)
      have h5 := Hs.out k c hc
      have hki : (k : Int) < (x.cs.length : Int) := by omega
      have hsn := heldS_snoc hc
      have ew : IntKind.i64.wrap (heldS (x.cs.take k) + c.held) = heldS (x.cs.take (k + 1)) := by rw [IntWalk.i64_in _ (by omega), hsn]
      clear hcell hc hW' h4 h5 hsn
      go_wp2_with fail
      go_roundg (x.cs.length - (k + 1))
      case measure => have := Hg.out; omega
      case rel => exact ⟨k + 1, by omega, rfl, by go_num, rfl, rfl⟩
    · obtain rfl : k = x.cs.length := by omega
      clear hW'
      go_wp2_with fail
      go_ret
      refine ⟨ret_val ?_, HbW.out⟩
      rw [List.take_length]
      rfl

set_option maxHeartbeats 2000000 in
theorem refMay_any (w : World) (A Q : Option Addr) (ac qc : Nat) (x : Hall) (hx : x.small) (hr : Rd C.cells 3 w w.heap.size A x.cs) (hq : Rd T.cells 2 w w.heap.size Q x.q) :
    Calls Try.prog 42 #[.agg #[.int .i64 x.frames, .int .i64 x.budget, .slice A x.cs.length ac, .slice Q x.q.length qc]] w fun e w' => e = .returned (.bool x.open) ∧ Below w.heap.size w w' := by
  obtain ⟨W, hW, hbW, hsW, hB⟩ := hall_box w A Q ac qc x 29
  have Hr := Lib.hid (hr.up hbW)
  have Hq := Lib.hid (hq.up hbW)
  have HbW := Lib.hid hbW
  have HB' := Lib.hid hB
  obtain ⟨c0, c1, c2, c3, _, _, _, _, lt⟩ := hB
  have hW' := hW.symm
  have Hx := Lib.hid hx
  have h3 := hx.len
  clear hW hbW hr hx hq
  by_cases hq0 : x.q.length = 0
  · have hqi : ((x.q.length : Int) == 0) = true := by rw [hq0]; rfl
    have hne : x.open = false := by
      have : x.q = [] := List.eq_nil_of_length_eq_zero hq0
      rw [Hall.open, this]; rfl
    have Hne := Lib.hid hne; clear hne hq0
    go_enter Try.func42, Try.ntmps42
    go_wp2_with fail
    go_ret
    exact ⟨ret_bool Hne.out.symm, HbW.out⟩
  have hqi : ((x.q.length : Int) == 0) = false := by rw [beq_eq_false_iff_ne]; omega
  by_cases h8 : (7 : Int) < (x.cs.length : Int)
  · go_enter Try.func42, Try.ntmps42
    go_wp2_with fail
    go_ret
    exact ⟨ret_bool (openQ_full (by omega)).symm, HbW.out⟩
  obtain ⟨t, b, off, ht, rfl, hbb, hcell⟩ := rd_t Hq.out (k := 0) (by omega)
  obtain ⟨g0, g1⟩ := hcell W (Below.refl _ _)
  simp only [Nat.zero_mul, Nat.add_zero] at g0 g1
  have h5 := Hx.out.tk 0 t ht
  have hop := openQ_at (f := x.frames) (cs := x.cs) (by omega) ht
  have Hop := Lib.hid hop
  have hql : (0 : Int) < (x.q.length : Int) := by omega
  have hqn : 0 < x.q.length := by omega
  clear hop hcell ht
  go_enter Try.func42, Try.ntmps42
  go_wp2_with fail
  go_loopg [3, 4] x.cs.length (fun g n i wr => ∃ k : Nat, k ≤ x.cs.length ∧ g = x.cs.length - k ∧ i = .int .i64 k ∧ n = .int .i64 (t.claim + claimS (x.cs.take k)) ∧ wr = W)
  case atStart => exact ⟨0, Nat.zero_le _, rfl, rfl, by simp [claimS], rfl⟩
  case round =>
    obtain ⟨k, hk, hg, rfl, rfl, rfl⟩ := hrel
    have Hg := Lib.hid hg; clear hg
    have h1 := Hx.out.f1; have h2 := Hx.out.f2; have h4 := claimS_le Hx.out.cl k
    clear hW' g0 g1
    by_cases hlt : k < x.cs.length
    · obtain ⟨c, b, off, hc, rfl, hbb, hcell⟩ := rd_c Hr.out hlt
      obtain ⟨g0, g1, g2⟩ := hcell _ (Below.refl _ _)
      have h6 := Hx.out.cl k c hc
      have hki : (k : Int) < (x.cs.length : Int) := by omega
      have hsn := claimS_snoc hc
      have ew : IntKind.i64.wrap (t.claim + claimS (x.cs.take k) + c.claim) = t.claim + claimS (x.cs.take (k + 1)) := by rw [IntWalk.i64_in _ (by omega), hsn]; omega
      clear hcell hc h1 h2 h4 h5 h6 hsn
      go_wp2_with fail
      go_roundg (x.cs.length - (k + 1))
      case measure => have := Hg.out; omega
      case rel => exact ⟨k + 1, by omega, rfl, by go_num, rfl, rfl⟩
    · obtain rfl : k = x.cs.length := by omega
      rw [List.take_length] at h4 ⊢
      have ew : IntKind.i64.wrap (2 * x.frames) = 2 * x.frames := IntWalk.i64_in _ (by omega)
      clear h4 h5
      go_wp2_with fail
      go_ret
      exact ⟨ret_bool Hop.out.symm, HbW.out⟩

set_option maxHeartbeats 2000000 in
theorem refIn_any (w : World) (A Q : Option Addr) (ac qc : Nat) (x : Hall) (who : Int) (hl1 : x.cs.length ≤ 1000) (hl2 : x.q.length ≤ 1000) (hr : Rd C.cells 3 w w.heap.size A x.cs) (hq : Rd T.cells 2 w w.heap.size Q x.q) :
    Calls Try.prog 34 #[.agg #[.int .i64 x.frames, .int .i64 x.budget, .slice A x.cs.length ac, .slice Q x.q.length qc], .int .i64 who] w fun e w' => e = .returned (.int .i64 ((cntC x.cs who + cntT x.q who : Nat) : Int)) ∧ Below w.heap.size w w' := by
  obtain ⟨W, hW, hbW, hsW, hB⟩ := hall_box w A Q ac qc x 29
  have Hr := Lib.hid (hr.up hbW)
  have Hq := Lib.hid (hq.up hbW)
  have HbW := Lib.hid hbW
  obtain ⟨c0, c1, c2, c3, _, _, _, _, lt⟩ := hB
  have hW' := hW.symm
  clear hW hbW hr hq
  go_enter Try.func34, Try.ntmps34
  go_wp2_with fail
  go_loopg [5, 6] x.cs.length (fun g n i wr => ∃ k : Nat, k ≤ x.cs.length ∧ g = x.cs.length - k ∧ i = .int .i64 k ∧ n = .int .i64 ((cntC (x.cs.take k) who : Nat) : Int) ∧ wr = W)
  case atStart => exact ⟨0, Nat.zero_le _, rfl, rfl, by simp [cntC], rfl⟩
  case round =>
    obtain ⟨k, hk, hg, rfl, rfl, rfl⟩ := hrel
    have Hg := Lib.hid hg; clear hg
    have h4 := cntC_le (x.cs.take k) who
    rw [List.length_take] at h4
    clear hW'
    by_cases hlt : k < x.cs.length
    · obtain ⟨c, b, off, hc, rfl, hbb, hcell⟩ := rd_c Hr.out hlt
      obtain ⟨g0, g1, g2⟩ := hcell _ (Below.refl _ _)
      have hki : (k : Int) < (x.cs.length : Int) := by omega
      have hsn := cntC_snoc who hc
      obtain ⟨n, hn⟩ : ∃ n, n = cntC (x.cs.take k) who := ⟨_, rfl⟩
      rw [← hn] at h4 hsn ⊢
      have Hsn := Lib.hid hsn
      clear hcell hc hn hsn
      by_cases hw : c.who = who
      · have hwb : (c.who == who) = true := by simpa using hw
        clear hw
        go_wp2_with fail
        go_roundg (x.cs.length - (k + 1))
        case measure => have := Hg.out; omega
        case rel => exact ⟨k + 1, by omega, rfl, by go_num, by rw [Hsn.out, if_pos (by simpa using hwb)]; go_num, rfl⟩
      · have hwb : (c.who == who) = false := by simpa using hw
        clear hw
        go_wp2_with fail
        go_roundg (x.cs.length - (k + 1))
        case measure => have := Hg.out; omega
        case rel => exact ⟨k + 1, by omega, rfl, by go_num, by rw [Hsn.out, if_neg (by simpa using hwb)]; rfl, rfl⟩
    · obtain rfl : k = x.cs.length := by omega
      rw [List.take_length]
      obtain ⟨m, hm⟩ : ∃ m, m = cntC x.cs who := ⟨_, rfl⟩
      have hm1 : m ≤ x.cs.length := by rw [hm]; exact cntC_le _ _
      rw [← hm]
      have Hm := Lib.hid hm
      clear hm h4
      go_wp2_with fail
      go_loopg [5, 7] x.q.length (fun g n i wz => ∃ k : Nat, k ≤ x.q.length ∧ g = x.q.length - k ∧ i = .int .i64 k ∧ n = .int .i64 ((m + cntT (x.q.take k) who : Nat) : Int) ∧ wz = wr)
      case atStart => exact ⟨0, Nat.zero_le _, rfl, rfl, by simp [cntT], rfl⟩
      case round =>
        obtain ⟨k, hk, hg, rfl, rfl, rfl⟩ := hrel
        have Hg := Lib.hid hg; clear hg
        have h4 := cntT_le (x.q.take k) who
        rw [List.length_take] at h4
        by_cases hlt : k < x.q.length
        · obtain ⟨c, b, off, hc, rfl, hbb, hcell⟩ := rd_t Hq.out hlt
          obtain ⟨g0, g1⟩ := hcell _ (Below.refl _ _)
          have hki : (k : Int) < (x.q.length : Int) := by omega
          have hsn := cntT_snoc who hc
          obtain ⟨n, hn⟩ : ∃ n, n = cntT (x.q.take k) who := ⟨_, rfl⟩
          rw [← hn] at h4 hsn ⊢
          have Hsn := Lib.hid hsn
          obtain ⟨n2, hn2⟩ : ∃ n2, n2 = m + n := ⟨_, rfl⟩
          rw [← hn2]
          have Hn2 := Lib.hid hn2
          have hn3 : n2 ≤ 2000 := by omega
          clear hcell hc hn hsn hn2
          by_cases hw : c.who = who
          · have hwb : (c.who == who) = true := by simpa using hw
            clear hw
            go_wp2_with fail
            go_roundg (x.q.length - (k + 1))
            case measure => have := Hg.out; omega
            case rel => exact ⟨k + 1, by omega, rfl, by go_num, by rw [Hsn.out, if_pos (by simpa using hwb), ← Nat.add_assoc, ← Hn2.out]; go_num, rfl⟩
          · have hwb : (c.who == who) = false := by simpa using hw
            clear hw
            go_wp2_with fail
            go_roundg (x.q.length - (k + 1))
            case measure => have := Hg.out; omega
            case rel => exact ⟨k + 1, by omega, rfl, by go_num, by rw [Hsn.out, if_neg (by simpa using hwb), Nat.add_zero, ← Hn2.out], rfl⟩
        · obtain rfl : k = x.q.length := by omega
          go_wp2_with fail
          go_ret
          refine ⟨ret_val ?_, HbW.out⟩
          rw [List.take_length, Hm.out]
          rfl
end Go.Proofs.Ythhfhgkkfaghoaa
