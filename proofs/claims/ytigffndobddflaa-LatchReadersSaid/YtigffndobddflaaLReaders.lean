/- The law LatchReaders, walked. -/
import Derived.Test.YtigffndobddflaaLRdP
import Derived.Test.YtigffndobddflaaLR3
namespace Go.Proofs.Ytigffndobddflaa
open Go.RowKit

/-- the latch in its box -/
structure OneL (w : World) (N : Nat) (wr : World) (k : La) (A : Option Addr) (ac : Nat) (Q : Option Addr) (qc : Nat) : Prop where
  hb : LB N k A ac Q qc wr
  hm : LM wr (fun b => b ≠ N ∧ b < wr.heap.size) k A ac Q qc
  below : Below N w wr
  right : k.right = true
/-- a latch that comes is boxed -/
theorem OneL.box {w wr V : World} {N : Nat} {k r : La} {A Q A2 Q2 : Option Addr} {ac qc a2 q2 : Nat} (t : TypeId) (h : OneL w N wr k A ac Q qc) (hb : Below wr.heap.size wr V) (hm : LM V (fun b => (b ≠ N ∧ b < wr.heap.size) ∨ (wr.heap.size ≤ b ∧ b < V.heap.size)) r A2 a2 Q2 q2) :
    ∃ U P, U = V.alloc (.cells #[.slice A2 r.hs.length a2, .bool r.ex, .slice Q2 r.q.length q2] t) ∧ P = V.heap.size ∧ N < P ∧ Below wr.heap.size wr U ∧ LB P r A2 a2 Q2 q2 U ∧ LB N k A ac Q qc U ∧ LM U (fun b => b ≠ N ∧ b ≠ P ∧ b < U.heap.size) r A2 a2 Q2 q2 := by
  obtain ⟨U, hU, hbU, hsU, hB⟩ := la_box V A2 Q2 a2 q2 r t
  have hs := hb.size; have hlt := h.hb.lt
  refine ⟨U, V.heap.size, hU, rfl, by omega, hb.trans (hbU.mono hs), hB, h.hb.up (hb.trans (hbU.mono hs)) hlt, (hm.keep (w' := U) fun b hb => hbU.block b (by omega)).imp fun b hb => ?_⟩
  refine ⟨?_, by omega, by omega⟩
  omega
/-- and put into the first box -/
theorem OneL.put {w wr U : World} {N P : Nat} {k r : La} {A Q A2 Q2 : Option Addr} {ac qc a2 q2 : Nat} (h : OneL w N wr k A ac Q qc) (hb : Below wr.heap.size wr U) (hN : LB N k A ac Q qc U) (hm : LM U (fun b => b ≠ N ∧ b ≠ P ∧ b < U.heap.size) r A2 a2 Q2 q2) (hr : r.right = true) : OneL w N (fill3 U N r A2 a2 Q2 q2) r A2 a2 Q2 q2 :=
  ⟨hN.fill, (hm.keep fun d hd => fill3_keep hd.1).imp fun d hd => ⟨hd.1, by rw [fill3_size]; exact hd.2.2⟩, fill3_below (h.below.trans (hb.mono (by have := h.hb.lt; omega))) (Nat.le_refl _), hr⟩

set_option maxRecDepth 20000 in
set_option maxHeartbeats 8000000 in
theorem lawReaders (w : World) (a b : Int) (ha0 : 0 ≤ a) (ha : a ≤ 255) (hb0 : 0 ≤ b) (hb : b ≤ 255) :
    Calls Try.prog 6 #[.int .u8 a, .int .u8 b] w fun e w' => e = .returned (.bool true) ∧ Below w.heap.size w w' := by
  have q2 := Int.emod_nonneg a (show (20 : Int) ≠ 0 by decide)
  have q3 := Int.emod_lt_of_pos a (show (0 : Int) < 20 by decide)
  have q4 := Int.emod_nonneg b (show (20 : Int) ≠ 0 by decide)
  have q5 := Int.emod_lt_of_pos b (show (0 : Int) < 20 by decide)
  obtain ⟨n, hn⟩ : ∃ n : Nat, 1 + a % 20 = (n : Int) := ⟨(1 + a % 20).toNat, by omega⟩
  obtain ⟨k, hk⟩ : ∃ k : Nat, b % 20 = (k : Int) := ⟨(b % 20).toNat, by omega⟩
  have hn1 : 1 ≤ n := by omega
  have hn2 : n ≤ 20 := by omega
  have hk2 : k < 20 := by omega
  have Hn := Lib.hid hn; have Hk := Lib.hid hk
  clear hn hk
  obtain ⟨N, hN⟩ : ∃ N, N = w.heap.size := ⟨_, rfl⟩
  obtain ⟨U0, hU0, hb0', hs0, hB0⟩ := la_box w none none 0 0 ⟨[], false, []⟩ 25
  rw [← hN] at hB0 hb0'
  simp only [List.length_nil] at hU0
  have HU0 := Lib.hid hU0.symm; have HN := Lib.hid hN.symm
  have HR := Lib.hid (show OneL w N U0 (rd1 0) none 0 none 0 from ⟨hB0, LM.nil, hb0', rd1_zero⟩)
  clear hU0 hN hB0 hb0' hs0
  go_enter Try.func6, Try.ntmps6
  go_upto_region 2 with fail
  rw [Hn.out, Hk.out]
  clear q2 q3 q4 q5 ha0 ha hb0 hb
  go_upto_region 3 with fail
  rw [HU0.out, HN.out]
  clear HU0
  go_wp2_with fail
  go_loopg [33] n (fun g iv wr => ∃ (i : Nat) (A : Option Addr) (ac : Nat) (Q : Option Addr) (qc : Nat), i ≤ n ∧ g = n - i ∧ iv = .int .i64 i ∧ OneL w N wr (rd1 i) A ac Q qc)
  case atStart => exact ⟨0, none, 0, none, 0, Nat.zero_le _, rfl, rfl, HR.out⟩
  case round =>
    obtain ⟨i, A, ac, Q, qc, hi, hg, rfl, hE⟩ := hrel
    have HE := Lib.hid hE
    have Hg := Lib.hid hg
    obtain ⟨c0, c1, c2, f0, f1, f2, lt⟩ := hE.hb
    clear hE hg
    by_cases hlt : i < n
    · --
      have hlti : (i : Int) < (n : Int) := by omega
      have heq := rd_ask1 HE.out.right (by omega)
      have hr2 : (rd1 (i + 1)).right = true := by have := ask_right HE.out.right (i : Int) false; rwa [heq] at this
      have hl1 : (rd1 i).hs.length + (rd1 i).q.length ≤ 64 := right_len HE.out.right
      have hd := ask_is (b := true) heq (by simp) wr (fun b => b ≠ N ∧ b < wr.heap.size) A Q ac qc (by omega) (by omega) (fun b hb => hb.2) HE.out.hm
      have Hd := Lib.hid hd; have Hr2 := Lib.hid hr2
      clear hd hr2 heq hl1
      go_wp2_with fail
      refine Hd.out.mono ?_
      clear Hd
      rintro e V ⟨A2, a2, Q2, q2, rfl, hm, hb⟩
      obtain ⟨U, P, hU, hP, hNP, hbU, hBP, hBN, hmU⟩ := HE.out.box 25 hb hm
      have HU := Lib.hid hU.symm; have HP := Lib.hid hP.symm; have HbU := Lib.hid hbU; have HBP := Lib.hid hBP; have HBN := Lib.hid hBN; have HmU := Lib.hid hmU
      clear hm hb hU hP hbU hBP hBN hmU c0 c1 c2 f0 f1 f2 lt
      try simp only
      go_upto_region 7 with fail
      rw [HU.out, HP.out]
      clear HU HP
      obtain ⟨c0, c1, c2, f0, f1, f2, lt⟩ := HBN.out
      obtain ⟨y0, y1, y2, _, _, _, ltp⟩ := HBP.out
      have hNP1 : ¬ N = P := by omega
      have hNP2 : ¬ P = N := by omega
      clear hNP
      go_wp2_with fail
      go_roundg (n - (i + 1))
      case measure => have := Hg.out; omega
      case rel =>
        have hfin := HE.out.put (P := P) HbU.out HBN.out HmU.out Hr2.out
        rw [fill3] at hfin
        exact ⟨i + 1, A2, a2, Q2, q2, by omega, rfl, by go_num, hfin⟩
    · --
      obtain rfl : i = n := by omega
      clear hlt hi Hg
      have heq := rd_ask2 HE.out.right hn1 hn2
      have hr2 : (rd3 0 i 0).right = true := by have := ask_right HE.out.right 100 true; rwa [heq] at this
      have hl1 : (rd1 i).hs.length + (rd1 i).q.length ≤ 64 := right_len HE.out.right
      have hd := ask_is (b := false) heq rfl wr (fun b => b ≠ N ∧ b < wr.heap.size) A Q ac qc (by omega) (by omega) (fun b hb => hb.2) HE.out.hm
      have Hd := Lib.hid hd; have Hr2 := Lib.hid hr2
      clear hd hr2 heq hl1
      go_upto_region 11 with fail
      go_wp2_with fail
      refine Hd.out.mono ?_
      clear Hd c0 c1 c2 f0 f1 f2 lt
      rintro e V ⟨A2, a2, Q2, q2, rfl, hm, hb⟩
      have HBV := Lib.hid (HE.out.hb.up hb HE.out.hb.lt)
      have hs2 := hb.size
      have hlt2 := HE.out.hb.lt
      obtain ⟨U, hU, hkU, hsU, hBU, hMU⟩ := put_la HBV.out (hm.imp (ok' := fun b => b ≠ N ∧ b < V.heap.size) fun b hb => by omega)
      have HbU := Lib.hid (show Below N w U by rw [hU]; exact fill3_below (HE.out.below.trans (hb.mono (by omega))) (Nat.le_refl _))
      have H2 := Lib.hid (show OneL w N U (rd3 0 i 0) A2 a2 Q2 q2 from ⟨hBU, hMU, HbU.out, Hr2.out⟩)
      rw [fill3] at hU
      have HU := Lib.hid hU.symm
      obtain ⟨c0, c1, c2, f0, f1, f2, lt⟩ := HBV.out
      clear hm hb hs2 hlt2 hU hkU hsU hBU hMU
      try simp only
      go_upto_region 12 with fail
      rw [HU.out]
      clear HU c0 c1 c2 f0 f1 f2 lt HBV HbU HE
      obtain ⟨n, hni⟩ : ∃ n, n = i := ⟨_, rfl⟩
      rw [← hni] at H2 hn1 hn2 ⊢
      clear hni
      obtain ⟨wz, hwz⟩ : ∃ wz : World, wz = wr := ⟨_, rfl⟩
      clear hwz
      go_wp2_with fail
      go_loopg [58] k (fun g iv wr => ∃ (i : Nat) (A : Option Addr) (ac : Nat) (Q : Option Addr) (qc : Nat), i ≤ k ∧ g = k - i ∧ iv = .int .i64 i ∧ OneL w N wr (rd3 0 n i) A ac Q qc)
      case atStart => exact ⟨0, A2, a2, Q2, q2, Nat.zero_le _, rfl, rfl, H2.out⟩
      case round =>
        obtain ⟨i, A, ac, Q, qc, hi, hg, rfl, hE⟩ := hrel
        have HE := Lib.hid hE
        have Hg := Lib.hid hg
        obtain ⟨c0, c1, c2, f0, f1, f2, lt⟩ := hE.hb
        clear hE hg
        by_cases hlt : i < k
        · --
          have hlti : (i : Int) < (k : Int) := by omega
          have heq := rd_ask3 HE.out.right hn1 hn2 (by omega)
          have hr2 : (rd3 0 n (i + 1)).right = true := by have := ask_right HE.out.right (200 + (i : Int)) false; rwa [heq] at this
          have hl1 : (rd3 0 n i).hs.length + (rd3 0 n i).q.length ≤ 64 := right_len HE.out.right
          have hd := ask_is (b := false) heq rfl wr (fun b => b ≠ N ∧ b < wr.heap.size) A Q ac qc (by omega) (by omega) (fun b hb => hb.2) HE.out.hm
          have Hd := Lib.hid hd; have Hr2 := Lib.hid hr2
          clear hd hr2 heq hl1
          go_wp2_with fail
          refine Hd.out.mono ?_
          clear Hd
          rintro e V ⟨A2, a2, Q2, q2, rfl, hm, hb⟩
          obtain ⟨U, P, hU, hP, hNP, hbU, hBP, hBN, hmU⟩ := HE.out.box 25 hb hm
          have HU := Lib.hid hU.symm; have HP := Lib.hid hP.symm; have HbU := Lib.hid hbU; have HBP := Lib.hid hBP; have HBN := Lib.hid hBN; have HmU := Lib.hid hmU
          clear hm hb hU hP hbU hBP hBN hmU c0 c1 c2 f0 f1 f2 lt
          try simp only
          go_upto_region 16 with fail
          rw [HU.out, HP.out]
          clear HU HP
          obtain ⟨c0, c1, c2, f0, f1, f2, lt⟩ := HBN.out
          obtain ⟨y0, y1, y2, _, _, _, ltp⟩ := HBP.out
          have hNP1 : ¬ N = P := by omega
          have hNP2 : ¬ P = N := by omega
          clear hNP
          go_wp2_with fail
          go_roundg (k - (i + 1))
          case measure => have := Hg.out; omega
          case rel =>
            have hfin := HE.out.put (P := P) HbU.out HBN.out HmU.out Hr2.out
            rw [fill3] at hfin
            exact ⟨i + 1, A2, a2, Q2, q2, by omega, rfl, by go_num, hfin⟩
        · --
          obtain rfl : i = k := by omega
          clear hlt hi Hg
          have H3 := Lib.hid (show ∃ m : Nat, m + 0 = n ∧ OneL w N wr (rd3 ((0 : Nat) : Int) m i) A ac Q qc from ⟨n, rfl, HE.out⟩)
          clear H2 HE
          go_upto_region 20 with fail
          clear c0 c1 c2 f0 f1 f2 lt
          obtain ⟨k, hki⟩ : ∃ k, k = i := ⟨_, rfl⟩
          rw [← hki] at H3 hk2 ⊢
          clear hki
          obtain ⟨wy, hwy⟩ : ∃ wy : World, wy = wr := ⟨_, rfl⟩
          clear hwy
          go_wp2_with fail
          go_loopg [77] n (fun g iv wr => ∃ (i : Nat) (A : Option Addr) (ac : Nat) (Q : Option Addr) (qc : Nat), i ≤ n ∧ g = n - i ∧ iv = .int .i64 i ∧ ((i < n ∧ ∃ m : Nat, m + i = n ∧ OneL w N wr (rd3 (i : Int) m k) A ac Q qc) ∨ (i = n ∧ OneL w N wr (rd4 k) A ac Q qc)))
          case atStart => exact ⟨0, A, ac, Q, qc, Nat.zero_le _, rfl, rfl, .inl ⟨hn1, H3.out⟩⟩
          case round =>
            clear H3
            obtain ⟨i, A, ac, Q, qc, hi, hg, rfl, ⟨hlt, m, hmi, hE⟩ | ⟨rfl, hE⟩⟩ := hrel
            · --
              have HE := Lib.hid hE
              have Hg := Lib.hid hg
              obtain ⟨c0, c1, c2, f0, f1, f2, lt⟩ := hE.hb
              clear hE hg
              have hlti : (i : Int) < (n : Int) := by omega
              have hr0 := HE.out.right
              by_cases hm2 : 2 ≤ m
              · --
                obtain ⟨m2, rfl⟩ : ∃ m2, m = m2 + 2 := ⟨m - 2, by omega⟩
                have heq := rd_drop1 hr0 (by omega) (by omega)
                have hr2 : (rd3 ((i : Int) + 1) (m2 + 1) k).right = true := by have := drop_right hr0 (i : Int); rwa [heq] at this
                have hl1 := right_len hr0
                have hd := drop_is heq wr (fun b => b ≠ N ∧ b < wr.heap.size) A Q ac qc (by omega) (by omega) (fun b hb => hb.2) HE.out.hm
                have Hd := Lib.hid hd; have Hr2 := Lib.hid hr2
                clear hd hr2 heq hl1 hr0
                go_wp2_with fail
                refine Hd.out.mono ?_
                clear Hd
                rintro e V ⟨A2, a2, Q2, q2, I2, i2, rfl, hm, hI, hb⟩
                obtain ⟨U, P, hU, hP, hNP, hbU, hBP, hBN, hmU⟩ := HE.out.box 25 hb hm
                have HU := Lib.hid hU.symm; have HP := Lib.hid hP.symm; have HbU := Lib.hid hbU; have HBP := Lib.hid hBP; have HBN := Lib.hid hBN; have HmU := Lib.hid hmU
                clear hm hb hU hP hbU hBP hBN hmU c0 c1 c2 f0 f1 f2 lt hI
                simp only [List.length_cons, List.length_nil, Nat.zero_add]
                go_upto_region 24 with fail
                rw [HU.out, HP.out]
                clear HU HP
                obtain ⟨c0, c1, c2, f0, f1, f2, lt⟩ := HBN.out
                obtain ⟨y0, y1, y2, _, _, _, ltp⟩ := HBP.out
                have hNP1 : ¬ N = P := by omega
                have hNP2 : ¬ P = N := by omega
                clear hNP
                have hlast : ((i : Int) == (n : Int) - 1) = false := by rw [beq_eq_false_iff_ne]; omega
                go_wp2_with fail
                go_roundg (n - (i + 1))
                case measure => have := Hg.out; omega
                case rel =>
                  have hfin := HE.out.put (P := P) HbU.out HBN.out HmU.out Hr2.out
                  rw [fill3] at hfin
                  exact ⟨i + 1, A2, a2, Q2, q2, by omega, rfl, by go_num, .inl ⟨by omega, m2 + 1, by omega, hfin⟩⟩
              · --
                obtain rfl : m = 1 := by omega
                have heq := rd_drop2 hr0 (by omega) (by omega)
                have hr2 : (rd4 k).right = true := by have := drop_right hr0 (i : Int); rwa [heq] at this
                have hl1 := right_len hr0
                have hd := drop_is heq wr (fun b => b ≠ N ∧ b < wr.heap.size) A Q ac qc (by omega) (by omega) (fun b hb => hb.2) HE.out.hm
                have Hd := Lib.hid hd; have Hr2 := Lib.hid hr2
                clear hd hr2 heq hl1 hr0
                go_wp2_with fail
                refine Hd.out.mono ?_
                clear Hd
                rintro e V ⟨A2, a2, Q2, q2, I2, i2, rfl, hm, hI, hb⟩
                obtain ⟨bI, oI, rfl, hbI, hcI⟩ := hI (by simp)
                have g0' : V.cell? ⟨bI, oI, none⟩ = some (.int .i64 100) := by have := hcI 0 100 rfl 0 _ rfl; simpa using this
                obtain ⟨U, P, hU, hP, hNP, hbU, hBP, hBN, hmU⟩ := HE.out.box 25 hb hm
                have HgI := Lib.hid (show U.cell? ⟨bI, oI, none⟩ = some (.int .i64 100) by rw [hU]; exact (World.cell?_of_block (a := ⟨bI, oI, none⟩) (heap_alloc_old _ _ hbI.2)).trans g0')
                have HU := Lib.hid hU.symm; have HP := Lib.hid hP.symm; have HbU := Lib.hid hbU; have HBP := Lib.hid hBP; have HBN := Lib.hid hBN; have HmU := Lib.hid hmU
                clear hm hb hU hP hbU hBP hBN hmU c0 c1 c2 f0 f1 f2 lt hI hcI hbI g0'
                simp only [List.length_cons, List.length_nil, Nat.zero_add]
                go_upto_region 24 with fail
                rw [HU.out, HP.out]
                clear HU HP
                obtain ⟨c0, c1, c2, f0, f1, f2, lt⟩ := HBN.out
                obtain ⟨y0, y1, y2, _, _, _, ltp⟩ := HBP.out
                have hNP1 : ¬ N = P := by omega
                have hNP2 : ¬ P = N := by omega
                clear hNP
                have gI := HgI.out
                have hlast : ((i : Int) == (n : Int) - 1) = true := by rw [beq_iff_eq]; omega
                go_wp2_with fail
                go_roundg (n - (i + 1))
                case measure => have := Hg.out; omega
                case rel =>
                  have hfin := HE.out.put (P := P) HbU.out HBN.out HmU.out Hr2.out
                  rw [fill3] at hfin
                  exact ⟨i + 1, A2, a2, Q2, q2, by omega, rfl, by go_num, .inr ⟨by omega, hfin⟩⟩
            · --
              have HE := Lib.hid hE
              obtain ⟨c0, c1, c2, f0, f1, f2, lt⟩ := hE.hb
              clear hE hg hi
              obtain ⟨r, came, heq, hc1, hc2, hc3⟩ := rd_drop3 HE.out.right
              have Hc2 := Lib.hid hc2; have Hc3 := Lib.hid hc3
              clear hc2 hc3
              have hl1 := right_len HE.out.right
              have hd := drop_is heq wr (fun b => b ≠ N ∧ b < wr.heap.size) A Q ac qc (by omega) (by omega) (fun b hb => hb.2) HE.out.hm
              have Hd := Lib.hid hd
              clear hd heq hl1
              go_upto_region 28 with fail
              go_wp2_with fail
              refine Hd.out.mono ?_
              clear Hd
              rintro e V ⟨A2, a2, Q2, q2, I2, i2, rfl, hm, hI, hb⟩
              obtain ⟨U, P, hU, hP, hNP, hbU, hBP, hBN, hmU⟩ := HE.out.box 25 hb hm
              have HU := Lib.hid hU.symm; have HP := Lib.hid hP.symm; have HbU := Lib.hid hbU; have HBP := Lib.hid hBP
              clear hm hb hU hP hbU hBP hBN hmU c0 c1 c2 f0 f1 f2 lt hI hNP
              simp only [hc1]
              go_upto_region 29 with fail
              rw [HU.out, HP.out]
              clear HU HP
              obtain ⟨y0, y1, y2, _, _, _, ltp⟩ := HBP.out
              rw [Hc2.out] at y0
              rw [Hc3.out] at y2
              have hkk : ((k : Int) == (k : Int)) = true := by simp
              clear hc1
              go_wp2_with fail
              refine (awake_any _).mono ?_
              rintro e V2 ⟨rfl, hb2⟩
              go_wp2_with fail
              go_ret
              refine ⟨rfl, ?_⟩
              rw [HN.out]
              have hs1 := HE.out.below.size; have hs2 := HE.out.hb.lt; have hs3 := HbU.out.size
              exact HE.out.below.trans ((HbU.out.mono (by omega)).trans (hb2.mono (by omega)))
end Go.Proofs.Ytigffndobddflaa
