/- The contract of the law's fixed answer, awake. -/
import Derived.Test.YtigffndobddflaaLat9
namespace Go.Proofs.Ytigffndobddflaa
open Go.RowKit

theorem ask_is {l r : La} {came : List Int} {who : Int} {ex b : Bool} {n : Int} (h : askM l who ex = (r, came, n)) (hb : came.contains who = b) (w : World) (ok : Nat → Prop) (A Q : Option Addr) (ac qc : Nat) (hl1 : l.hs.length ≤ 1000) (hl2 : l.q.length ≤ 1000) (hok : ∀ b, ok b → b < w.heap.size) (hm : LM w ok l A ac Q qc) :
    Calls Try.prog 13 #[.agg #[.slice A l.hs.length ac, .bool l.ex, .slice Q l.q.length qc], .int .i64 who, .bool ex] w (AskDone ok r b n w) := by
  have := ask_any w ok A Q ac qc l who ex hl1 hl2 hok hm
  rw [h] at this
  simp only [hb] at this
  exact this
theorem drop_is {l r : La} {came : List Int} {who : Int} {n : Int} (h : dropM l who = (r, came, n)) (w : World) (ok : Nat → Prop) (A Q : Option Addr) (ac qc : Nat) (hl1 : l.hs.length ≤ 1000) (hl2 : l.q.length ≤ 1000) (hok : ∀ b, ok b → b < w.heap.size) (hm : LM w ok l A ac Q qc) :
    Calls Try.prog 14 #[.agg #[.slice A l.hs.length ac, .bool l.ex, .slice Q l.q.length qc], .int .i64 who] w (DropDone ok (r, came, n) w) := by
  have := drop_any w ok A Q ac qc l who hl1 hl2 hok hm
  rwa [h] at this
theorem put_la {N : Nat} {l r : La} {A Q A' Q' : Option Addr} {ac qc ac' qc' : Nat} {V : World} (h : LB N l A' ac' Q' qc' V) (hm : LM V (fun b => b ≠ N ∧ b < V.heap.size) r A ac Q qc) :
    ∃ W, W = fill3 V N r A ac Q qc ∧ (∀ g, g ≠ N → W.heap[g]? = V.heap[g]?) ∧ W.heap.size = V.heap.size ∧ LB N r A ac Q qc W ∧ LM W (fun b => b ≠ N ∧ b < W.heap.size) r A ac Q qc :=
  ⟨_, rfl, fun _ hg => fill3_keep hg, fill3_size, h.fill, (hm.keep fun b hb => fill3_keep hb.1).imp fun b hb => ⟨hb.1, by rw [fill3_size]; exact hb.2⟩⟩

def aw0 : La := ⟨[], false, []⟩
def aw1 : La := ⟨[1], false, []⟩
def aw2 : La := ⟨[1], false, [⟨3, true⟩]⟩
def aw3 : La := ⟨[1], false, [⟨3, true⟩, ⟨4, false⟩]⟩
def aw4 : La := ⟨[3], true, [⟨4, false⟩]⟩
theorem awe1 : askM aw0 1 false = (aw1, [1], 0) := by decide +kernel
theorem awe2 : askM aw1 3 true = (aw2, [], 0) := by decide +kernel
theorem awe3 : askM aw2 4 false = (aw3, [], 0) := by decide +kernel
theorem awe4 : dropM aw3 1 = (aw4, [3], 0) := by decide +kernel
theorem awe5 : holdsM aw4 3 = true ∧ (holdsM aw4 3 && aw4.ex) = true := by decide +kernel
theorem awl : aw1.hs.length ≤ 1000 ∧ aw1.q.length ≤ 1000 ∧ aw2.hs.length ≤ 1000 ∧ aw2.q.length ≤ 1000 ∧ aw3.hs.length ≤ 1000 ∧ aw3.q.length ≤ 1000 ∧ aw4.hs.length ≤ 1000 ∧ aw4.q.length ≤ 1000 := by decide

set_option maxRecDepth 20000 in
set_option maxHeartbeats 4000000 in
theorem awake_any (w : World) : Calls Try.prog 10 #[] w fun e w' => e = .returned (.bool true) ∧ Below w.heap.size w w' := by
  have d1 := ask_is (b := true) awe1 (by decide) w (fun _ => False) none none 0 0 (by decide) (by decide) (fun b hb => hb.elim) LM.nil
  simp only [aw0, List.length_nil] at d1
  have Hd1 := Lib.hid d1
  clear d1
  obtain ⟨a1, a2, a3, a4, a5, a6, a7, a8⟩ := awl
  go_enter Try.func10, Try.ntmps10
  go_wp2_with fail
  refine Hd1.out.mono ?_
  clear Hd1
  rintro e V1 ⟨A1, c1, Q1, q1, rfl, hm1, hb1⟩
  obtain ⟨U1, hU1, hbU1, hsU1, hB1, hM1⟩ := new_la 25 (hm1.imp fun b hb => by rcases hb with h | h; exact h.elim; exact h.2)
  obtain ⟨N, hN⟩ : ∃ N, N = V1.heap.size := ⟨_, rfl⟩
  rw [← hN] at hB1 hM1
  have hNw : w.heap.size ≤ N := by have := hb1.size; omega
  have HbU1 := Lib.hid (bnext hb1 hbU1)
  have HB1 := Lib.hid hB1
  have HM1 := Lib.hid hM1
  have HU1 := Lib.hid hU1.symm; have HN := Lib.hid hN.symm
  clear hm1 hb1 hU1 hbU1 hsU1 hB1 hM1 hN
  go_upto_region 2 with fail
  rw [HU1.out, HN.out]
  clear HU1 HN
  obtain ⟨c0, c1', c2, _, _, _, lt⟩ := HB1.out
  have Hd2 := Lib.hid (ask_is (b := false) awe2 (by decide) U1 (fun b => b ≠ N ∧ b < U1.heap.size) A1 Q1 c1 q1 a1 a2 (fun b hb => hb.2) HM1.out)
  go_wp2_with fail
  refine Hd2.out.mono ?_
  clear Hd2 c0 c1' c2 lt
  rintro e V2 ⟨A2, c2, Q2, q2, rfl, hm2, hb2⟩
  have hs2 := hb2.size
  have hlt1 := HB1.out.lt
  have HBV2 := Lib.hid (HB1.out.up hb2 hlt1)
  obtain ⟨U2, hU2, hk2, hsU2, hB2, hM2⟩ := put_la HBV2.out (hm2.imp (ok' := fun b => b ≠ N ∧ b < V2.heap.size) fun b hb => by omega)
  have HbU2 := Lib.hid (show Below w.heap.size w U2 by rw [hU2]; exact fill3_below (bnext HbU1.out hb2) hNw)
  have HB2 := Lib.hid hB2; have HM2 := Lib.hid hM2
  rw [fill3] at hU2
  have HU2 := Lib.hid hU2.symm
  clear hm2 hb2 hs2 hU2 hk2 hsU2 hB2 hM2 hlt1
  obtain ⟨c0, c1', c2', f0, f1, f2, lt⟩ := HBV2.out
  go_upto_region 3 with fail
  rw [HU2.out]
  clear HU2 c0 c1' c2' f0 f1 f2 lt
  obtain ⟨c0, c1', c2', _, _, _, lt⟩ := HB2.out
  have Hd3 := Lib.hid (ask_is (b := false) awe3 (by decide) U2 (fun b => b ≠ N ∧ b < U2.heap.size) A2 Q2 c2 q2 a3 a4 (fun b hb => hb.2) HM2.out)
  go_wp2_with fail
  refine Hd3.out.mono ?_
  clear Hd3 c0 c1' c2' lt
  rintro e V3 ⟨A3, c3, Q3, q3, rfl, hm3, hb3⟩
  have hs3 := hb3.size
  have hlt2 := HB2.out.lt
  have HBV3 := Lib.hid (HB2.out.up hb3 hlt2)
  obtain ⟨U3, hU3, hk3, hsU3, hB3, hM3⟩ := put_la HBV3.out (hm3.imp (ok' := fun b => b ≠ N ∧ b < V3.heap.size) fun b hb => by omega)
  have HbU3 := Lib.hid (show Below w.heap.size w U3 by rw [hU3]; exact fill3_below (bnext HbU2.out hb3) hNw)
  have HB3 := Lib.hid hB3; have HM3 := Lib.hid hM3
  rw [fill3] at hU3
  have HU3 := Lib.hid hU3.symm
  clear hm3 hb3 hs3 hU3 hk3 hsU3 hB3 hM3 hlt2
  obtain ⟨c0, c1', c2', f0, f1, f2, lt⟩ := HBV3.out
  go_upto_region 4 with fail
  rw [HU3.out]
  clear HU3 c0 c1' c2' f0 f1 f2 lt
  obtain ⟨c0, c1', c2', _, _, _, lt⟩ := HB3.out
  have Hd4 := Lib.hid (drop_is awe4 U3 (fun b => b ≠ N ∧ b < U3.heap.size) A3 Q3 c3 q3 a5 a6 (fun b hb => hb.2) HM3.out)
  go_wp2_with fail
  refine Hd4.out.mono ?_
  clear Hd4 c0 c1' c2' lt
  rintro e V4 ⟨A4, c4, Q4, q4, I4, i4, rfl, hm4, hi4, hb4⟩
  have hs4 := hb4.size
  obtain ⟨U4, hU4, hbU4, hsU4, hB4, hM4⟩ := new_la 25 (hm4.imp (ok' := fun b => b < V4.heap.size) fun b hb => by omega)
  obtain ⟨N4, hN4⟩ : ∃ N, N = V4.heap.size := ⟨_, rfl⟩
  rw [← hN4] at hB4
  have HbU4 := Lib.hid (bnext HbU3.out (bnext hb4 hbU4))
  have HB4 := Lib.hid hB4; have HM4 := Lib.hid (hM4.imp (ok' := fun b => b < U4.heap.size) fun b hb => hb.2)
  have HI4 := Lib.hid ((hi4.to (B := V4.heap.size) fun b hb => hb.2).up hbU4)
  have HU4 := Lib.hid hU4.symm; have HN4 := Lib.hid hN4.symm
  clear hm4 hi4 hb4 hs4 hU4 hbU4 hsU4 hB4 hM4 hN4
  try simp only
  go_upto_region 5 with fail
  rw [HU4.out, HN4.out]
  clear HU4 HN4
  obtain ⟨c0, c1', c2', _, _, _, lt⟩ := HB4.out
  have d5 := holds_any U4 A4 Q4 c4 q4 aw4 3 a7 a8 HM4.out
  rw [awe5.2, awe5.1] at d5
  have Hd5 := Lib.hid d5
  clear d5
  go_wp2_with fail
  refine Hd5.out.mono ?_
  clear Hd5 c0 c1' c2' lt
  rintro e V5 ⟨rfl, hb5⟩
  have hr5 := HI4.out.up hb5
  obtain ⟨n, b, off, hn, rfl, hbb, hcell⟩ := rd_i hr5 (k := 0) (by simp)
  have g0 := hcell V5 (Below.refl _ _)
  simp only [List.getElem?_cons_zero] at hn
  injection hn with hn
  subst hn
  simp only [Nat.add_zero] at g0
  have hl1 : ([3] : List Int).length = 1 := rfl
  have Hb5 := Lib.hid (bnext HbU4.out hb5)
  clear hb5 hr5 hcell
  simp only [List.length_cons, List.length_nil, Nat.zero_add]
  go_wp2_with fail
  go_ret
  exact ⟨rfl, Hb5.out⟩
end Go.Proofs.Ytigffndobddflaa
