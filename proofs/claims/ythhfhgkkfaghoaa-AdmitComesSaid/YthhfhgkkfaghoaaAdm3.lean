/- The contract of admit.Right. -/
import Derived.Test.YthhfhgkkfaghoaaAdm2
namespace Go.Proofs.Ythhfhgkkfaghoaa
open Go.RowKit

section
variable {x : Hall}
theorem right_heads (h : x.heads = false) : x.right = false := by simp [Hall.right, h]
theorem right_cs (h : rightB x.cs = false) : x.right = false := by simp [Hall.right, h]
theorem right_cl {k : Nat} {c : C} (hc : x.cs[k]? = some c) (h : okClaim x c.claim = false) : x.right = false := by
  have : x.cs.all (fun c => okClaim x c.claim) = false := by
    rw [List.all_eq_false]
    exact ⟨c, List.mem_of_getElem? hc, by simp [h]⟩
  simp [Hall.right, this]
theorem right_q {k : Nat} (hk : k < x.q.length) (h : okT x k = false) : x.right = false := by
  have : (List.range x.q.length).all (okT x) = false := by
    rw [List.all_eq_false]
    exact ⟨k, List.mem_range.2 hk, by simp [h]⟩
  simp [Hall.right, this]
theorem right_end (h1 : x.heads = true) (h2 : rightB x.cs = true) (h3 : ∀ (j : Nat) (c : C), x.cs[j]? = some c → okClaim x c.claim = true) (h4 : ∀ j, j < x.q.length → okT x j = true) :
    x.right = (decide (0 ≤ x.left) && safeB x.left x.cs && !x.open) := by
  have e3 : x.cs.all (fun c => okClaim x c.claim) = true := by
    rw [List.all_eq_true]
    intro c hc
    obtain ⟨j, hj⟩ := List.getElem?_of_mem hc
    exact h3 j c hj
  have e4 : (List.range x.q.length).all (okT x) = true := by
    rw [List.all_eq_true]
    intro j hj
    exact h4 j (List.mem_range.1 hj)
  simp [Hall.right, h1, h2, e3, e4]
theorem right_iff : x.right = true ↔ x.heads = true ∧ rightB x.cs = true ∧ (∀ (j : Nat) (c : C), x.cs[j]? = some c → okClaim x c.claim = true) ∧ (∀ j, j < x.q.length → okT x j = true) ∧ 0 ≤ x.left ∧ safeB x.left x.cs = true ∧ x.open = false := by
  constructor
  · intro h
    have a1 : x.heads = true := by cases hh : x.heads with
      | true => rfl
      | false => rw [right_heads hh] at h; cases h
    have a2 : rightB x.cs = true := by cases hh : rightB x.cs with
      | true => rfl
      | false => rw [right_cs hh] at h; cases h
    have a3 : ∀ (j : Nat) (c : C), x.cs[j]? = some c → okClaim x c.claim = true := fun j c hc => by cases hh : okClaim x c.claim with
      | true => rfl
      | false => rw [right_cl hc hh] at h; cases h
    have a4 : ∀ j, j < x.q.length → okT x j = true := fun j hj => by cases hh : okT x j with
      | true => rfl
      | false => rw [right_q hj hh] at h; cases h
    rw [right_end a1 a2 a3 a4] at h
    simp only [Bool.and_eq_true, decide_eq_true_eq, Bool.not_eq_true'] at h
    exact ⟨a1, a2, a3, a4, h.1.1, h.1.2, h.2⟩
  · rintro ⟨a1, a2, a3, a4, a5, a6, a7⟩
    rw [right_end a1 a2 a3 a4, decide_eq_true a5, a6, a7]
    rfl
theorem okT_of {k : Nat} {t : T} (ht : x.q[k]? = some t) : okT x k = (decide (0 ≤ t.who) && decide (t.who ≤ 2147483647) && okClaim x t.claim && !inC x.cs t.who && !inT (x.q.take k) t.who) := by simp [okT, ht]
theorem least_le (x : Hall) : x.least ≤ x.frames ∧ x.least ≤ x.budget := by
  unfold Hall.least
  split <;> omega
theorem okClaim_iff {n : Int} : okClaim x n = true ↔ 1 ≤ n ∧ n ≤ x.least := by simp [okClaim]
theorem okClaim_le {n : Int} (h : okClaim x n = true) : 1 ≤ n ∧ n ≤ x.frames ∧ n ≤ x.budget := by
  have h1 := okClaim_iff.1 h
  have h2 := least_le x
  omega
theorem small_of (h1 : x.heads = true) (h2 : rightB x.cs = true) (h4 : ∀ j, j < x.q.length → okT x j = true) : x.small := by
  obtain ⟨a, b, c, d, e⟩ := heads_iff.1 h1
  refine ⟨a, b, c, d, by omega, smallC_of h2, fun k t ht => ?_⟩
  have := h4 k (List.getElem?_eq_some_iff.1 ht).1
  rw [okT_of ht] at this
  simp only [Bool.and_eq_true] at this
  have := okClaim_le this.1.1.2
  omega
theorem small_right (h : x.right = true) : x.small := by
  obtain ⟨a1, a2, _, a4, _⟩ := right_iff.1 h
  exact small_of a1 a2 a4
end
theorem findC_in {l : List C} {who : Int} : decide (0 ≤ nextI (findC l who)) = inC l who := by
  cases h : findC l who with
  | none =>
    have h2 : inC l who = false := by
      rw [findC, List.findIdx?_eq_none_iff] at h
      rw [inC, List.any_eq_false]
      intro c hc
      have := h c hc
      simpa using this
    rw [h2]; rfl
  | some k =>
    have h2 : inC l who = true := by
      rw [findC, List.findIdx?_eq_some_iff_getElem] at h
      obtain ⟨h1, h3, _⟩ := h
      rw [inC, List.any_eq_true]
      exact ⟨l[k], List.getElem_mem h1, h3⟩
    rw [h2, nextI]
    simp
theorem findT_in {l : List T} {who : Int} : decide (0 ≤ nextI (findT l who)) = inT l who := by
  cases h : findT l who with
  | none =>
    have h2 : inT l who = false := by
      rw [findT, List.findIdx?_eq_none_iff] at h
      rw [inT, List.any_eq_false]
      intro c hc
      have := h c hc
      simpa using this
    rw [h2]; rfl
  | some k =>
    have h2 : inT l who = true := by
      rw [findT, List.findIdx?_eq_some_iff_getElem] at h
      obtain ⟨h1, h3, _⟩ := h
      rw [inT, List.any_eq_true]
      exact ⟨l[k], List.getElem_mem h1, h3⟩
    rw [h2, nextI]
    simp

/-- a hall's lists in memory -/
structure HM (w : World) (ok : Nat → Prop) (x : Hall) (A : Option Addr) (ac : Nat) (Q : Option Addr) (qc : Nat) : Prop where
  rc : Rd' C.cells 3 w ok A x.cs
  rq : Rd' T.cells 2 w ok Q x.q
  ca : x.cs.length ≤ ac
  ca2 : ac ≤ 9223372036854775807
  qa : x.q.length ≤ qc
  qa2 : qc ≤ 9223372036854775807
section
variable {w w' : World} {ok ok' : Nat → Prop} {x : Hall} {A Q : Option Addr} {ac qc B : Nat}
theorem HM.imp (h : HM w ok x A ac Q qc) (hi : ∀ b, ok b → ok' b) : HM w ok' x A ac Q qc := ⟨h.rc.imp hi, h.rq.imp hi, h.ca, h.ca2, h.qa, h.qa2⟩
theorem HM.keep (h : HM w ok x A ac Q qc) (hk : ∀ b, ok b → w'.heap[b]? = w.heap[b]?) : HM w' ok x A ac Q qc := ⟨h.rc.keep hk, h.rq.keep hk, h.ca, h.ca2, h.qa, h.qa2⟩
theorem HM.up (h : HM w (fun b => b < w.heap.size) x A ac Q qc) (hb : Below w.heap.size w w') : HM w' (fun b => b < w'.heap.size) x A ac Q qc := (h.keep fun b hb' => hb.block b hb').imp fun b hb' => Nat.lt_of_lt_of_le hb' hb.size
theorem HM.below (h : HM w ok x A ac Q qc) (hb : Below B w w') (ho : ∀ b, ok b → b < B) : HM w' ok x A ac Q qc := h.keep fun b hb' => hb.block b (ho b hb')
theorem HM.c (h : HM w (fun b => b < w.heap.size) x A ac Q qc) : Rd C.cells 3 w w.heap.size A x.cs := h.rc
theorem HM.q (h : HM w (fun b => b < w.heap.size) x A ac Q qc) : Rd T.cells 2 w w.heap.size Q x.q := h.rq
end

set_option maxRecDepth 20000 in
set_option maxHeartbeats 4000000 in
theorem hallRight_any (w : World) (A Q : Option Addr) (ac qc : Nat) (x : Hall) (hl1 : x.cs.length ≤ 1000) (hl2 : x.q.length ≤ 1000) (hm : HM w (fun b => b < w.heap.size) x A ac Q qc) :
    Calls Try.prog 19 #[.agg #[.int .i64 x.frames, .int .i64 x.budget, .slice A x.cs.length ac, .slice Q x.q.length qc]] w fun e w' => e = .returned (.bool x.right) ∧ Below w.heap.size w w' := by
  obtain ⟨W, hW, hbW, hsW, hB⟩ := hall_box w A Q ac qc x 25
  have Hm := Lib.hid (hm.up hbW)
  have HbW := Lib.hid hbW
  have HB' := Lib.hid hB
  obtain ⟨c0, c1, c2, c3, _, _, _, _, lt⟩ := hB
  have hW' := hW.symm
  clear hW hbW hm
  have hcs : (x.frames < 1 ∨ 8 < x.frames ∨ x.budget < 1 ∨ 100 < x.budget) ∨ (1 ≤ x.frames ∧ x.frames ≤ 8 ∧ 1 ≤ x.budget ∧ x.budget ≤ 100) := by omega
  rcases hcs with hbad | ⟨f1, f2, b1, b2⟩
  · have hne : x.right = false := right_heads (by
      cases h : x.heads with
      | false => rfl
      | true => have := heads_iff.1 h; omega)
    have Hne := Lib.hid hne; clear hne
    have hbad2 : x.frames < 1 ∨ (¬ x.frames < 1 ∧ 8 < x.frames) ∨ (¬ x.frames < 1 ∧ ¬ 8 < x.frames ∧ x.budget < 1) ∨ (¬ x.frames < 1 ∧ ¬ 8 < x.frames ∧ ¬ x.budget < 1 ∧ 100 < x.budget) := by omega
    clear hbad
    rcases hbad2 with h1 | ⟨h1, h2⟩ | ⟨h1, h2, h3⟩ | ⟨h1, h2, h3, h4⟩
    all_goals
      go_enter Try.func19, Try.ntmps19
      go_wp2_with fail
      go_ret
      exact ⟨ret_bool Hne.out.symm, HbW.out⟩
  have n1 : ¬ x.frames < 1 := by omega
  have n2 : ¬ 8 < x.frames := by omega
  have n3 : ¬ x.budget < 1 := by omega
  have n4 : ¬ 100 < x.budget := by omega
  have ew : IntKind.i64.wrap ((x.cs.length : Int) + (x.q.length : Int)) = (x.cs.length : Int) + (x.q.length : Int) := IntWalk.i64_in _ (by omega)
  by_cases hlen : (40 : Int) < (x.cs.length : Int) + (x.q.length : Int)
  · have hne : x.right = false := right_heads (by
      cases h : x.heads with
      | false => rfl
      | true => have := heads_iff.1 h; omega)
    have Hne := Lib.hid hne; clear hne
    go_enter Try.func19, Try.ntmps19
    go_wp2_with fail
    go_ret
    exact ⟨ret_bool Hne.out.symm, HbW.out⟩
  have Hh := Lib.hid (heads_iff.2 ⟨f1, f2, b1, b2, by omega⟩ : x.heads = true)
  have hl40 : x.cs.length + x.q.length ≤ 40 := by omega
  go_enter Try.func19, Try.ntmps19
  go_wp2_with fail
  refine (right_any W A ac x.cs Hm.out.ca Hm.out.ca2 Hm.out.c).mono ?_
  rintro e V ⟨rfl, hb1⟩
  have Hb1 := Lib.hid hb1
  obtain ⟨rt, hrt⟩ : ∃ rt, rt = rightB x.cs := ⟨_, rfl⟩
  rw [← hrt]
  have Hrt := Lib.hid hrt; clear hrt
  clear c0 c1 c2 c3 hW' ew hlen n1 n2 n3 n4
  obtain ⟨c0, c1, c2, c3, _, _, _, _, ltV⟩ := HB'.out.up hb1 lt
  cases rt with
  | false =>
    go_wp2_with fail
    go_ret
    exact ⟨ret_bool (right_cs Hrt.out.symm).symm, bnext HbW.out hb1⟩
  | true =>
    clear hb1
    go_wp2_with fail
    go_loopg [43] x.cs.length (fun g i wr => ∃ k : Nat, k ≤ x.cs.length ∧ g = x.cs.length - k ∧ i = .int .i64 k ∧ (∀ (j : Nat) (c : C), j < k → x.cs[j]? = some c → okClaim x c.claim = true) ∧ Below W.heap.size W wr)
    case atStart => exact ⟨0, Nat.zero_le _, rfl, rfl, fun j _ h => absurd h (by omega), Hb1.out⟩
    case round =>
      obtain ⟨k, hk, hg, rfl, hok, hb⟩ := hrel
      have Hg := Lib.hid hg; clear hg
      have Hok := Lib.hid hok; clear hok
      have Hb := Lib.hid hb
      clear c0 c1 c2 c3 ltV
      obtain ⟨c0, c1, c2, c3, _, _, _, _, ltr⟩ := HB'.out.up hb lt
      have hsr := hb.size
      by_cases hlt : k < x.cs.length
      · obtain ⟨c, b, off, hc, rfl, hbb, hcell⟩ := rd_c Hm.out.c hlt
        obtain ⟨g0, g1, g2⟩ := hcell wr hb
        have hki : (k : Int) < (x.cs.length : Int) := by omega
        have hbw : b < wr.heap.size := by omega
        have Hc := Lib.hid hc
        clear hcell hc hb
        go_wp2_with fail
        have d1 := claimable_any (wr.alloc (.cells #[.int .i64 c.who, .int .i64 c.claim, .int .i64 c.held] 50)) (some ⟨b, off, none⟩) Q ac qc x c.claim
        obtain ⟨ok, hok⟩ : ∃ ok, ok = okClaim x c.claim := ⟨_, rfl⟩
        rw [← hok] at d1
        refine d1.mono ?_
        clear d1
        have Hok2 := Lib.hid hok; clear hok
        rintro e V2 ⟨rfl, hb2⟩
        have hb3 := (Hb.out.alloc hsr (.cells #[.int .i64 c.who, .int .i64 c.claim, .int .i64 c.held] 50)).trans (hb2.mono (by simp; omega))
        cases ok with
        | false =>
          go_wp2_with fail
          go_ret
          exact ⟨ret_bool (right_cl Hc.out Hok2.out.symm).symm, bnext HbW.out hb3⟩
        | true =>
          go_wp2_with fail
          go_roundg (x.cs.length - (k + 1))
          case measure => have := Hg.out; omega
          case rel =>
            refine ⟨k + 1, by omega, rfl, by go_num, fun j d hj hd => ?_, hb3⟩
            rcases Nat.lt_or_ge j k with h | h
            · exact Hok.out j d h hd
            · obtain rfl : j = k := by omega
              rw [Hc.out] at hd
              injection hd with hd
              subst hd
              exact Hok2.out.symm
      · obtain rfl : k = x.cs.length := by omega
        clear hb
        go_wp2_with fail
        go_loopg [56] x.q.length (fun g i wr => ∃ k : Nat, k ≤ x.q.length ∧ g = x.q.length - k ∧ i = .int .i64 k ∧ (∀ j : Nat, j < k → okT x j = true) ∧ Below W.heap.size W wr)
        case atStart => exact ⟨0, Nat.zero_le _, rfl, rfl, fun j h => absurd h (by omega), Hb.out⟩
        case round =>
          obtain ⟨k, hk, hg, rfl, hokq, hb⟩ := hrel
          have Hg := Lib.hid hg; clear hg
          have Hokq := Lib.hid hokq; clear hokq
          have Hb := Lib.hid hb
          clear c0 c1 c2 c3 ltr hsr
          obtain ⟨c0, c1, c2, c3, _, _, _, _, ltr⟩ := HB'.out.up hb lt
          have hsr := hb.size
          by_cases hlt : k < x.q.length
          · obtain ⟨t, b, off, ht, hQ, hbb, hcell⟩ := rd_t Hm.out.q hlt
            obtain ⟨g0, g1⟩ := hcell wr hb
            have hki : (k : Int) < (x.q.length : Int) := by omega
            have hbw : b < wr.heap.size := by omega
            have hkt := okT_of ht
            have Hkt := Lib.hid hkt
            subst hQ
            have hbad : t.who < 0 ∨ (¬ t.who < 0 ∧ 2147483647 < t.who) ∨ (¬ t.who < 0 ∧ ¬ 2147483647 < t.who) := by omega
            clear hcell hb hkt ht
            rcases hbad with h1 | ⟨h1, h2⟩ | ⟨h1, h2⟩
            iterate 2
              · have hne : okT x k = false := by
                  rw [Hkt.out]
                  first | rw [decide_eq_false (show ¬ 0 ≤ t.who by omega)]; rfl | rw [decide_eq_false (show ¬ t.who ≤ 2147483647 by omega)]; simp
                have Hne := Lib.hid hne; clear hne
                go_wp2_with fail
                go_ret
                exact ⟨ret_bool (right_q hlt Hne.out).symm, bnext HbW.out (Hb.out.alloc hsr _)⟩
            obtain ⟨M, hM⟩ : ∃ M, M = wr.heap.size := ⟨_, rfl⟩
            have hM' := hM.symm
            have hNM : w.heap.size < M := by omega
            have hbM : b < M := by omega
            have HM := Lib.hid hM
            clear hM hbw
            go_wp2_with fail
            have d1 := claimable_any (wr.alloc (.cells #[.int .i64 t.who, .int .i64 t.claim] 66)) A (some ⟨b, off, none⟩) ac qc x t.claim
            obtain ⟨ok, hok⟩ : ∃ ok, ok = okClaim x t.claim := ⟨_, rfl⟩
            rw [← hok] at d1
            refine d1.mono ?_
            clear d1
            have Hok2 := Lib.hid hok; clear hok
            rintro e V2 ⟨rfl, hb2⟩
            have hV2W : Below W.heap.size W V2 := (Hb.out.alloc hsr (.cells #[.int .i64 t.who, .int .i64 t.claim] 66)).trans (hb2.mono (by simp; omega))
            have hs2 := hb2.size
            have hV2M : V2.heap[M]? = some (.cells #[.int .i64 t.who, .int .i64 t.claim] 66 (0, 0)) := (hb2.block M (by simp; omega)).trans (by rw [← hM', heap_alloc_new])
            have HV2W := Lib.hid hV2W
            have HV2M := Lib.hid hV2M
            have hsV2 : W.heap.size ≤ V2.heap.size := hV2W.size
            have hMV2 : M < V2.heap.size := (Array.getElem?_eq_some_iff.1 hV2M).1
            clear hb2 hV2W hV2M c0 c1 c2 c3 ltr g0 g1 hs2
            cases ok with
            | false =>
              have hne : okT x k = false := by rw [Hkt.out, ← Hok2.out]; simp
              have Hne := Lib.hid hne; clear hne
              go_wp2_with fail
              go_ret
              exact ⟨ret_bool (right_q hlt Hne.out).symm, bnext HbW.out HV2W.out⟩
            | true =>
              obtain ⟨c0, c1, c2, c3, _, _, _, _, ltr⟩ := HB'.out.up HV2W.out lt
              have n2 := bw_cell c2 ltr
              have n3 := bw_cell c3 ltr
              have n4 : ∀ y : BW V2, y.w.cell? ⟨M, 0, none⟩ = some (.int .i64 t.who) := bw_cell (cells_of HV2M.out 0) hMV2
              obtain ⟨m1, hm1⟩ : ∃ m, m = nextI (findC x.cs t.who) := ⟨_, rfl⟩
              obtain ⟨m2, hm2⟩ : ∃ m, m = nextI (findT (x.q.take k) t.who) := ⟨_, rfl⟩
              obtain ⟨i1, hi1⟩ : ∃ i, i = inC x.cs t.who := ⟨_, rfl⟩
              obtain ⟨i2, hi2⟩ : ∃ i, i = inT (x.q.take k) t.who := ⟨_, rfl⟩
              have hd1 : decide (0 ≤ m1) = i1 := by rw [hm1, hi1]; exact findC_in
              have hd2 : decide (0 ≤ m2) = i2 := by rw [hm2, hi2]; exact findT_in
              have hkq : (k : Int) ≤ (qc : Int) := by have := Hm.out.qa; omega
              have htk : (x.q.take k).length = k := by rw [List.length_take]; omega
              have hc1 : ∀ y : BW V2, Calls Try.prog 28 #[.slice A x.cs.length ac, .int .i64 t.who] y.w fun e w' => e = .returned (.int .i64 m1) ∧ Below y.w.heap.size y.w w' := fun y => by
                rw [hm1]
                exact client_any y.w A ac x.cs t.who (by omega) (Hm.out.c.up (HV2W.out.trans (y.below.mono hsV2)))
              have hc2 : ∀ y : BW V2, Calls Try.prog 29 #[.slice (some ⟨b, off, none⟩) k qc, .int .i64 t.who] y.w fun e w' => e = .returned (.int .i64 m2) ∧ Below y.w.heap.size y.w w' := fun y => by
                have := ticket_any y.w (some ⟨b, off, none⟩) qc (x.q.take k) t.who (by rw [htk]; omega) ((Hm.out.q.up (HV2W.out.trans (y.below.mono hsV2))).take k)
                rwa [htk, ← hm2] at this
              have hkok : okT x k = (!i1 && !i2) := by
                rw [Hkt.out, ← Hok2.out, ← hi1, ← hi2, decide_eq_true (show 0 ≤ t.who by omega), decide_eq_true (show t.who ≤ 2147483647 by omega)]
                rfl
              have Hc1 := Lib.hid hc1
              have Hc2 := Lib.hid hc2
              have Hkok := Lib.hid hkok
              have hkn : k ≤ qc := by omega
              clear hc1 hc2 hkok hm1 hm2 hi1 hi2 c0 c1 c2 c3 htk h1 h2
              cases i1 with
              | true =>
                go_wp2_with fail
                refine wp_region_bw (by kernel_rfl) (by kernel_rfl) ?_
                repeat (go_big_quiet_step (first | exact call_bw (Hc1.out _) | exact call_bw (Hc2.out _)))
                refine wpQuiet_nil (bw_nil fun V hV => ?_)
                go_wp2_with fail
                go_ret
                exact ⟨ret_bool (right_q hlt (by rw [Hkok.out]; rfl)).symm, bnext (bnext HbW.out HV2W.out) hV⟩
              | false =>
                cases i2 with
                | true =>
                  go_wp2_with fail
                  refine wp_region_bw (by kernel_rfl) (by kernel_rfl) ?_
                  repeat (go_big_quiet_step (first | exact call_bw (Hc1.out _) | exact call_bw (Hc2.out _)))
                  refine wpQuiet_nil (bw_nil fun V hV => ?_)
                  go_wp2_with fail
                  go_ret
                  exact ⟨ret_bool (right_q hlt (by rw [Hkok.out]; rfl)).symm, bnext (bnext HbW.out HV2W.out) hV⟩
                | false =>
                  go_wp2_with fail
                  refine wp_region_bw (by kernel_rfl) (by kernel_rfl) ?_
                  repeat (go_big_quiet_step (first | exact call_bw (Hc1.out _) | exact call_bw (Hc2.out _)))
                  refine wpQuiet_nil (bw_nil fun V hV => ?_)
                  go_wp2_with fail
                  go_roundg (x.q.length - (k + 1))
                  case measure => have := Hg.out; omega
                  case rel =>
                    refine ⟨k + 1, by omega, rfl, by go_num, fun j hj => ?_, HV2W.out.trans (hV.mono hsV2)⟩
                    rcases Nat.lt_or_ge j k with h | h
                    · exact Hokq.out j h
                    · obtain rfl : j = k := by omega
                      rw [Hkok.out]; rfl
          · obtain rfl : k = x.q.length := by omega
            have hsm : x.small := small_of Hh.out Hrt.out.symm Hokq.out
            have hend := right_end Hh.out Hrt.out.symm (fun j c hc => Hok.out j c (List.getElem?_eq_some_iff.1 hc).1 hc) Hokq.out
            have Hsm := Lib.hid hsm
            have Hend := Lib.hid hend
            clear hsm hend hb
            go_wp2_with fail
            refine (left_any wr A Q ac qc x Hsm.out (Hm.out.c.up Hb.out)).mono ?_
            rintro e V3 ⟨rfl, hb3⟩
            have HV3 := Lib.hid (Hb.out.trans (hb3.mono hsr))
            clear c0 c1 c2 c3 ltr hb3
            obtain ⟨c0, c1, c2, c3, _, _, _, _, ltr⟩ := HB'.out.up HV3.out lt
            obtain ⟨lf, hlf⟩ : ∃ lf, lf = x.left := ⟨_, rfl⟩
            rw [← hlf]
            have hend := Hend.out
            rw [← hlf] at hend
            have Hend2 := Lib.hid hend
            have hlf8 : lf ≤ 8 := by have := heldS_le Hsm.out.cl x.cs.length; rw [List.take_length] at this; rw [hlf]; unfold Hall.left; omega
            clear hlf hend
            by_cases h0 : (0 : Int) ≤ lf
            · go_wp2_with fail
              have d5 := safe_any V3 A ac x.cs lf Hm.out.ca Hm.out.ca2 (Hm.out.c.up HV3.out)
              obtain ⟨sf, hsf⟩ : ∃ sf, sf = safeB lf x.cs := ⟨_, rfl⟩
              rw [← hsf] at d5
              have Hsf := Lib.hid hsf; clear hsf
              refine d5.mono ?_
              clear d5
              rintro e V4 ⟨rfl, hb4⟩
              have HV4 := Lib.hid (HV3.out.trans (hb4.mono (by have := HV3.out.size; omega)))
              clear c0 c1 c2 c3 ltr hb4
              obtain ⟨c0, c1, c2, c3, _, _, _, _, ltr⟩ := HB'.out.up HV4.out lt
              cases sf with
              | false =>
                go_wp2_with fail
                go_ret
                exact ⟨ret_bool (by rw [Hend2.out, ← Hsf.out]; simp), bnext HbW.out HV4.out⟩
              | true =>
                go_wp2_with fail
                have d6 := open_any V4 A Q ac qc x Hsm.out (Hm.out.c.up HV4.out) (Hm.out.q.up HV4.out)
                obtain ⟨op, hop⟩ : ∃ op, op = x.open := ⟨_, rfl⟩
                rw [← hop] at d6
                have Hop := Lib.hid hop; clear hop
                refine d6.mono ?_
                clear d6
                rintro e V5 ⟨rfl, hb5⟩
                have HV5 := Lib.hid (HV4.out.trans (hb5.mono (by have := HV4.out.size; omega)))
                clear hb5 c0 c1 c2 c3 ltr
                cases op
                all_goals
                  go_wp2_with fail
                  go_ret
                  exact ⟨ret_bool (by rw [Hend2.out, ← Hsf.out, ← Hop.out, decide_eq_true h0]; rfl), bnext HbW.out HV5.out⟩
            · go_wp2_with fail
              go_ret
              exact ⟨ret_bool (by rw [Hend2.out, decide_eq_false (by omega)]; rfl), bnext HbW.out HV3.out⟩
end Go.Proofs.Ythhfhgkkfaghoaa
