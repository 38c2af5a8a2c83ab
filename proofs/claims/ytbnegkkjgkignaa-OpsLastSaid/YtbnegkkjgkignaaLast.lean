/- The law OpsLast, walked. -/
import Derived.Test.YtbnegkkjgkignaaOps9
import Derived.Test.YtbnegkkjgkignaaPlain2
import Derived.Test.YtbnegkkjgkignaaRegD
namespace Go.Proofs.Ytbnegkkjgkignaa
open Go.RowKit

theorem right_one {p : Pg} (h : rightP p = true) : rightM [p] = true := right_of (by simpa using h) (by simp [Sorted])
theorem place_one {p : Pg} {id : Int} (h : p.id = id) : placeM [p] id = (0, true) := place_is (a := []) (c := []) (by simp) h
section
variable {k many : Int} {last b : ByteArray} (h1 : 1 ≤ k) (h2 : k ≤ 16) (hm : 1 ≤ many) (hm2 : many < 2147483647) (hs : last.size ≤ 16)
include h1 h2 hm hm2 hs
theorem one_right : rightM [⟨k, many, last⟩] = true := right_one (rightP_iff.2 ⟨h1, h2, hm, by show many ≤ _; omega, hs⟩)
theorem one_write (hb : b.size ≤ 16) : doM [⟨k, many, last⟩] ⟨3, k, b⟩ = ([⟨k, many + 1, b⟩], ⟨0, ⟨k, many + 1, b⟩⟩) := by
  rw [doM_up (k := 0) (p := ⟨k, many, last⟩) (one_right h1 h2 hm hm2 hs) (opRight_iff.2 ⟨by show (1 : Int) ≤ 3; decide, by show (3 : Int) ≤ 4; decide, h1, h2⟩) (place_one rfl) rfl rfl (by show ¬ 16 < b.size; omega) (by show ¬ 2147483647 ≤ many; omega)]
  rfl
theorem one_long (hb : ¬ b.size ≤ 16) : doM [⟨k, many, last⟩] ⟨3, k, b⟩ = ([⟨k, many, last⟩], ⟨5, pg0⟩) :=
  doM_long (k := 0) (p := ⟨k, many, last⟩) (one_right h1 h2 hm hm2 hs) (opRight_iff.2 ⟨by show (1 : Int) ≤ 3; decide, by show (3 : Int) ≤ 4; decide, h1, h2⟩) (place_one rfl) rfl rfl (by show 16 < b.size; omega)
theorem one_read : doM [⟨k, many, last⟩] ⟨2, k, ⟨#[]⟩⟩ = ([⟨k, many, last⟩], ⟨0, ⟨k, many, last⟩⟩) :=
  doM_read (k := 0) (p := ⟨k, many, last⟩) (one_right h1 h2 hm hm2 hs) (opRight_iff.2 ⟨by show (1 : Int) ≤ 2; decide, by show (2 : Int) ≤ 4; decide, h1, h2⟩) (place_one rfl) rfl rfl
end
theorem one_new {k : Int} (h1 : 1 ≤ k) (h2 : k ≤ 16) : doM [] ⟨1, k, ⟨#[]⟩⟩ = ([⟨k, 1, ⟨#[]⟩⟩], ⟨0, ⟨k, 1, ⟨#[]⟩⟩⟩) := by
  rw [doM_new (k := 0) right_nil (opRight_iff.2 ⟨by show (1 : Int) ≤ 1; decide, by show (1 : Int) ≤ 4; decide, h1, h2⟩) rfl rfl]
  rfl

theorem OpsDone.rd' {A0 : Option Addr} {l0 : List Pg} {r : List Pg × Rs} {w : World} {e : Ending} {w' : World} {ok : Nat → Prop} (h : OpsDone A0 l0 r w e w') (hr : Rd' Pg.cells 3 w ok A0 l0) (hB : ∀ b, ok b → b < w.heap.size) :
    ∃ A cap, e = .returned (.tuple #[.agg #[.slice A r.1.length cap], rsV r.2]) ∧ Rd' Pg.cells 3 w' (fun b => ok b ∨ w.heap.size ≤ b ∧ b < w'.heap.size) A r.1 ∧ Below w.heap.size w w' := by
  obtain ⟨A, cap, rfl, hc, hb⟩ := h
  refine ⟨A, cap, rfl, ?_, hb⟩
  rcases hc with ⟨h1, h2⟩ | h1
  · rw [h1, h2]
    exact (hr.keep fun b hb' => hb.block b (hB b hb')).imp fun b hb' => .inl hb'
  · exact (Rd'.of_own h1 pg_len (by decide)).imp fun b hb' => .inr hb'
theorem rd_s {w : World} {B : Nat} {A : Option Addr} {l : List ByteArray} (h : Rd (fun b => [Value.string b]) 1 w B A l) {k : Nat} (hk : k < l.length) :
    ∃ c b off, l[k]? = some c ∧ A = some ⟨b, off, none⟩ ∧ b < B ∧ ∀ W, Below B w W → W.cell? ⟨b, off + k, none⟩ = some (.string c) := by
  obtain ⟨c, b, off, hc, hA, hb, hcell⟩ := h.at_ hk
  exact ⟨c, b, off, hc, hA, hb, fun W hW => by simpa using hcell W hW 0 _ rfl⟩
set_option maxHeartbeats 4000000 in
theorem lawLast (w : World) (id : Int) (h0 : 0 ≤ id) (A : Option Addr) (cap : Nat) (bs : List ByteArray) (hbs : bs.length ≤ 9223372036854775807) (hr : Rd (fun b => [Value.string b]) 1 w w.heap.size A bs) :
    Calls Try.prog 6 #[.int .u8 id, .slice A bs.length cap] w fun e w' => e = .returned (.bool true) ∧ Below w.heap.size w w' := by
  have Hr := Lib.hid hr; clear hr
  go_enter Try.func6, Try.ntmps6
  go_wp2_with fail
  obtain ⟨k, hk⟩ : ∃ k, k = 1 + id % 16 := ⟨_, rfl⟩
  have hk1 : 1 ≤ k := by omega
  have hk2 : k ≤ 16 := by omega
  rw [← hk]
  clear hk
  have d1 := opsDo_any w none 0 [] ⟨1, k, ⟨#[]⟩⟩ (by decide) Rd.nil
  rw [one_new hk1 hk2] at d1
  refine d1.mono ?_
  clear d1
  rintro e V ⟨A1, c1, rfl, hAB, hb1⟩
  have hr1 : Rd Pg.cells 3 V V.heap.size A1 [⟨k, 1, ⟨#[]⟩⟩] := by
    rcases hAB with ⟨_, h⟩ | h
    · simp at h
    · exact Rd.of_own h pg_len (by decide)
  have Hr1 := Lib.hid hr1; clear hr1 hAB
  have Hb1 := Lib.hid hb1
  have hs1 := hb1.size
  clear hb1
  obtain ⟨N, hN⟩ : ∃ N, N = V.heap.size := ⟨_, rfl⟩
  have hN' := hN.symm
  have hwN : w.heap.size ≤ N := by omega
  clear hN
  simp only [rsV, List.length_cons, List.length_nil]
  go_wp2_with fail
  obtain ⟨X, hX⟩ : ∃ X, X = (V.alloc (.cells #[.slice A1 1 c1] 24)).alloc (.cells #[.int .i64 0, .int .i64 k, .int .i64 1, .string ⟨#[]⟩] 33) := ⟨_, rfl⟩
  have hbX : Below V.heap.size V X := by rw [hX]; exact ((Below.refl _ _).alloc (Nat.le_refl _) _).alloc (by simp) _
  have hsX : X.heap.size = N + 2 := by rw [hX, ← hN']; simp
  have x0 : X.heap[N]? = some (.cells #[.slice A1 1 c1] 24 (0, 0)) := by rw [hX, ← hN', heap_alloc_old _ _ (by simp), heap_alloc_new]
  have x1 : X.heap[N + 1]? = some (.cells #[.int .i64 0, .int .i64 k, .int .i64 1, .string ⟨#[]⟩] 33 (0, 0)) := by
    have := heap_alloc_new (V.alloc (.cells #[.slice A1 1 c1] 24)) (.cells #[.int .i64 0, .int .i64 k, .int .i64 1, .string ⟨#[]⟩] 33)
    rw [hX, ← hN']
    simpa using this
  have hrX : Rd' Pg.cells 3 X (fun b => b ≠ N ∧ b < X.heap.size) A1 [⟨k, 1, ⟨#[]⟩⟩] := ((Hr1.out.below hbX).to').imp fun b hb => ⟨by omega, by omega⟩
  have HrX := Lib.hid hrX
  have HbX := Lib.hid (bnext Hb1.out hbX)
  have e0 := cells_of x0 0
  have f0 := frozen_of x0 0
  have HxA := Lib.hid (show X.heap[N + 1]? = _ from x1)
  rw [← hX]
  clear hrX hbX x0 x1 hX
  go_loopg [8, 9, 10] bs.length (fun g last many i wr => ∃ (j : Nat) (m : Int) (b : ByteArray) (A' : Option Addr) (c' : Nat), j ≤ bs.length ∧ g = bs.length - j ∧ i = .int .i64 j ∧ many = .int .i64 m ∧ last = .string b ∧ 1 ≤ m ∧ m ≤ j + 1 ∧ j ≤ 60 ∧ b.size ≤ 16 ∧
    wr.cell? ⟨N, 0, none⟩ = some (.slice A' 1 c') ∧ wr.frozen? ⟨N, 0, none⟩ = false ∧ wr.heap[N + 1]? = some (.cells #[.int .i64 0, .int .i64 k, .int .i64 1, .string ⟨#[]⟩] 33 (0, 0)) ∧
    Rd' Pg.cells 3 wr (fun b => b ≠ N ∧ b < wr.heap.size) A' [⟨k, m, b⟩] ∧ Below w.heap.size w wr ∧ N + 2 ≤ wr.heap.size)
  case atStart => exact ⟨0, 1, ⟨#[]⟩, A1, c1, Nat.zero_le _, rfl, rfl, rfl, rfl, by decide, by decide, by decide, by decide, by simpa using e0, f0, HxA.out, HrX.out, HbX.out, by omega⟩
  case round =>
    obtain ⟨j, m, b, A', c', hj, hg, rfl, rfl, rfl, hm1, hm2, hj60, hbz, e0, f0, x1, hr', hb, hsr⟩ := hrel
    have Hg := Lib.hid hg; clear hg
    have Hx1 := Lib.hid x1; clear x1
    have Hr' := Lib.hid hr'; clear hr'
    have Hb := Lib.hid hb; clear hb
    clear hN' hsX hs1
    have hjdec : j < bs.length ∧ j < 60 ∨ ¬ (j < bs.length ∧ j < 60) := Classical.em _
    rcases hjdec with ⟨hlt, hlt6⟩ | hge
    · obtain ⟨bd, ba, off, hbd, rfl, hbb, hcell⟩ := rd_s Hr.out hlt
      have hji : (j : Int) < (bs.length : Int) := by omega
      have hji6 : (j : Int) < 60 := by omega
      have g0 := hcell wr Hb.out
      have hbaw : ba < wr.heap.size := by have := Hb.out.size; omega
      have Hcell := Lib.hid hcell
      clear hcell hbd
      by_cases h100 : (100 : Int) < (bd.size : Int)
      · go_wp2_with fail
        refine (awake_any wr).mono ?_
        rintro e V2 ⟨rfl, hb2⟩
        go_wp2_with fail
        go_ret
        exact ⟨rfl, bnext Hb.out hb2⟩
      · go_wp2_with fail
        obtain ⟨x2, r2, hd, hsh⟩ : ∃ x2 r2, doM [⟨k, m, b⟩] ⟨3, k, bd⟩ = (x2, r2) ∧ (bd.size ≤ 16 ∧ x2 = [⟨k, m + 1, bd⟩] ∧ r2 = ⟨0, ⟨k, m + 1, bd⟩⟩ ∨ ¬ bd.size ≤ 16 ∧ x2 = [⟨k, m, b⟩] ∧ r2 = ⟨5, pg0⟩) := by
          by_cases hz : bd.size ≤ 16
          · exact ⟨_, _, one_write hk1 hk2 hm1 (by omega) hbz hz, .inl ⟨hz, rfl, rfl⟩⟩
          · exact ⟨_, _, one_long hk1 hk2 hm1 (by omega) hbz hz, .inr ⟨hz, rfl, rfl⟩⟩
        have Hd := Lib.hid hd; clear hd
        have Hsh := Lib.hid hsh; clear hsh
        obtain ⟨M, hM⟩ : ∃ M, M = wr.heap.size := ⟨_, rfl⟩
        have Hf0 := Lib.hid f0
        have He0 := Lib.hid e0
        have hC : ∀ U, Below M wr U → U.cell? ⟨N, 0, none⟩ = some (.slice A' 1 c') ∧ U.cell? ⟨ba, off + j, none⟩ = some (.string bd) := fun U hU => ⟨(hU.cell (p := ⟨N, 0, none⟩) (by show N < M; omega)).trans e0, (hU.cell (p := ⟨ba, off + j, none⟩) (by show ba < M; omega)).trans g0⟩
        have HC := Lib.hid hC; clear hC
        refine wp_region_C (fun U => U.cell? ⟨N, 0, none⟩ = some (.slice A' 1 c') ∧ U.cell? ⟨ba, off + j, none⟩ = some (.string bd)) (by kernel_rfl) rfl rfl ?_
        obtain ⟨U0, hU0⟩ : ∃ U0, U0 = wr.drew := ⟨_, rfl⟩
        have hb0 : Below M wr U0 := by rw [hU0]; exact (Below.refl _ _).drew
        have hs0 : U0.heap.size = M := by rw [hU0, hM]; rfl
        have hr0 : Rd' Pg.cells 3 U0 (fun b => b ≠ N ∧ b < M) A' [⟨k, m, b⟩] := by rw [hU0, hM]; exact Hr'.out
        have hNM : N + 2 ≤ M := by omega
        rw [← hU0]
        clear hU0 e0 f0 g0 hM
        (refine takeC (i := 0) (.agg #[.slice A' 1 c']) rfl (by kernel_rfl) (by kernel_rfl) (by kernel_rfl) rfl (fun _ _ _ h => h) (HC.out U0 hb0) rfl (fun U hU => by obtain ⟨k0, k1⟩ := hU; go_simp) (fun K hK => ?_); have HK := Lib.hid hK; clear hK; go_simp; refine HK.out _ ?_; clear HK K)
        (refine takeC (i := 1) (.int .i64 k) rfl (by kernel_rfl) (by kernel_rfl) (by kernel_rfl) rfl (fun _ _ _ h => h) (HC.out U0 hb0) rfl (fun U hU => by obtain ⟨k0, k1⟩ := hU; go_simp) (fun K hK => ?_); have HK := Lib.hid hK; clear hK; go_simp; refine HK.out _ ?_; clear HK K)
        (refine takeC (i := 2) (.slice (some ⟨ba, off, none⟩) bs.length cap) rfl (by kernel_rfl) (by kernel_rfl) (by kernel_rfl) rfl (fun _ _ _ h => h) (HC.out U0 hb0) rfl (fun U hU => by obtain ⟨k0, k1⟩ := hU; go_simp) (fun K hK => ?_); have HK := Lib.hid hK; clear hK; go_simp; refine HK.out _ ?_; clear HK K)
        (refine takeC (i := 3) (.int .i64 j) rfl (by kernel_rfl) (by kernel_rfl) (by kernel_rfl) rfl (fun _ _ _ h => h) (HC.out U0 hb0) rfl (fun U hU => by obtain ⟨k0, k1⟩ := hU; go_simp) (fun K hK => ?_); have HK := Lib.hid hK; clear hK; go_simp; refine HK.out _ ?_; clear HK K)
        (refine takeC (i := 4) (.pointer (some ⟨ba, off + j, none⟩)) rfl (by kernel_rfl) (by kernel_rfl) (by kernel_rfl) rfl (fun _ _ _ h => h) (HC.out U0 hb0) rfl (fun U hU => by obtain ⟨k0, k1⟩ := hU; go_simp) (fun K hK => ?_); have HK := Lib.hid hK; clear hK; go_simp; refine HK.out _ ?_; clear HK K)
        (refine takeC (i := 5) (.string bd) rfl (by kernel_rfl) (by kernel_rfl) (by kernel_rfl) rfl (fun _ _ _ h => h) (HC.out U0 hb0) rfl (fun U hU => by obtain ⟨k0, k1⟩ := hU; go_simp) (fun K hK => ?_); have HK := Lib.hid hK; clear hK; go_simp; refine HK.out _ ?_; clear HK K)
        (refine takeC (i := 6) (.agg #[.int .i64 3, .int .i64 k, .string bd]) rfl (by kernel_rfl) (by kernel_rfl) (by kernel_rfl) rfl (fun _ _ _ h => h) (HC.out U0 hb0) rfl (fun U hU => by obtain ⟨k0, k1⟩ := hU; go_simp) (fun K hK => ?_); have HK := Lib.hid hK; clear hK; go_simp; refine HK.out _ ?_; clear HK K)
        have Hhs0 := Lib.hid hs0; clear hs0
        refine threeC (i := 7) (j := 11) (k := 12) (by kernel_rfl) rfl rfl rfl rfl rfl rfl rfl rfl rfl (fun K hK => ?_) (fun K hK => ?_) (fun K hK => ?_)
        · have HK := Lib.hid hK; clear hK
          go_simp
          have hs0 := Hhs0.out
          clear Hhs0
          have d2 := opsDo_any U0 A' c' [⟨k, m, b⟩] ⟨3, k, bd⟩ (by simp) (hr0.to fun b hb => by omega)
          rw [Hd.out] at d2
          refine d2.mono ?_
          clear d2
          rintro e U1 hd
          obtain ⟨A2, c2, rfl, hr1, hq1⟩ := hd.rd' hr0 (fun b hb => by omega)
          clear hd
          have hs1 := hq1.size
          have hb1 : Below M wr U1 := hb0.trans (hq1.mono (by omega))
          have Hhs0 := Lib.hid hs0
          have Hhs1 := Lib.hid hs1
          clear hs0 hs1
          refine HK.out _ _ (HC.out _ hb1) ?_
          clear HK K
          simp only [rsV]
          (refine takeC (i := 8) (.tuple #[.agg #[.slice A2 x2.length c2], .agg #[.int .i64 r2.e, .int .i64 r2.pg.id, .int .i64 r2.pg.ver, .string r2.pg.body]]) rfl (by kernel_rfl) (by kernel_rfl) (by kernel_rfl) rfl (fun _ _ _ h => h) (HC.out _ hb1) rfl (fun U hU => by go_simp) (fun K hK => ?_); have HK := Lib.hid hK; clear hK; go_simp; refine HK.out _ ?_; clear HK K)
          (refine takeC (i := 9) (.agg #[.slice A2 x2.length c2]) rfl (by kernel_rfl) (by kernel_rfl) (by kernel_rfl) rfl (fun _ _ _ h => h) (HC.out _ hb1) rfl (fun U hU => by go_simp) (fun K hK => ?_); have HK := Lib.hid hK; clear hK; go_simp; refine HK.out _ ?_; clear HK K)
          (refine takeC (i := 10) (.agg #[.int .i64 r2.e, .int .i64 r2.pg.id, .int .i64 r2.pg.ver, .string r2.pg.body]) rfl (by kernel_rfl) (by kernel_rfl) (by kernel_rfl) rfl (fun _ _ _ h => h) (HC.out _ hb1) rfl (fun U hU => by go_simp) (fun K hK => ?_); have HK := Lib.hid hK; clear hK; go_simp; refine HK.out _ ?_; clear HK K)
          refine twoC (i := 11) (j := 12) (by kernel_rfl) rfl rfl rfl rfl rfl rfl (fun K hK => ?_) (fun K hK => ?_)
          · have HK := Lib.hid hK; clear hK
            go_simp
            have hs0 := Hhs0.out
            have hs1 := Hhs1.out
            clear Hhs0 Hhs1
            obtain ⟨pA, hpA⟩ : ∃ p, p = U1.heap.size := ⟨_, rfl⟩
            obtain ⟨U2, hU2⟩ : ∃ U, U = U1.alloc (.cells #[.slice none 0 0] 24) := ⟨_, rfl⟩
            have hq2 : Below pA U1 U2 := by rw [hU2, hpA]; exact (Below.refl _ _).alloc (Nat.le_refl _) _
            have hs2 : U2.heap.size = pA + 1 := by rw [hU2, hpA]; simp
            have hb2 : Below M wr U2 := hb1.trans (hq2.mono (by omega))
            have hr2 := hr1.keep (w' := U2) fun b hb => hq2.block b (by omega)
            have zA2 : U2.heap[pA]? = some (.cells #[.slice none 0 0] 24 (0, 0)) := by rw [hU2, hpA, heap_alloc_new]
            rw [← hU2, ← hpA]
            clear hU2
            have Hhs0 := Lib.hid hs0
            have Hhs1 := Lib.hid hs1
            have Hhs2 := Lib.hid hs2
            have HhpA := Lib.hid hpA
            clear hs0 hs1 hs2 hpA
            refine HK.out _ _ (HC.out _ hb2) ?_
            clear HK K
            refine oneC (i := 12) (by kernel_rfl) rfl rfl rfl (fun K hK => ?_)
            have HK := Lib.hid hK; clear hK
            go_simp
            have hs0 := Hhs0.out
            have hs1 := Hhs1.out
            have hs2 := Hhs2.out
            have hpA := HhpA.out
            clear Hhs0 Hhs1 Hhs2 HhpA
            obtain ⟨pB, hpB⟩ : ∃ p, p = U2.heap.size := ⟨_, rfl⟩
            obtain ⟨U3, hU3⟩ : ∃ U, U = U2.alloc (.cells #[.int .i64 0, .int .i64 0, .int .i64 0, .string ⟨#[]⟩] 33) := ⟨_, rfl⟩
            have hq3 : Below pB U2 U3 := by rw [hU3, hpB]; exact (Below.refl _ _).alloc (Nat.le_refl _) _
            have hs3 : U3.heap.size = pB + 1 := by rw [hU3, hpB]; simp
            have hb3 : Below M wr U3 := hb2.trans (hq3.mono (by omega))
            have hr3 := hr2.keep (w' := U3) fun b hb => hq3.block b (by omega)
            have zB3 : U3.heap[pB]? = some (.cells #[.int .i64 0, .int .i64 0, .int .i64 0, .string ⟨#[]⟩] 33 (0, 0)) := by rw [hU3, hpB, heap_alloc_new]
            have zA3 := (hq3.block pA (by omega)).trans zA2
            rw [← hU3, ← hpB]
            clear hU3
            have Hhs0 := Lib.hid hs0
            have Hhs1 := Lib.hid hs1
            have Hhs2 := Lib.hid hs2
            have Hhs3 := Lib.hid hs3
            have HhpA := Lib.hid hpA
            have HhpB := Lib.hid hpB
            clear hs0 hs1 hs2 hs3 hpA hpB
            refine HK.out _ _ (HC.out _ hb3) ?_
            clear HK K
            have hs0 := Hhs0.out
            have hs1 := Hhs1.out
            have hs2 := Hhs2.out
            have hs3 := Hhs3.out
            have hpA := HhpA.out
            have hpB := HhpB.out
            clear Hhs0 Hhs1 Hhs2 Hhs3 HhpA HhpB
            have hne : pA ≠ pB := by omega
            have hrE : Rd' Pg.cells 3 U3 (fun b => b ≠ N ∧ b ≠ pA ∧ b ≠ pB ∧ b < U3.heap.size) A2 x2 := hr3.imp fun b hb => by omega
            have hA1 : M ≤ pA ∧ pA < U3.heap.size := by omega
            have hB1 : M ≤ pB ∧ pB < U3.heap.size := by omega
            have HrE := Lib.hid hrE; have HbE := Lib.hid hb3; have HzA := Lib.hid zA3; have HzB := Lib.hid zB3
            clear hrE hb3 zA3 zB3 hr0 hr1 hr2 hr3 hb0 hb1 hb2 hq1 hq2 hq3 hs0 hs1 hs2 hs3 hpA hpB
            have hL : x2.length = 1 := by rcases Hsh.out with ⟨_, h, _⟩ | ⟨_, h, _⟩ <;> rw [h] <;> rfl
            have a0 := cells_of HzA.out 0
            have af := frozen_of HzA.out 0
            have b0 := cells_of HzB.out 0
            have b1 := cells_of HzB.out 1
            have b2 := cells_of HzB.out 2
            have b3 := cells_of HzB.out 3
            have bf0 := frozen_of HzB.out 0
            have bf1 := frozen_of HzB.out 1
            have bf2 := frozen_of HzB.out 2
            have bf3 := frozen_of HzB.out 3
            simp only [List.getElem?_toArray, List.getElem?_cons_zero, List.getElem?_cons_succ] at a0 b0 b1 b2 b3
            have e0 := (HbE.out.cell (p := ⟨N, 0, none⟩) (by show N < M; omega)).trans He0.out
            have f0 := (HbE.out.frozen (p := ⟨N, 0, none⟩) (by show N < M; omega)).trans Hf0.out
            have g0 := (HC.out U3 HbE.out).2
            have q1 : ¬ N = pA := by omega
            have q2 : ¬ N = pB := by omega
            have q3 : ¬ pA = pB := by omega
            have q4 : ¬ pB = pA := by omega
            have q5 : ¬ ba = pA := by omega
            have q6 : ¬ ba = pB := by omega
            have q7 : N < U3.heap.size := by omega
            have q8 : ba < U3.heap.size := by omega
            clear hne
            (refine oneC (i := 13) (by kernel_rfl) rfl rfl rfl (fun K hK => ?_); have HK := Lib.hid hK; clear hK; go_simp; refine HK.out _ _ ?_ ?_; clear HK K; · (refine ⟨?_, ?_⟩ <;> go_simp))
            (refine oneC (i := 14) (by kernel_rfl) rfl rfl rfl (fun K hK => ?_); have HK := Lib.hid hK; clear hK; go_simp; refine HK.out _ _ ?_ ?_; clear HK K; · (refine ⟨?_, ?_⟩ <;> go_simp))
            refine doneC (by kernel_rfl) ?_
            obtain ⟨U4, hU4⟩ : ∃ U4, U4 = (((((U3.setCell ⟨pA, 0, none⟩ (.slice A2 1 c2)).setCell ⟨pB, 0, none⟩ (.int .i64 r2.e)).setCell ⟨pB, 1, none⟩ (.int .i64 r2.pg.id)).setCell ⟨pB, 2, none⟩ (.int .i64 r2.pg.ver)).setCell ⟨pB, 3, none⟩ (.string r2.pg.body)) := ⟨_, rfl⟩
            rw [← hU4]
            have v0 : U4.cell? ⟨N, 0, none⟩ = some (.slice A' 1 c') ∧ U4.frozen? ⟨N, 0, none⟩ = false ∧ U4.cell? ⟨pA, 0, none⟩ = some (.slice A2 1 c2) ∧ U4.cell? ⟨pB, 0, none⟩ = some (.int .i64 r2.e) ∧ U4.cell? ⟨ba, off + j, none⟩ = some (.string bd) := by
              rw [hU4]
              refine ⟨?_, ?_, ?_, ?_, ?_⟩ <;> go_simp
            have hb4 : Below M wr U4 := by rw [hU4]; exact below_end HbE.out hA1.1 hB1.1
            have h4 : ∀ b, b ≠ pA → b ≠ pB → U4.heap[b]? = U3.heap[b]? := fun b h1 h2 => by
              rw [hU4, Below.heap_setCell _ _ _ _ h2, Below.heap_setCell _ _ _ _ h2, Below.heap_setCell _ _ _ _ h2, Below.heap_setCell _ _ _ _ h2, Below.heap_setCell _ _ _ _ h1]
            have hs4 : U4.heap.size = U3.heap.size := by rw [hU4]; simp
            have Hh4 := Lib.hid h4
            have Hb4 := Lib.hid hb4
            have Hs4 := Lib.hid hs4
            have q9 : N < U4.heap.size := by omega
            clear a0 af b0 b1 b2 b3 bf0 bf1 bf2 bf3 hL e0 f0 g0 hU4 h4 hb4 hs4
            obtain ⟨v0, v1, v2, v3, v4⟩ := v0
            rcases Hsh.out with ⟨hz, rfl, rfl⟩ | ⟨hz, rfl, rfl⟩
            · have hz' : (bd.size : Int) ≤ 16 := by omega
              clear hz Hsh
              go_wp2_with fail
              go_quiet (fail)
              go_wp2_with fail
              have hx : ∀ b', b' ≠ N → ((U4.drewN nq).setCell ⟨N, 0, none⟩ (.slice A2 1 c2)).heap[b']? = U4.heap[b']? := fun b' h => Below.heap_setCell (U4.drewN nq) ⟨N, 0, none⟩ _ b' h
              go_roundg (bs.length - (j + 1))
              case measure => have := Hg.out; omega
              case rel =>
                refine ⟨j + 1, m + 1, bd, A2, c2, by omega, rfl, by go_num, rfl, rfl, by omega, by omega, by omega, by omega, by go_simp, by go_simp, ?_, ?_, ?_, ?_⟩
                · exact (hx (N + 1) (by omega)).trans ((Hh4.out (N + 1) (by omega) (by omega)).trans ((HbE.out.block (N + 1) (by omega)).trans Hx1.out))
                · exact (HrE.out.keep fun b' hb' => (hx b' hb'.1).trans (Hh4.out b' hb'.2.1 hb'.2.2.1)).imp fun b' hb' => ⟨hb'.1, by have := Hs4.out; have := hb'.2.2.2; simp; omega⟩
                · exact (below_drewN (Hb.out.trans (Hb4.out.mono (by have := Hb.out.size; omega))) nq).setCell (p := ⟨N, 0, none⟩) hwN _
                · have := Hs4.out; simp; omega
            · have hz' : ¬ (bd.size : Int) ≤ 16 := by omega
              clear hz Hsh
              go_wp2_with fail
              go_quiet (fail)
              go_wp2_with fail
              have hx : ∀ b', b' ≠ N → ((U4.drewN nq).setCell ⟨N, 0, none⟩ (.slice A2 1 c2)).heap[b']? = U4.heap[b']? := fun b' h => Below.heap_setCell (U4.drewN nq) ⟨N, 0, none⟩ _ b' h
              go_roundg (bs.length - (j + 1))
              case measure => have := Hg.out; omega
              case rel =>
                refine ⟨j + 1, m, b, A2, c2, by omega, rfl, by go_num, rfl, rfl, by omega, by omega, by omega, by omega, by go_simp, by go_simp, ?_, ?_, ?_, ?_⟩
                · exact (hx (N + 1) (by omega)).trans ((Hh4.out (N + 1) (by omega) (by omega)).trans ((HbE.out.block (N + 1) (by omega)).trans Hx1.out))
                · exact (HrE.out.keep fun b' hb' => (hx b' hb'.1).trans (Hh4.out b' hb'.2.1 hb'.2.2.1)).imp fun b' hb' => ⟨hb'.1, by have := Hs4.out; have := hb'.2.2.2; simp; omega⟩
                · exact (below_drewN (Hb.out.trans (Hb4.out.mono (by have := Hb.out.size; omega))) nq).setCell (p := ⟨N, 0, none⟩) hwN _
                · have := Hs4.out; simp; omega
          · have HK := Lib.hid hK; clear hK
            go_simp
            have hs0 := Hhs0.out
            have hs1 := Hhs1.out
            clear Hhs0 Hhs1
            obtain ⟨pB, hpB⟩ : ∃ p, p = U1.heap.size := ⟨_, rfl⟩
            obtain ⟨U2, hU2⟩ : ∃ U, U = U1.alloc (.cells #[.int .i64 0, .int .i64 0, .int .i64 0, .string ⟨#[]⟩] 33) := ⟨_, rfl⟩
            have hq2 : Below pB U1 U2 := by rw [hU2, hpB]; exact (Below.refl _ _).alloc (Nat.le_refl _) _
            have hs2 : U2.heap.size = pB + 1 := by rw [hU2, hpB]; simp
            have hb2 : Below M wr U2 := hb1.trans (hq2.mono (by omega))
            have hr2 := hr1.keep (w' := U2) fun b hb => hq2.block b (by omega)
            have zB2 : U2.heap[pB]? = some (.cells #[.int .i64 0, .int .i64 0, .int .i64 0, .string ⟨#[]⟩] 33 (0, 0)) := by rw [hU2, hpB, heap_alloc_new]
            rw [← hU2, ← hpB]
            clear hU2
            have Hhs0 := Lib.hid hs0
            have Hhs1 := Lib.hid hs1
            have Hhs2 := Lib.hid hs2
            have HhpB := Lib.hid hpB
            clear hs0 hs1 hs2 hpB
            refine HK.out _ _ (HC.out _ hb2) ?_
            clear HK K
            refine oneC (i := 11) (by kernel_rfl) rfl rfl rfl (fun K hK => ?_)
            have HK := Lib.hid hK; clear hK
            go_simp
            have hs0 := Hhs0.out
            have hs1 := Hhs1.out
            have hs2 := Hhs2.out
            have hpB := HhpB.out
            clear Hhs0 Hhs1 Hhs2 HhpB
            obtain ⟨pA, hpA⟩ : ∃ p, p = U2.heap.size := ⟨_, rfl⟩
            obtain ⟨U3, hU3⟩ : ∃ U, U = U2.alloc (.cells #[.slice none 0 0] 24) := ⟨_, rfl⟩
            have hq3 : Below pA U2 U3 := by rw [hU3, hpA]; exact (Below.refl _ _).alloc (Nat.le_refl _) _
            have hs3 : U3.heap.size = pA + 1 := by rw [hU3, hpA]; simp
            have hb3 : Below M wr U3 := hb2.trans (hq3.mono (by omega))
            have hr3 := hr2.keep (w' := U3) fun b hb => hq3.block b (by omega)
            have zA3 : U3.heap[pA]? = some (.cells #[.slice none 0 0] 24 (0, 0)) := by rw [hU3, hpA, heap_alloc_new]
            have zB3 := (hq3.block pB (by omega)).trans zB2
            rw [← hU3, ← hpA]
            clear hU3
            have Hhs0 := Lib.hid hs0
            have Hhs1 := Lib.hid hs1
            have Hhs2 := Lib.hid hs2
            have Hhs3 := Lib.hid hs3
            have HhpB := Lib.hid hpB
            have HhpA := Lib.hid hpA
            clear hs0 hs1 hs2 hs3 hpB hpA
            refine HK.out _ _ (HC.out _ hb3) ?_
            clear HK K
            have hs0 := Hhs0.out
            have hs1 := Hhs1.out
            have hs2 := Hhs2.out
            have hs3 := Hhs3.out
            have hpA := HhpA.out
            have hpB := HhpB.out
            clear Hhs0 Hhs1 Hhs2 Hhs3 HhpA HhpB
            have hne : pA ≠ pB := by omega
            have hrE : Rd' Pg.cells 3 U3 (fun b => b ≠ N ∧ b ≠ pA ∧ b ≠ pB ∧ b < U3.heap.size) A2 x2 := hr3.imp fun b hb => by omega
            have hA1 : M ≤ pA ∧ pA < U3.heap.size := by omega
            have hB1 : M ≤ pB ∧ pB < U3.heap.size := by omega
            have HrE := Lib.hid hrE; have HbE := Lib.hid hb3; have HzA := Lib.hid zA3; have HzB := Lib.hid zB3
            clear hrE hb3 zA3 zB3 hr0 hr1 hr2 hr3 hb0 hb1 hb2 hq1 hq2 hq3 hs0 hs1 hs2 hs3 hpA hpB
            have hL : x2.length = 1 := by rcases Hsh.out with ⟨_, h, _⟩ | ⟨_, h, _⟩ <;> rw [h] <;> rfl
            have a0 := cells_of HzA.out 0
            have af := frozen_of HzA.out 0
            have b0 := cells_of HzB.out 0
            have b1 := cells_of HzB.out 1
            have b2 := cells_of HzB.out 2
            have b3 := cells_of HzB.out 3
            have bf0 := frozen_of HzB.out 0
            have bf1 := frozen_of HzB.out 1
            have bf2 := frozen_of HzB.out 2
            have bf3 := frozen_of HzB.out 3
            simp only [List.getElem?_toArray, List.getElem?_cons_zero, List.getElem?_cons_succ] at a0 b0 b1 b2 b3
            have e0 := (HbE.out.cell (p := ⟨N, 0, none⟩) (by show N < M; omega)).trans He0.out
            have f0 := (HbE.out.frozen (p := ⟨N, 0, none⟩) (by show N < M; omega)).trans Hf0.out
            have g0 := (HC.out U3 HbE.out).2
            have q1 : ¬ N = pA := by omega
            have q2 : ¬ N = pB := by omega
            have q3 : ¬ pA = pB := by omega
            have q4 : ¬ pB = pA := by omega
            have q5 : ¬ ba = pA := by omega
            have q6 : ¬ ba = pB := by omega
            have q7 : N < U3.heap.size := by omega
            have q8 : ba < U3.heap.size := by omega
            clear hne
            (refine oneC (i := 13) (by kernel_rfl) rfl rfl rfl (fun K hK => ?_); have HK := Lib.hid hK; clear hK; go_simp; refine HK.out _ _ ?_ ?_; clear HK K; · (refine ⟨?_, ?_⟩ <;> go_simp))
            (refine oneC (i := 14) (by kernel_rfl) rfl rfl rfl (fun K hK => ?_); have HK := Lib.hid hK; clear hK; go_simp; refine HK.out _ _ ?_ ?_; clear HK K; · (refine ⟨?_, ?_⟩ <;> go_simp))
            refine doneC (by kernel_rfl) ?_
            obtain ⟨U4, hU4⟩ : ∃ U4, U4 = (((((U3.setCell ⟨pA, 0, none⟩ (.slice A2 1 c2)).setCell ⟨pB, 0, none⟩ (.int .i64 r2.e)).setCell ⟨pB, 1, none⟩ (.int .i64 r2.pg.id)).setCell ⟨pB, 2, none⟩ (.int .i64 r2.pg.ver)).setCell ⟨pB, 3, none⟩ (.string r2.pg.body)) := ⟨_, rfl⟩
            rw [← hU4]
            have v0 : U4.cell? ⟨N, 0, none⟩ = some (.slice A' 1 c') ∧ U4.frozen? ⟨N, 0, none⟩ = false ∧ U4.cell? ⟨pA, 0, none⟩ = some (.slice A2 1 c2) ∧ U4.cell? ⟨pB, 0, none⟩ = some (.int .i64 r2.e) ∧ U4.cell? ⟨ba, off + j, none⟩ = some (.string bd) := by
              rw [hU4]
              refine ⟨?_, ?_, ?_, ?_, ?_⟩ <;> go_simp
            have hb4 : Below M wr U4 := by rw [hU4]; exact below_end HbE.out hA1.1 hB1.1
            have h4 : ∀ b, b ≠ pA → b ≠ pB → U4.heap[b]? = U3.heap[b]? := fun b h1 h2 => by
              rw [hU4, Below.heap_setCell _ _ _ _ h2, Below.heap_setCell _ _ _ _ h2, Below.heap_setCell _ _ _ _ h2, Below.heap_setCell _ _ _ _ h2, Below.heap_setCell _ _ _ _ h1]
            have hs4 : U4.heap.size = U3.heap.size := by rw [hU4]; simp
            have Hh4 := Lib.hid h4
            have Hb4 := Lib.hid hb4
            have Hs4 := Lib.hid hs4
            have q9 : N < U4.heap.size := by omega
            clear a0 af b0 b1 b2 b3 bf0 bf1 bf2 bf3 hL e0 f0 g0 hU4 h4 hb4 hs4
            obtain ⟨v0, v1, v2, v3, v4⟩ := v0
            rcases Hsh.out with ⟨hz, rfl, rfl⟩ | ⟨hz, rfl, rfl⟩
            · have hz' : (bd.size : Int) ≤ 16 := by omega
              clear hz Hsh
              go_wp2_with fail
              go_quiet (fail)
              go_wp2_with fail
              have hx : ∀ b', b' ≠ N → ((U4.drewN nq).setCell ⟨N, 0, none⟩ (.slice A2 1 c2)).heap[b']? = U4.heap[b']? := fun b' h => Below.heap_setCell (U4.drewN nq) ⟨N, 0, none⟩ _ b' h
              go_roundg (bs.length - (j + 1))
              case measure => have := Hg.out; omega
              case rel =>
                refine ⟨j + 1, m + 1, bd, A2, c2, by omega, rfl, by go_num, rfl, rfl, by omega, by omega, by omega, by omega, by go_simp, by go_simp, ?_, ?_, ?_, ?_⟩
                · exact (hx (N + 1) (by omega)).trans ((Hh4.out (N + 1) (by omega) (by omega)).trans ((HbE.out.block (N + 1) (by omega)).trans Hx1.out))
                · exact (HrE.out.keep fun b' hb' => (hx b' hb'.1).trans (Hh4.out b' hb'.2.1 hb'.2.2.1)).imp fun b' hb' => ⟨hb'.1, by have := Hs4.out; have := hb'.2.2.2; simp; omega⟩
                · exact (below_drewN (Hb.out.trans (Hb4.out.mono (by have := Hb.out.size; omega))) nq).setCell (p := ⟨N, 0, none⟩) hwN _
                · have := Hs4.out; simp; omega
            · have hz' : ¬ (bd.size : Int) ≤ 16 := by omega
              clear hz Hsh
              go_wp2_with fail
              go_quiet (fail)
              go_wp2_with fail
              have hx : ∀ b', b' ≠ N → ((U4.drewN nq).setCell ⟨N, 0, none⟩ (.slice A2 1 c2)).heap[b']? = U4.heap[b']? := fun b' h => Below.heap_setCell (U4.drewN nq) ⟨N, 0, none⟩ _ b' h
              go_roundg (bs.length - (j + 1))
              case measure => have := Hg.out; omega
              case rel =>
                refine ⟨j + 1, m, b, A2, c2, by omega, rfl, by go_num, rfl, rfl, by omega, by omega, by omega, by omega, by go_simp, by go_simp, ?_, ?_, ?_, ?_⟩
                · exact (hx (N + 1) (by omega)).trans ((Hh4.out (N + 1) (by omega) (by omega)).trans ((HbE.out.block (N + 1) (by omega)).trans Hx1.out))
                · exact (HrE.out.keep fun b' hb' => (hx b' hb'.1).trans (Hh4.out b' hb'.2.1 hb'.2.2.1)).imp fun b' hb' => ⟨hb'.1, by have := Hs4.out; have := hb'.2.2.2; simp; omega⟩
                · exact (below_drewN (Hb.out.trans (Hb4.out.mono (by have := Hb.out.size; omega))) nq).setCell (p := ⟨N, 0, none⟩) hwN _
                · have := Hs4.out; simp; omega
        · have HK := Lib.hid hK; clear hK
          go_simp
          have hs0 := Hhs0.out
          clear Hhs0
          obtain ⟨pA, hpA⟩ : ∃ p, p = U0.heap.size := ⟨_, rfl⟩
          obtain ⟨U1, hU1⟩ : ∃ U, U = U0.alloc (.cells #[.slice none 0 0] 24) := ⟨_, rfl⟩
          have hq1 : Below pA U0 U1 := by rw [hU1, hpA]; exact (Below.refl _ _).alloc (Nat.le_refl _) _
          have hs1 : U1.heap.size = pA + 1 := by rw [hU1, hpA]; simp
          have hb1 : Below M wr U1 := hb0.trans (hq1.mono (by omega))
          have hr1 := hr0.keep (w' := U1) fun b hb => hq1.block b (by omega)
          have zA1 : U1.heap[pA]? = some (.cells #[.slice none 0 0] 24 (0, 0)) := by rw [hU1, hpA, heap_alloc_new]
          rw [← hU1, ← hpA]
          clear hU1
          have Hhs0 := Lib.hid hs0
          have Hhs1 := Lib.hid hs1
          have HhpA := Lib.hid hpA
          clear hs0 hs1 hpA
          refine HK.out _ _ (HC.out _ hb1) ?_
          clear HK K
          refine twoC (i := 7) (j := 12) (by kernel_rfl) rfl rfl rfl rfl rfl rfl (fun K hK => ?_) (fun K hK => ?_)
          · have HK := Lib.hid hK; clear hK
            go_simp
            have hs0 := Hhs0.out
            have hs1 := Hhs1.out
            have hpA := HhpA.out
            clear Hhs0 Hhs1 HhpA
            have d2 := opsDo_any U1 A' c' [⟨k, m, b⟩] ⟨3, k, bd⟩ (by simp) (hr1.to fun b hb => by omega)
            rw [Hd.out] at d2
            refine d2.mono ?_
            clear d2
            rintro e U2 hd
            obtain ⟨A2, c2, rfl, hr2, hq2⟩ := hd.rd' hr1 (fun b hb => by omega)
            clear hd
            have hs2 := hq2.size
            have hb2 : Below M wr U2 := hb1.trans (hq2.mono (by omega))
            have zA2 := (hq2.block pA (by omega)).trans zA1
            have Hhs0 := Lib.hid hs0
            have Hhs1 := Lib.hid hs1
            have Hhs2 := Lib.hid hs2
            have HhpA := Lib.hid hpA
            clear hs0 hs1 hs2 hpA
            refine HK.out _ _ (HC.out _ hb2) ?_
            clear HK K
            simp only [rsV]
            (refine takeC (i := 8) (.tuple #[.agg #[.slice A2 x2.length c2], .agg #[.int .i64 r2.e, .int .i64 r2.pg.id, .int .i64 r2.pg.ver, .string r2.pg.body]]) rfl (by kernel_rfl) (by kernel_rfl) (by kernel_rfl) rfl (fun _ _ _ h => h) (HC.out _ hb2) rfl (fun U hU => by go_simp) (fun K hK => ?_); have HK := Lib.hid hK; clear hK; go_simp; refine HK.out _ ?_; clear HK K)
            (refine takeC (i := 9) (.agg #[.slice A2 x2.length c2]) rfl (by kernel_rfl) (by kernel_rfl) (by kernel_rfl) rfl (fun _ _ _ h => h) (HC.out _ hb2) rfl (fun U hU => by go_simp) (fun K hK => ?_); have HK := Lib.hid hK; clear hK; go_simp; refine HK.out _ ?_; clear HK K)
            (refine takeC (i := 10) (.agg #[.int .i64 r2.e, .int .i64 r2.pg.id, .int .i64 r2.pg.ver, .string r2.pg.body]) rfl (by kernel_rfl) (by kernel_rfl) (by kernel_rfl) rfl (fun _ _ _ h => h) (HC.out _ hb2) rfl (fun U hU => by go_simp) (fun K hK => ?_); have HK := Lib.hid hK; clear hK; go_simp; refine HK.out _ ?_; clear HK K)
            refine oneC (i := 12) (by kernel_rfl) rfl rfl rfl (fun K hK => ?_)
            have HK := Lib.hid hK; clear hK
            go_simp
            have hs0 := Hhs0.out
            have hs1 := Hhs1.out
            have hs2 := Hhs2.out
            have hpA := HhpA.out
            clear Hhs0 Hhs1 Hhs2 HhpA
            obtain ⟨pB, hpB⟩ : ∃ p, p = U2.heap.size := ⟨_, rfl⟩
            obtain ⟨U3, hU3⟩ : ∃ U, U = U2.alloc (.cells #[.int .i64 0, .int .i64 0, .int .i64 0, .string ⟨#[]⟩] 33) := ⟨_, rfl⟩
            have hq3 : Below pB U2 U3 := by rw [hU3, hpB]; exact (Below.refl _ _).alloc (Nat.le_refl _) _
            have hs3 : U3.heap.size = pB + 1 := by rw [hU3, hpB]; simp
            have hb3 : Below M wr U3 := hb2.trans (hq3.mono (by omega))
            have hr3 := hr2.keep (w' := U3) fun b hb => hq3.block b (by omega)
            have zB3 : U3.heap[pB]? = some (.cells #[.int .i64 0, .int .i64 0, .int .i64 0, .string ⟨#[]⟩] 33 (0, 0)) := by rw [hU3, hpB, heap_alloc_new]
            have zA3 := (hq3.block pA (by omega)).trans zA2
            rw [← hU3, ← hpB]
            clear hU3
            have Hhs0 := Lib.hid hs0
            have Hhs1 := Lib.hid hs1
            have Hhs2 := Lib.hid hs2
            have Hhs3 := Lib.hid hs3
            have HhpA := Lib.hid hpA
            have HhpB := Lib.hid hpB
            clear hs0 hs1 hs2 hs3 hpA hpB
            refine HK.out _ _ (HC.out _ hb3) ?_
            clear HK K
            have hs0 := Hhs0.out
            have hs1 := Hhs1.out
            have hs2 := Hhs2.out
            have hs3 := Hhs3.out
            have hpA := HhpA.out
            have hpB := HhpB.out
            clear Hhs0 Hhs1 Hhs2 Hhs3 HhpA HhpB
            have hne : pA ≠ pB := by omega
            have hrE : Rd' Pg.cells 3 U3 (fun b => b ≠ N ∧ b ≠ pA ∧ b ≠ pB ∧ b < U3.heap.size) A2 x2 := hr3.imp fun b hb => by omega
            have hA1 : M ≤ pA ∧ pA < U3.heap.size := by omega
            have hB1 : M ≤ pB ∧ pB < U3.heap.size := by omega
            have HrE := Lib.hid hrE; have HbE := Lib.hid hb3; have HzA := Lib.hid zA3; have HzB := Lib.hid zB3
            clear hrE hb3 zA3 zB3 hr0 hr1 hr2 hr3 hb0 hb1 hb2 hq1 hq2 hq3 hs0 hs1 hs2 hs3 hpA hpB
            have hL : x2.length = 1 := by rcases Hsh.out with ⟨_, h, _⟩ | ⟨_, h, _⟩ <;> rw [h] <;> rfl
            have a0 := cells_of HzA.out 0
            have af := frozen_of HzA.out 0
            have b0 := cells_of HzB.out 0
            have b1 := cells_of HzB.out 1
            have b2 := cells_of HzB.out 2
            have b3 := cells_of HzB.out 3
            have bf0 := frozen_of HzB.out 0
            have bf1 := frozen_of HzB.out 1
            have bf2 := frozen_of HzB.out 2
            have bf3 := frozen_of HzB.out 3
            simp only [List.getElem?_toArray, List.getElem?_cons_zero, List.getElem?_cons_succ] at a0 b0 b1 b2 b3
            have e0 := (HbE.out.cell (p := ⟨N, 0, none⟩) (by show N < M; omega)).trans He0.out
            have f0 := (HbE.out.frozen (p := ⟨N, 0, none⟩) (by show N < M; omega)).trans Hf0.out
            have g0 := (HC.out U3 HbE.out).2
            have q1 : ¬ N = pA := by omega
            have q2 : ¬ N = pB := by omega
            have q3 : ¬ pA = pB := by omega
            have q4 : ¬ pB = pA := by omega
            have q5 : ¬ ba = pA := by omega
            have q6 : ¬ ba = pB := by omega
            have q7 : N < U3.heap.size := by omega
            have q8 : ba < U3.heap.size := by omega
            clear hne
            (refine oneC (i := 13) (by kernel_rfl) rfl rfl rfl (fun K hK => ?_); have HK := Lib.hid hK; clear hK; go_simp; refine HK.out _ _ ?_ ?_; clear HK K; · (refine ⟨?_, ?_⟩ <;> go_simp))
            (refine oneC (i := 14) (by kernel_rfl) rfl rfl rfl (fun K hK => ?_); have HK := Lib.hid hK; clear hK; go_simp; refine HK.out _ _ ?_ ?_; clear HK K; · (refine ⟨?_, ?_⟩ <;> go_simp))
            refine doneC (by kernel_rfl) ?_
            obtain ⟨U4, hU4⟩ : ∃ U4, U4 = (((((U3.setCell ⟨pA, 0, none⟩ (.slice A2 1 c2)).setCell ⟨pB, 0, none⟩ (.int .i64 r2.e)).setCell ⟨pB, 1, none⟩ (.int .i64 r2.pg.id)).setCell ⟨pB, 2, none⟩ (.int .i64 r2.pg.ver)).setCell ⟨pB, 3, none⟩ (.string r2.pg.body)) := ⟨_, rfl⟩
            rw [← hU4]
            have v0 : U4.cell? ⟨N, 0, none⟩ = some (.slice A' 1 c') ∧ U4.frozen? ⟨N, 0, none⟩ = false ∧ U4.cell? ⟨pA, 0, none⟩ = some (.slice A2 1 c2) ∧ U4.cell? ⟨pB, 0, none⟩ = some (.int .i64 r2.e) ∧ U4.cell? ⟨ba, off + j, none⟩ = some (.string bd) := by
              rw [hU4]
              refine ⟨?_, ?_, ?_, ?_, ?_⟩ <;> go_simp
            have hb4 : Below M wr U4 := by rw [hU4]; exact below_end HbE.out hA1.1 hB1.1
            have h4 : ∀ b, b ≠ pA → b ≠ pB → U4.heap[b]? = U3.heap[b]? := fun b h1 h2 => by
              rw [hU4, Below.heap_setCell _ _ _ _ h2, Below.heap_setCell _ _ _ _ h2, Below.heap_setCell _ _ _ _ h2, Below.heap_setCell _ _ _ _ h2, Below.heap_setCell _ _ _ _ h1]
            have hs4 : U4.heap.size = U3.heap.size := by rw [hU4]; simp
            have Hh4 := Lib.hid h4
            have Hb4 := Lib.hid hb4
            have Hs4 := Lib.hid hs4
            have q9 : N < U4.heap.size := by omega
            clear a0 af b0 b1 b2 b3 bf0 bf1 bf2 bf3 hL e0 f0 g0 hU4 h4 hb4 hs4
            obtain ⟨v0, v1, v2, v3, v4⟩ := v0
            rcases Hsh.out with ⟨hz, rfl, rfl⟩ | ⟨hz, rfl, rfl⟩
            · have hz' : (bd.size : Int) ≤ 16 := by omega
              clear hz Hsh
              go_wp2_with fail
              go_quiet (fail)
              go_wp2_with fail
              have hx : ∀ b', b' ≠ N → ((U4.drewN nq).setCell ⟨N, 0, none⟩ (.slice A2 1 c2)).heap[b']? = U4.heap[b']? := fun b' h => Below.heap_setCell (U4.drewN nq) ⟨N, 0, none⟩ _ b' h
              go_roundg (bs.length - (j + 1))
              case measure => have := Hg.out; omega
              case rel =>
                refine ⟨j + 1, m + 1, bd, A2, c2, by omega, rfl, by go_num, rfl, rfl, by omega, by omega, by omega, by omega, by go_simp, by go_simp, ?_, ?_, ?_, ?_⟩
                · exact (hx (N + 1) (by omega)).trans ((Hh4.out (N + 1) (by omega) (by omega)).trans ((HbE.out.block (N + 1) (by omega)).trans Hx1.out))
                · exact (HrE.out.keep fun b' hb' => (hx b' hb'.1).trans (Hh4.out b' hb'.2.1 hb'.2.2.1)).imp fun b' hb' => ⟨hb'.1, by have := Hs4.out; have := hb'.2.2.2; simp; omega⟩
                · exact (below_drewN (Hb.out.trans (Hb4.out.mono (by have := Hb.out.size; omega))) nq).setCell (p := ⟨N, 0, none⟩) hwN _
                · have := Hs4.out; simp; omega
            · have hz' : ¬ (bd.size : Int) ≤ 16 := by omega
              clear hz Hsh
              go_wp2_with fail
              go_quiet (fail)
              go_wp2_with fail
              have hx : ∀ b', b' ≠ N → ((U4.drewN nq).setCell ⟨N, 0, none⟩ (.slice A2 1 c2)).heap[b']? = U4.heap[b']? := fun b' h => Below.heap_setCell (U4.drewN nq) ⟨N, 0, none⟩ _ b' h
              go_roundg (bs.length - (j + 1))
              case measure => have := Hg.out; omega
              case rel =>
                refine ⟨j + 1, m, b, A2, c2, by omega, rfl, by go_num, rfl, rfl, by omega, by omega, by omega, by omega, by go_simp, by go_simp, ?_, ?_, ?_, ?_⟩
                · exact (hx (N + 1) (by omega)).trans ((Hh4.out (N + 1) (by omega) (by omega)).trans ((HbE.out.block (N + 1) (by omega)).trans Hx1.out))
                · exact (HrE.out.keep fun b' hb' => (hx b' hb'.1).trans (Hh4.out b' hb'.2.1 hb'.2.2.1)).imp fun b' hb' => ⟨hb'.1, by have := Hs4.out; have := hb'.2.2.2; simp; omega⟩
                · exact (below_drewN (Hb.out.trans (Hb4.out.mono (by have := Hb.out.size; omega))) nq).setCell (p := ⟨N, 0, none⟩) hwN _
                · have := Hs4.out; simp; omega
          · have HK := Lib.hid hK; clear hK
            go_simp
            have hs0 := Hhs0.out
            have hs1 := Hhs1.out
            have hpA := HhpA.out
            clear Hhs0 Hhs1 HhpA
            obtain ⟨pB, hpB⟩ : ∃ p, p = U1.heap.size := ⟨_, rfl⟩
            obtain ⟨U2, hU2⟩ : ∃ U, U = U1.alloc (.cells #[.int .i64 0, .int .i64 0, .int .i64 0, .string ⟨#[]⟩] 33) := ⟨_, rfl⟩
            have hq2 : Below pB U1 U2 := by rw [hU2, hpB]; exact (Below.refl _ _).alloc (Nat.le_refl _) _
            have hs2 : U2.heap.size = pB + 1 := by rw [hU2, hpB]; simp
            have hb2 : Below M wr U2 := hb1.trans (hq2.mono (by omega))
            have hr2 := hr1.keep (w' := U2) fun b hb => hq2.block b (by omega)
            have zB2 : U2.heap[pB]? = some (.cells #[.int .i64 0, .int .i64 0, .int .i64 0, .string ⟨#[]⟩] 33 (0, 0)) := by rw [hU2, hpB, heap_alloc_new]
            have zA2 := (hq2.block pA (by omega)).trans zA1
            rw [← hU2, ← hpB]
            clear hU2
            have Hhs0 := Lib.hid hs0
            have Hhs1 := Lib.hid hs1
            have Hhs2 := Lib.hid hs2
            have HhpA := Lib.hid hpA
            have HhpB := Lib.hid hpB
            clear hs0 hs1 hs2 hpA hpB
            refine HK.out _ _ (HC.out _ hb2) ?_
            clear HK K
            refine oneC (i := 7) (by kernel_rfl) rfl rfl rfl (fun K hK => ?_)
            have HK := Lib.hid hK; clear hK
            go_simp
            have hs0 := Hhs0.out
            have hs1 := Hhs1.out
            have hs2 := Hhs2.out
            have hpA := HhpA.out
            have hpB := HhpB.out
            clear Hhs0 Hhs1 Hhs2 HhpA HhpB
            have d2 := opsDo_any U2 A' c' [⟨k, m, b⟩] ⟨3, k, bd⟩ (by simp) (hr2.to fun b hb => by omega)
            rw [Hd.out] at d2
            refine d2.mono ?_
            clear d2
            rintro e U3 hd
            obtain ⟨A2, c2, rfl, hr3, hq3⟩ := hd.rd' hr2 (fun b hb => by omega)
            clear hd
            have hs3 := hq3.size
            have hb3 : Below M wr U3 := hb2.trans (hq3.mono (by omega))
            have zA3 := (hq3.block pA (by omega)).trans zA2
            have zB3 := (hq3.block pB (by omega)).trans zB2
            have Hhs0 := Lib.hid hs0
            have Hhs1 := Lib.hid hs1
            have Hhs2 := Lib.hid hs2
            have Hhs3 := Lib.hid hs3
            have HhpA := Lib.hid hpA
            have HhpB := Lib.hid hpB
            clear hs0 hs1 hs2 hs3 hpA hpB
            refine HK.out _ _ (HC.out _ hb3) ?_
            clear HK K
            simp only [rsV]
            (refine takeC (i := 8) (.tuple #[.agg #[.slice A2 x2.length c2], .agg #[.int .i64 r2.e, .int .i64 r2.pg.id, .int .i64 r2.pg.ver, .string r2.pg.body]]) rfl (by kernel_rfl) (by kernel_rfl) (by kernel_rfl) rfl (fun _ _ _ h => h) (HC.out _ hb3) rfl (fun U hU => by go_simp) (fun K hK => ?_); have HK := Lib.hid hK; clear hK; go_simp; refine HK.out _ ?_; clear HK K)
            (refine takeC (i := 9) (.agg #[.slice A2 x2.length c2]) rfl (by kernel_rfl) (by kernel_rfl) (by kernel_rfl) rfl (fun _ _ _ h => h) (HC.out _ hb3) rfl (fun U hU => by go_simp) (fun K hK => ?_); have HK := Lib.hid hK; clear hK; go_simp; refine HK.out _ ?_; clear HK K)
            (refine takeC (i := 10) (.agg #[.int .i64 r2.e, .int .i64 r2.pg.id, .int .i64 r2.pg.ver, .string r2.pg.body]) rfl (by kernel_rfl) (by kernel_rfl) (by kernel_rfl) rfl (fun _ _ _ h => h) (HC.out _ hb3) rfl (fun U hU => by go_simp) (fun K hK => ?_); have HK := Lib.hid hK; clear hK; go_simp; refine HK.out _ ?_; clear HK K)
            have hs0 := Hhs0.out
            have hs1 := Hhs1.out
            have hs2 := Hhs2.out
            have hs3 := Hhs3.out
            have hpA := HhpA.out
            have hpB := HhpB.out
            clear Hhs0 Hhs1 Hhs2 Hhs3 HhpA HhpB
            have hne : pA ≠ pB := by omega
            have hrE : Rd' Pg.cells 3 U3 (fun b => b ≠ N ∧ b ≠ pA ∧ b ≠ pB ∧ b < U3.heap.size) A2 x2 := hr3.imp fun b hb => by omega
            have hA1 : M ≤ pA ∧ pA < U3.heap.size := by omega
            have hB1 : M ≤ pB ∧ pB < U3.heap.size := by omega
            have HrE := Lib.hid hrE; have HbE := Lib.hid hb3; have HzA := Lib.hid zA3; have HzB := Lib.hid zB3
            clear hrE hb3 zA3 zB3 hr0 hr1 hr2 hr3 hb0 hb1 hb2 hq1 hq2 hq3 hs0 hs1 hs2 hs3 hpA hpB
            have hL : x2.length = 1 := by rcases Hsh.out with ⟨_, h, _⟩ | ⟨_, h, _⟩ <;> rw [h] <;> rfl
            have a0 := cells_of HzA.out 0
            have af := frozen_of HzA.out 0
            have b0 := cells_of HzB.out 0
            have b1 := cells_of HzB.out 1
            have b2 := cells_of HzB.out 2
            have b3 := cells_of HzB.out 3
            have bf0 := frozen_of HzB.out 0
            have bf1 := frozen_of HzB.out 1
            have bf2 := frozen_of HzB.out 2
            have bf3 := frozen_of HzB.out 3
            simp only [List.getElem?_toArray, List.getElem?_cons_zero, List.getElem?_cons_succ] at a0 b0 b1 b2 b3
            have e0 := (HbE.out.cell (p := ⟨N, 0, none⟩) (by show N < M; omega)).trans He0.out
            have f0 := (HbE.out.frozen (p := ⟨N, 0, none⟩) (by show N < M; omega)).trans Hf0.out
            have g0 := (HC.out U3 HbE.out).2
            have q1 : ¬ N = pA := by omega
            have q2 : ¬ N = pB := by omega
            have q3 : ¬ pA = pB := by omega
            have q4 : ¬ pB = pA := by omega
            have q5 : ¬ ba = pA := by omega
            have q6 : ¬ ba = pB := by omega
            have q7 : N < U3.heap.size := by omega
            have q8 : ba < U3.heap.size := by omega
            clear hne
            (refine oneC (i := 13) (by kernel_rfl) rfl rfl rfl (fun K hK => ?_); have HK := Lib.hid hK; clear hK; go_simp; refine HK.out _ _ ?_ ?_; clear HK K; · (refine ⟨?_, ?_⟩ <;> go_simp))
            (refine oneC (i := 14) (by kernel_rfl) rfl rfl rfl (fun K hK => ?_); have HK := Lib.hid hK; clear hK; go_simp; refine HK.out _ _ ?_ ?_; clear HK K; · (refine ⟨?_, ?_⟩ <;> go_simp))
            refine doneC (by kernel_rfl) ?_
            obtain ⟨U4, hU4⟩ : ∃ U4, U4 = (((((U3.setCell ⟨pA, 0, none⟩ (.slice A2 1 c2)).setCell ⟨pB, 0, none⟩ (.int .i64 r2.e)).setCell ⟨pB, 1, none⟩ (.int .i64 r2.pg.id)).setCell ⟨pB, 2, none⟩ (.int .i64 r2.pg.ver)).setCell ⟨pB, 3, none⟩ (.string r2.pg.body)) := ⟨_, rfl⟩
            rw [← hU4]
            have v0 : U4.cell? ⟨N, 0, none⟩ = some (.slice A' 1 c') ∧ U4.frozen? ⟨N, 0, none⟩ = false ∧ U4.cell? ⟨pA, 0, none⟩ = some (.slice A2 1 c2) ∧ U4.cell? ⟨pB, 0, none⟩ = some (.int .i64 r2.e) ∧ U4.cell? ⟨ba, off + j, none⟩ = some (.string bd) := by
              rw [hU4]
              refine ⟨?_, ?_, ?_, ?_, ?_⟩ <;> go_simp
            have hb4 : Below M wr U4 := by rw [hU4]; exact below_end HbE.out hA1.1 hB1.1
            have h4 : ∀ b, b ≠ pA → b ≠ pB → U4.heap[b]? = U3.heap[b]? := fun b h1 h2 => by
              rw [hU4, Below.heap_setCell _ _ _ _ h2, Below.heap_setCell _ _ _ _ h2, Below.heap_setCell _ _ _ _ h2, Below.heap_setCell _ _ _ _ h2, Below.heap_setCell _ _ _ _ h1]
            have hs4 : U4.heap.size = U3.heap.size := by rw [hU4]; simp
            have Hh4 := Lib.hid h4
            have Hb4 := Lib.hid hb4
            have Hs4 := Lib.hid hs4
            have q9 : N < U4.heap.size := by omega
            clear a0 af b0 b1 b2 b3 bf0 bf1 bf2 bf3 hL e0 f0 g0 hU4 h4 hb4 hs4
            obtain ⟨v0, v1, v2, v3, v4⟩ := v0
            rcases Hsh.out with ⟨hz, rfl, rfl⟩ | ⟨hz, rfl, rfl⟩
            · have hz' : (bd.size : Int) ≤ 16 := by omega
              clear hz Hsh
              go_wp2_with fail
              go_quiet (fail)
              go_wp2_with fail
              have hx : ∀ b', b' ≠ N → ((U4.drewN nq).setCell ⟨N, 0, none⟩ (.slice A2 1 c2)).heap[b']? = U4.heap[b']? := fun b' h => Below.heap_setCell (U4.drewN nq) ⟨N, 0, none⟩ _ b' h
              go_roundg (bs.length - (j + 1))
              case measure => have := Hg.out; omega
              case rel =>
                refine ⟨j + 1, m + 1, bd, A2, c2, by omega, rfl, by go_num, rfl, rfl, by omega, by omega, by omega, by omega, by go_simp, by go_simp, ?_, ?_, ?_, ?_⟩
                · exact (hx (N + 1) (by omega)).trans ((Hh4.out (N + 1) (by omega) (by omega)).trans ((HbE.out.block (N + 1) (by omega)).trans Hx1.out))
                · exact (HrE.out.keep fun b' hb' => (hx b' hb'.1).trans (Hh4.out b' hb'.2.1 hb'.2.2.1)).imp fun b' hb' => ⟨hb'.1, by have := Hs4.out; have := hb'.2.2.2; simp; omega⟩
                · exact (below_drewN (Hb.out.trans (Hb4.out.mono (by have := Hb.out.size; omega))) nq).setCell (p := ⟨N, 0, none⟩) hwN _
                · have := Hs4.out; simp; omega
            · have hz' : ¬ (bd.size : Int) ≤ 16 := by omega
              clear hz Hsh
              go_wp2_with fail
              go_quiet (fail)
              go_wp2_with fail
              have hx : ∀ b', b' ≠ N → ((U4.drewN nq).setCell ⟨N, 0, none⟩ (.slice A2 1 c2)).heap[b']? = U4.heap[b']? := fun b' h => Below.heap_setCell (U4.drewN nq) ⟨N, 0, none⟩ _ b' h
              go_roundg (bs.length - (j + 1))
              case measure => have := Hg.out; omega
              case rel =>
                refine ⟨j + 1, m, b, A2, c2, by omega, rfl, by go_num, rfl, rfl, by omega, by omega, by omega, by omega, by go_simp, by go_simp, ?_, ?_, ?_, ?_⟩
                · exact (hx (N + 1) (by omega)).trans ((Hh4.out (N + 1) (by omega) (by omega)).trans ((HbE.out.block (N + 1) (by omega)).trans Hx1.out))
                · exact (HrE.out.keep fun b' hb' => (hx b' hb'.1).trans (Hh4.out b' hb'.2.1 hb'.2.2.1)).imp fun b' hb' => ⟨hb'.1, by have := Hs4.out; have := hb'.2.2.2; simp; omega⟩
                · exact (below_drewN (Hb.out.trans (Hb4.out.mono (by have := Hb.out.size; omega))) nq).setCell (p := ⟨N, 0, none⟩) hwN _
                · have := Hs4.out; simp; omega
        · have HK := Lib.hid hK; clear hK
          go_simp
          have hs0 := Hhs0.out
          clear Hhs0
          obtain ⟨pB, hpB⟩ : ∃ p, p = U0.heap.size := ⟨_, rfl⟩
          obtain ⟨U1, hU1⟩ : ∃ U, U = U0.alloc (.cells #[.int .i64 0, .int .i64 0, .int .i64 0, .string ⟨#[]⟩] 33) := ⟨_, rfl⟩
          have hq1 : Below pB U0 U1 := by rw [hU1, hpB]; exact (Below.refl _ _).alloc (Nat.le_refl _) _
          have hs1 : U1.heap.size = pB + 1 := by rw [hU1, hpB]; simp
          have hb1 : Below M wr U1 := hb0.trans (hq1.mono (by omega))
          have hr1 := hr0.keep (w' := U1) fun b hb => hq1.block b (by omega)
          have zB1 : U1.heap[pB]? = some (.cells #[.int .i64 0, .int .i64 0, .int .i64 0, .string ⟨#[]⟩] 33 (0, 0)) := by rw [hU1, hpB, heap_alloc_new]
          rw [← hU1, ← hpB]
          clear hU1
          have Hhs0 := Lib.hid hs0
          have Hhs1 := Lib.hid hs1
          have HhpB := Lib.hid hpB
          clear hs0 hs1 hpB
          refine HK.out _ _ (HC.out _ hb1) ?_
          clear HK K
          refine twoC (i := 7) (j := 11) (by kernel_rfl) rfl rfl rfl rfl rfl rfl (fun K hK => ?_) (fun K hK => ?_)
          · have HK := Lib.hid hK; clear hK
            go_simp
            have hs0 := Hhs0.out
            have hs1 := Hhs1.out
            have hpB := HhpB.out
            clear Hhs0 Hhs1 HhpB
            have d2 := opsDo_any U1 A' c' [⟨k, m, b⟩] ⟨3, k, bd⟩ (by simp) (hr1.to fun b hb => by omega)
            rw [Hd.out] at d2
            refine d2.mono ?_
            clear d2
            rintro e U2 hd
            obtain ⟨A2, c2, rfl, hr2, hq2⟩ := hd.rd' hr1 (fun b hb => by omega)
            clear hd
            have hs2 := hq2.size
            have hb2 : Below M wr U2 := hb1.trans (hq2.mono (by omega))
            have zB2 := (hq2.block pB (by omega)).trans zB1
            have Hhs0 := Lib.hid hs0
            have Hhs1 := Lib.hid hs1
            have Hhs2 := Lib.hid hs2
            have HhpB := Lib.hid hpB
            clear hs0 hs1 hs2 hpB
            refine HK.out _ _ (HC.out _ hb2) ?_
            clear HK K
            simp only [rsV]
            (refine takeC (i := 8) (.tuple #[.agg #[.slice A2 x2.length c2], .agg #[.int .i64 r2.e, .int .i64 r2.pg.id, .int .i64 r2.pg.ver, .string r2.pg.body]]) rfl (by kernel_rfl) (by kernel_rfl) (by kernel_rfl) rfl (fun _ _ _ h => h) (HC.out _ hb2) rfl (fun U hU => by go_simp) (fun K hK => ?_); have HK := Lib.hid hK; clear hK; go_simp; refine HK.out _ ?_; clear HK K)
            (refine takeC (i := 9) (.agg #[.slice A2 x2.length c2]) rfl (by kernel_rfl) (by kernel_rfl) (by kernel_rfl) rfl (fun _ _ _ h => h) (HC.out _ hb2) rfl (fun U hU => by go_simp) (fun K hK => ?_); have HK := Lib.hid hK; clear hK; go_simp; refine HK.out _ ?_; clear HK K)
            (refine takeC (i := 10) (.agg #[.int .i64 r2.e, .int .i64 r2.pg.id, .int .i64 r2.pg.ver, .string r2.pg.body]) rfl (by kernel_rfl) (by kernel_rfl) (by kernel_rfl) rfl (fun _ _ _ h => h) (HC.out _ hb2) rfl (fun U hU => by go_simp) (fun K hK => ?_); have HK := Lib.hid hK; clear hK; go_simp; refine HK.out _ ?_; clear HK K)
            refine oneC (i := 11) (by kernel_rfl) rfl rfl rfl (fun K hK => ?_)
            have HK := Lib.hid hK; clear hK
            go_simp
            have hs0 := Hhs0.out
            have hs1 := Hhs1.out
            have hs2 := Hhs2.out
            have hpB := HhpB.out
            clear Hhs0 Hhs1 Hhs2 HhpB
            obtain ⟨pA, hpA⟩ : ∃ p, p = U2.heap.size := ⟨_, rfl⟩
            obtain ⟨U3, hU3⟩ : ∃ U, U = U2.alloc (.cells #[.slice none 0 0] 24) := ⟨_, rfl⟩
            have hq3 : Below pA U2 U3 := by rw [hU3, hpA]; exact (Below.refl _ _).alloc (Nat.le_refl _) _
            have hs3 : U3.heap.size = pA + 1 := by rw [hU3, hpA]; simp
            have hb3 : Below M wr U3 := hb2.trans (hq3.mono (by omega))
            have hr3 := hr2.keep (w' := U3) fun b hb => hq3.block b (by omega)
            have zA3 : U3.heap[pA]? = some (.cells #[.slice none 0 0] 24 (0, 0)) := by rw [hU3, hpA, heap_alloc_new]
            have zB3 := (hq3.block pB (by omega)).trans zB2
            rw [← hU3, ← hpA]
            clear hU3
            have Hhs0 := Lib.hid hs0
            have Hhs1 := Lib.hid hs1
            have Hhs2 := Lib.hid hs2
            have Hhs3 := Lib.hid hs3
            have HhpB := Lib.hid hpB
            have HhpA := Lib.hid hpA
            clear hs0 hs1 hs2 hs3 hpB hpA
            refine HK.out _ _ (HC.out _ hb3) ?_
            clear HK K
            have hs0 := Hhs0.out
            have hs1 := Hhs1.out
            have hs2 := Hhs2.out
            have hs3 := Hhs3.out
            have hpA := HhpA.out
            have hpB := HhpB.out
            clear Hhs0 Hhs1 Hhs2 Hhs3 HhpA HhpB
            have hne : pA ≠ pB := by omega
            have hrE : Rd' Pg.cells 3 U3 (fun b => b ≠ N ∧ b ≠ pA ∧ b ≠ pB ∧ b < U3.heap.size) A2 x2 := hr3.imp fun b hb => by omega
            have hA1 : M ≤ pA ∧ pA < U3.heap.size := by omega
            have hB1 : M ≤ pB ∧ pB < U3.heap.size := by omega
            have HrE := Lib.hid hrE; have HbE := Lib.hid hb3; have HzA := Lib.hid zA3; have HzB := Lib.hid zB3
            clear hrE hb3 zA3 zB3 hr0 hr1 hr2 hr3 hb0 hb1 hb2 hq1 hq2 hq3 hs0 hs1 hs2 hs3 hpA hpB
            have hL : x2.length = 1 := by rcases Hsh.out with ⟨_, h, _⟩ | ⟨_, h, _⟩ <;> rw [h] <;> rfl
            have a0 := cells_of HzA.out 0
            have af := frozen_of HzA.out 0
            have b0 := cells_of HzB.out 0
            have b1 := cells_of HzB.out 1
            have b2 := cells_of HzB.out 2
            have b3 := cells_of HzB.out 3
            have bf0 := frozen_of HzB.out 0
            have bf1 := frozen_of HzB.out 1
            have bf2 := frozen_of HzB.out 2
            have bf3 := frozen_of HzB.out 3
            simp only [List.getElem?_toArray, List.getElem?_cons_zero, List.getElem?_cons_succ] at a0 b0 b1 b2 b3
            have e0 := (HbE.out.cell (p := ⟨N, 0, none⟩) (by show N < M; omega)).trans He0.out
            have f0 := (HbE.out.frozen (p := ⟨N, 0, none⟩) (by show N < M; omega)).trans Hf0.out
            have g0 := (HC.out U3 HbE.out).2
            have q1 : ¬ N = pA := by omega
            have q2 : ¬ N = pB := by omega
            have q3 : ¬ pA = pB := by omega
            have q4 : ¬ pB = pA := by omega
            have q5 : ¬ ba = pA := by omega
            have q6 : ¬ ba = pB := by omega
            have q7 : N < U3.heap.size := by omega
            have q8 : ba < U3.heap.size := by omega
            clear hne
            (refine oneC (i := 13) (by kernel_rfl) rfl rfl rfl (fun K hK => ?_); have HK := Lib.hid hK; clear hK; go_simp; refine HK.out _ _ ?_ ?_; clear HK K; · (refine ⟨?_, ?_⟩ <;> go_simp))
            (refine oneC (i := 14) (by kernel_rfl) rfl rfl rfl (fun K hK => ?_); have HK := Lib.hid hK; clear hK; go_simp; refine HK.out _ _ ?_ ?_; clear HK K; · (refine ⟨?_, ?_⟩ <;> go_simp))
            refine doneC (by kernel_rfl) ?_
            obtain ⟨U4, hU4⟩ : ∃ U4, U4 = (((((U3.setCell ⟨pA, 0, none⟩ (.slice A2 1 c2)).setCell ⟨pB, 0, none⟩ (.int .i64 r2.e)).setCell ⟨pB, 1, none⟩ (.int .i64 r2.pg.id)).setCell ⟨pB, 2, none⟩ (.int .i64 r2.pg.ver)).setCell ⟨pB, 3, none⟩ (.string r2.pg.body)) := ⟨_, rfl⟩
            rw [← hU4]
            have v0 : U4.cell? ⟨N, 0, none⟩ = some (.slice A' 1 c') ∧ U4.frozen? ⟨N, 0, none⟩ = false ∧ U4.cell? ⟨pA, 0, none⟩ = some (.slice A2 1 c2) ∧ U4.cell? ⟨pB, 0, none⟩ = some (.int .i64 r2.e) ∧ U4.cell? ⟨ba, off + j, none⟩ = some (.string bd) := by
              rw [hU4]
              refine ⟨?_, ?_, ?_, ?_, ?_⟩ <;> go_simp
            have hb4 : Below M wr U4 := by rw [hU4]; exact below_end HbE.out hA1.1 hB1.1
            have h4 : ∀ b, b ≠ pA → b ≠ pB → U4.heap[b]? = U3.heap[b]? := fun b h1 h2 => by
              rw [hU4, Below.heap_setCell _ _ _ _ h2, Below.heap_setCell _ _ _ _ h2, Below.heap_setCell _ _ _ _ h2, Below.heap_setCell _ _ _ _ h2, Below.heap_setCell _ _ _ _ h1]
            have hs4 : U4.heap.size = U3.heap.size := by rw [hU4]; simp
            have Hh4 := Lib.hid h4
            have Hb4 := Lib.hid hb4
            have Hs4 := Lib.hid hs4
            have q9 : N < U4.heap.size := by omega
            clear a0 af b0 b1 b2 b3 bf0 bf1 bf2 bf3 hL e0 f0 g0 hU4 h4 hb4 hs4
            obtain ⟨v0, v1, v2, v3, v4⟩ := v0
            rcases Hsh.out with ⟨hz, rfl, rfl⟩ | ⟨hz, rfl, rfl⟩
            · have hz' : (bd.size : Int) ≤ 16 := by omega
              clear hz Hsh
              go_wp2_with fail
              go_quiet (fail)
              go_wp2_with fail
              have hx : ∀ b', b' ≠ N → ((U4.drewN nq).setCell ⟨N, 0, none⟩ (.slice A2 1 c2)).heap[b']? = U4.heap[b']? := fun b' h => Below.heap_setCell (U4.drewN nq) ⟨N, 0, none⟩ _ b' h
              go_roundg (bs.length - (j + 1))
              case measure => have := Hg.out; omega
              case rel =>
                refine ⟨j + 1, m + 1, bd, A2, c2, by omega, rfl, by go_num, rfl, rfl, by omega, by omega, by omega, by omega, by go_simp, by go_simp, ?_, ?_, ?_, ?_⟩
                · exact (hx (N + 1) (by omega)).trans ((Hh4.out (N + 1) (by omega) (by omega)).trans ((HbE.out.block (N + 1) (by omega)).trans Hx1.out))
                · exact (HrE.out.keep fun b' hb' => (hx b' hb'.1).trans (Hh4.out b' hb'.2.1 hb'.2.2.1)).imp fun b' hb' => ⟨hb'.1, by have := Hs4.out; have := hb'.2.2.2; simp; omega⟩
                · exact (below_drewN (Hb.out.trans (Hb4.out.mono (by have := Hb.out.size; omega))) nq).setCell (p := ⟨N, 0, none⟩) hwN _
                · have := Hs4.out; simp; omega
            · have hz' : ¬ (bd.size : Int) ≤ 16 := by omega
              clear hz Hsh
              go_wp2_with fail
              go_quiet (fail)
              go_wp2_with fail
              have hx : ∀ b', b' ≠ N → ((U4.drewN nq).setCell ⟨N, 0, none⟩ (.slice A2 1 c2)).heap[b']? = U4.heap[b']? := fun b' h => Below.heap_setCell (U4.drewN nq) ⟨N, 0, none⟩ _ b' h
              go_roundg (bs.length - (j + 1))
              case measure => have := Hg.out; omega
              case rel =>
                refine ⟨j + 1, m, b, A2, c2, by omega, rfl, by go_num, rfl, rfl, by omega, by omega, by omega, by omega, by go_simp, by go_simp, ?_, ?_, ?_, ?_⟩
                · exact (hx (N + 1) (by omega)).trans ((Hh4.out (N + 1) (by omega) (by omega)).trans ((HbE.out.block (N + 1) (by omega)).trans Hx1.out))
                · exact (HrE.out.keep fun b' hb' => (hx b' hb'.1).trans (Hh4.out b' hb'.2.1 hb'.2.2.1)).imp fun b' hb' => ⟨hb'.1, by have := Hs4.out; have := hb'.2.2.2; simp; omega⟩
                · exact (below_drewN (Hb.out.trans (Hb4.out.mono (by have := Hb.out.size; omega))) nq).setCell (p := ⟨N, 0, none⟩) hwN _
                · have := Hs4.out; simp; omega
          · have HK := Lib.hid hK; clear hK
            go_simp
            have hs0 := Hhs0.out
            have hs1 := Hhs1.out
            have hpB := HhpB.out
            clear Hhs0 Hhs1 HhpB
            obtain ⟨pA, hpA⟩ : ∃ p, p = U1.heap.size := ⟨_, rfl⟩
            obtain ⟨U2, hU2⟩ : ∃ U, U = U1.alloc (.cells #[.slice none 0 0] 24) := ⟨_, rfl⟩
            have hq2 : Below pA U1 U2 := by rw [hU2, hpA]; exact (Below.refl _ _).alloc (Nat.le_refl _) _
            have hs2 : U2.heap.size = pA + 1 := by rw [hU2, hpA]; simp
            have hb2 : Below M wr U2 := hb1.trans (hq2.mono (by omega))
            have hr2 := hr1.keep (w' := U2) fun b hb => hq2.block b (by omega)
            have zA2 : U2.heap[pA]? = some (.cells #[.slice none 0 0] 24 (0, 0)) := by rw [hU2, hpA, heap_alloc_new]
            have zB2 := (hq2.block pB (by omega)).trans zB1
            rw [← hU2, ← hpA]
            clear hU2
            have Hhs0 := Lib.hid hs0
            have Hhs1 := Lib.hid hs1
            have Hhs2 := Lib.hid hs2
            have HhpB := Lib.hid hpB
            have HhpA := Lib.hid hpA
            clear hs0 hs1 hs2 hpB hpA
            refine HK.out _ _ (HC.out _ hb2) ?_
            clear HK K
            refine oneC (i := 7) (by kernel_rfl) rfl rfl rfl (fun K hK => ?_)
            have HK := Lib.hid hK; clear hK
            go_simp
            have hs0 := Hhs0.out
            have hs1 := Hhs1.out
            have hs2 := Hhs2.out
            have hpB := HhpB.out
            have hpA := HhpA.out
            clear Hhs0 Hhs1 Hhs2 HhpB HhpA
            have d2 := opsDo_any U2 A' c' [⟨k, m, b⟩] ⟨3, k, bd⟩ (by simp) (hr2.to fun b hb => by omega)
            rw [Hd.out] at d2
            refine d2.mono ?_
            clear d2
            rintro e U3 hd
            obtain ⟨A2, c2, rfl, hr3, hq3⟩ := hd.rd' hr2 (fun b hb => by omega)
            clear hd
            have hs3 := hq3.size
            have hb3 : Below M wr U3 := hb2.trans (hq3.mono (by omega))
            have zB3 := (hq3.block pB (by omega)).trans zB2
            have zA3 := (hq3.block pA (by omega)).trans zA2
            have Hhs0 := Lib.hid hs0
            have Hhs1 := Lib.hid hs1
            have Hhs2 := Lib.hid hs2
            have Hhs3 := Lib.hid hs3
            have HhpB := Lib.hid hpB
            have HhpA := Lib.hid hpA
            clear hs0 hs1 hs2 hs3 hpB hpA
            refine HK.out _ _ (HC.out _ hb3) ?_
            clear HK K
            simp only [rsV]
            (refine takeC (i := 8) (.tuple #[.agg #[.slice A2 x2.length c2], .agg #[.int .i64 r2.e, .int .i64 r2.pg.id, .int .i64 r2.pg.ver, .string r2.pg.body]]) rfl (by kernel_rfl) (by kernel_rfl) (by kernel_rfl) rfl (fun _ _ _ h => h) (HC.out _ hb3) rfl (fun U hU => by go_simp) (fun K hK => ?_); have HK := Lib.hid hK; clear hK; go_simp; refine HK.out _ ?_; clear HK K)
            (refine takeC (i := 9) (.agg #[.slice A2 x2.length c2]) rfl (by kernel_rfl) (by kernel_rfl) (by kernel_rfl) rfl (fun _ _ _ h => h) (HC.out _ hb3) rfl (fun U hU => by go_simp) (fun K hK => ?_); have HK := Lib.hid hK; clear hK; go_simp; refine HK.out _ ?_; clear HK K)
            (refine takeC (i := 10) (.agg #[.int .i64 r2.e, .int .i64 r2.pg.id, .int .i64 r2.pg.ver, .string r2.pg.body]) rfl (by kernel_rfl) (by kernel_rfl) (by kernel_rfl) rfl (fun _ _ _ h => h) (HC.out _ hb3) rfl (fun U hU => by go_simp) (fun K hK => ?_); have HK := Lib.hid hK; clear hK; go_simp; refine HK.out _ ?_; clear HK K)
            have hs0 := Hhs0.out
            have hs1 := Hhs1.out
            have hs2 := Hhs2.out
            have hs3 := Hhs3.out
            have hpA := HhpA.out
            have hpB := HhpB.out
            clear Hhs0 Hhs1 Hhs2 Hhs3 HhpA HhpB
            have hne : pA ≠ pB := by omega
            have hrE : Rd' Pg.cells 3 U3 (fun b => b ≠ N ∧ b ≠ pA ∧ b ≠ pB ∧ b < U3.heap.size) A2 x2 := hr3.imp fun b hb => by omega
            have hA1 : M ≤ pA ∧ pA < U3.heap.size := by omega
            have hB1 : M ≤ pB ∧ pB < U3.heap.size := by omega
            have HrE := Lib.hid hrE; have HbE := Lib.hid hb3; have HzA := Lib.hid zA3; have HzB := Lib.hid zB3
            clear hrE hb3 zA3 zB3 hr0 hr1 hr2 hr3 hb0 hb1 hb2 hq1 hq2 hq3 hs0 hs1 hs2 hs3 hpA hpB
            have hL : x2.length = 1 := by rcases Hsh.out with ⟨_, h, _⟩ | ⟨_, h, _⟩ <;> rw [h] <;> rfl
            have a0 := cells_of HzA.out 0
            have af := frozen_of HzA.out 0
            have b0 := cells_of HzB.out 0
            have b1 := cells_of HzB.out 1
            have b2 := cells_of HzB.out 2
            have b3 := cells_of HzB.out 3
            have bf0 := frozen_of HzB.out 0
            have bf1 := frozen_of HzB.out 1
            have bf2 := frozen_of HzB.out 2
            have bf3 := frozen_of HzB.out 3
            simp only [List.getElem?_toArray, List.getElem?_cons_zero, List.getElem?_cons_succ] at a0 b0 b1 b2 b3
            have e0 := (HbE.out.cell (p := ⟨N, 0, none⟩) (by show N < M; omega)).trans He0.out
            have f0 := (HbE.out.frozen (p := ⟨N, 0, none⟩) (by show N < M; omega)).trans Hf0.out
            have g0 := (HC.out U3 HbE.out).2
            have q1 : ¬ N = pA := by omega
            have q2 : ¬ N = pB := by omega
            have q3 : ¬ pA = pB := by omega
            have q4 : ¬ pB = pA := by omega
            have q5 : ¬ ba = pA := by omega
            have q6 : ¬ ba = pB := by omega
            have q7 : N < U3.heap.size := by omega
            have q8 : ba < U3.heap.size := by omega
            clear hne
            (refine oneC (i := 13) (by kernel_rfl) rfl rfl rfl (fun K hK => ?_); have HK := Lib.hid hK; clear hK; go_simp; refine HK.out _ _ ?_ ?_; clear HK K; · (refine ⟨?_, ?_⟩ <;> go_simp))
            (refine oneC (i := 14) (by kernel_rfl) rfl rfl rfl (fun K hK => ?_); have HK := Lib.hid hK; clear hK; go_simp; refine HK.out _ _ ?_ ?_; clear HK K; · (refine ⟨?_, ?_⟩ <;> go_simp))
            refine doneC (by kernel_rfl) ?_
            obtain ⟨U4, hU4⟩ : ∃ U4, U4 = (((((U3.setCell ⟨pA, 0, none⟩ (.slice A2 1 c2)).setCell ⟨pB, 0, none⟩ (.int .i64 r2.e)).setCell ⟨pB, 1, none⟩ (.int .i64 r2.pg.id)).setCell ⟨pB, 2, none⟩ (.int .i64 r2.pg.ver)).setCell ⟨pB, 3, none⟩ (.string r2.pg.body)) := ⟨_, rfl⟩
            rw [← hU4]
            have v0 : U4.cell? ⟨N, 0, none⟩ = some (.slice A' 1 c') ∧ U4.frozen? ⟨N, 0, none⟩ = false ∧ U4.cell? ⟨pA, 0, none⟩ = some (.slice A2 1 c2) ∧ U4.cell? ⟨pB, 0, none⟩ = some (.int .i64 r2.e) ∧ U4.cell? ⟨ba, off + j, none⟩ = some (.string bd) := by
              rw [hU4]
              refine ⟨?_, ?_, ?_, ?_, ?_⟩ <;> go_simp
            have hb4 : Below M wr U4 := by rw [hU4]; exact below_end HbE.out hA1.1 hB1.1
            have h4 : ∀ b, b ≠ pA → b ≠ pB → U4.heap[b]? = U3.heap[b]? := fun b h1 h2 => by
              rw [hU4, Below.heap_setCell _ _ _ _ h2, Below.heap_setCell _ _ _ _ h2, Below.heap_setCell _ _ _ _ h2, Below.heap_setCell _ _ _ _ h2, Below.heap_setCell _ _ _ _ h1]
            have hs4 : U4.heap.size = U3.heap.size := by rw [hU4]; simp
            have Hh4 := Lib.hid h4
            have Hb4 := Lib.hid hb4
            have Hs4 := Lib.hid hs4
            have q9 : N < U4.heap.size := by omega
            clear a0 af b0 b1 b2 b3 bf0 bf1 bf2 bf3 hL e0 f0 g0 hU4 h4 hb4 hs4
            obtain ⟨v0, v1, v2, v3, v4⟩ := v0
            rcases Hsh.out with ⟨hz, rfl, rfl⟩ | ⟨hz, rfl, rfl⟩
            · have hz' : (bd.size : Int) ≤ 16 := by omega
              clear hz Hsh
              go_wp2_with fail
              go_quiet (fail)
              go_wp2_with fail
              have hx : ∀ b', b' ≠ N → ((U4.drewN nq).setCell ⟨N, 0, none⟩ (.slice A2 1 c2)).heap[b']? = U4.heap[b']? := fun b' h => Below.heap_setCell (U4.drewN nq) ⟨N, 0, none⟩ _ b' h
              go_roundg (bs.length - (j + 1))
              case measure => have := Hg.out; omega
              case rel =>
                refine ⟨j + 1, m + 1, bd, A2, c2, by omega, rfl, by go_num, rfl, rfl, by omega, by omega, by omega, by omega, by go_simp, by go_simp, ?_, ?_, ?_, ?_⟩
                · exact (hx (N + 1) (by omega)).trans ((Hh4.out (N + 1) (by omega) (by omega)).trans ((HbE.out.block (N + 1) (by omega)).trans Hx1.out))
                · exact (HrE.out.keep fun b' hb' => (hx b' hb'.1).trans (Hh4.out b' hb'.2.1 hb'.2.2.1)).imp fun b' hb' => ⟨hb'.1, by have := Hs4.out; have := hb'.2.2.2; simp; omega⟩
                · exact (below_drewN (Hb.out.trans (Hb4.out.mono (by have := Hb.out.size; omega))) nq).setCell (p := ⟨N, 0, none⟩) hwN _
                · have := Hs4.out; simp; omega
            · have hz' : ¬ (bd.size : Int) ≤ 16 := by omega
              clear hz Hsh
              go_wp2_with fail
              go_quiet (fail)
              go_wp2_with fail
              have hx : ∀ b', b' ≠ N → ((U4.drewN nq).setCell ⟨N, 0, none⟩ (.slice A2 1 c2)).heap[b']? = U4.heap[b']? := fun b' h => Below.heap_setCell (U4.drewN nq) ⟨N, 0, none⟩ _ b' h
              go_roundg (bs.length - (j + 1))
              case measure => have := Hg.out; omega
              case rel =>
                refine ⟨j + 1, m, b, A2, c2, by omega, rfl, by go_num, rfl, rfl, by omega, by omega, by omega, by omega, by go_simp, by go_simp, ?_, ?_, ?_, ?_⟩
                · exact (hx (N + 1) (by omega)).trans ((Hh4.out (N + 1) (by omega) (by omega)).trans ((HbE.out.block (N + 1) (by omega)).trans Hx1.out))
                · exact (HrE.out.keep fun b' hb' => (hx b' hb'.1).trans (Hh4.out b' hb'.2.1 hb'.2.2.1)).imp fun b' hb' => ⟨hb'.1, by have := Hs4.out; have := hb'.2.2.2; simp; omega⟩
                · exact (below_drewN (Hb.out.trans (Hb4.out.mono (by have := Hb.out.size; omega))) nq).setCell (p := ⟨N, 0, none⟩) hwN _
                · have := Hs4.out; simp; omega
    · -- the end
      have Hx1' := Hx1.out
      have hNs : N < wr.heap.size := by omega
      have hNs1 : N + 1 < wr.heap.size := by omega
      have d9 := opsDo_any wr A' c' [⟨k, m, b⟩] ⟨2, k, ⟨#[]⟩⟩ (by simp) (Hr'.out.to fun b hb => hb.2)
      rw [one_read hk1 hk2 hm1 (by omega) hbz] at d9
      have Hd9 := Lib.hid d9
      clear Hx1' d9
      by_cases hlt : j < bs.length
      · have hji : (j : Int) < (bs.length : Int) := by omega
        have hji6 : ¬ (j : Int) < 60 := by omega
        go_wp2_with fail
        refine Hd9.out.mono ?_
        rintro e V5 hV5
        obtain ⟨A5, c5, rfl, _, hq5⟩ := hV5
        have y1 := (hq5.block (N + 1) hNs1).trans Hx1.out
        have y0 := cells_of y1 0
        simp only [List.getElem?_toArray, List.getElem?_cons_zero] at y0
        have hN5 : N + 1 < V5.heap.size := by have := hq5.size; omega
        have hN6 : N < V5.heap.size := by omega
        have hbq := Hb.out.trans (hq5.mono Hb.out.size)
        have Hbq := Lib.hid hbq
        have heq : ∀ U, (binOp .eql 31 (.agg #[.int .i64 k, .int .i64 m, .string b]) (.agg #[.int .i64 k, .int .i64 m, .string b])).run Try.prog U = .ok (.bool true) U := fun U => by
          have := eql_pg U ⟨k, m, b⟩ ⟨k, m, b⟩
          simpa using this
        clear y1 hbq hq5 Hd9
        simp only [rsV]
        go_wp2_with fail
        refine (awake_any _).mono ?_
        rintro e V6 ⟨rfl, hb6⟩
        go_wp2_with fail
        go_ret
        refine ⟨rfl, ?_⟩
        refine bnext ?_ hb6
        exact (Hbq.out.alloc Hbq.out.size _).alloc (by simp; have := Hbq.out.size; omega) _
      · have hji : ¬ (j : Int) < (bs.length : Int) := by omega
        go_wp2_with fail
        refine Hd9.out.mono ?_
        rintro e V5 hV5
        obtain ⟨A5, c5, rfl, _, hq5⟩ := hV5
        have y1 := (hq5.block (N + 1) hNs1).trans Hx1.out
        have y0 := cells_of y1 0
        simp only [List.getElem?_toArray, List.getElem?_cons_zero] at y0
        have hN5 : N + 1 < V5.heap.size := by have := hq5.size; omega
        have hN6 : N < V5.heap.size := by omega
        have hbq := Hb.out.trans (hq5.mono Hb.out.size)
        have Hbq := Lib.hid hbq
        have heq : ∀ U, (binOp .eql 31 (.agg #[.int .i64 k, .int .i64 m, .string b]) (.agg #[.int .i64 k, .int .i64 m, .string b])).run Try.prog U = .ok (.bool true) U := fun U => by
          have := eql_pg U ⟨k, m, b⟩ ⟨k, m, b⟩
          simpa using this
        clear y1 hbq hq5 Hd9
        simp only [rsV]
        go_wp2_with fail
        refine (awake_any _).mono ?_
        rintro e V6 ⟨rfl, hb6⟩
        go_wp2_with fail
        go_ret
        refine ⟨rfl, ?_⟩
        refine bnext ?_ hb6
        exact (Hbq.out.alloc Hbq.out.size _).alloc (by simp; have := Hbq.out.size; omega) _
end Go.Proofs.Ytbnegkkjgkignaa
