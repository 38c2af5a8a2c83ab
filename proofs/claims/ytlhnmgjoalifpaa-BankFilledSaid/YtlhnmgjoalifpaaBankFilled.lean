/- The walk of the law BankFilled: it answers true, and nothing that was there has turned. -/
import Derived.Test.YtlhnmgjoalifpaaBank7
import Derived.Test.YtlhnmgjoalifpaaApp
import Derived.Test.YtlhnmgjoalifpaaFill
import Derived.Test.YtlhnmgjoalifpaaOpenBytes
namespace Go.Proofs.Ytlhnmgjoalifpaa
open Go.RowKit

theorem Try.infoClient : (Try.prog.info? 37).map (fun i => (i.zero, i.size, i.bytes)) = some (some (.agg #[.int .i64 0, .int .i64 0, .int .i64 0]), 3, 24) := by kernel_rfl

section
variable {w : World} {A : Option Addr} {cap : Nat} {l : List C} {free : Int} {m : Nat}
theorem safe_is {S : Bool} (h : l.length = m) (hS : safeB free l = S) (hc : m ≤ cap) (hm : cap ≤ 9223372036854775807) (hr : Rd C.cells 3 w w.heap.size A l) : Calls Try.prog 15 #[.int .i64 free, .slice A m cap] w fun e w' => e = .returned (.bool S) ∧ Below w.heap.size w w' := by
  subst h; subst hS
  exact safe_any w A cap l free hc hm hr
theorem right_is {R : Bool} (h : l.length = m) (hR : rightB l = R) (hc : m ≤ cap) (hm : cap ≤ 9223372036854775807) (hr : Rd C.cells 3 w w.heap.size A l) : Calls Try.prog 14 #[.slice A m cap] w fun e w' => e = .returned (.bool R) ∧ Below w.heap.size w w' := by
  subst h; subst hR
  exact right_any w A cap l hc hm hr
end
theorem three_one (a b c : Int) : ∀ u ∈ [Value.int .i64 a, .int .i64 b, .int .i64 c], u.oneCell' = true := by
  intro u hu; simp at hu; rcases hu with rfl | rfl | rfl <;> rfl

set_option maxHeartbeats 4000000 in
theorem lawFilled (w : World) (A : Option Addr) (cap : Nat) (cs : List Int)
    (hc : cs.length ≤ cap) (hm : cap ≤ 9223372036854775807) (hB : BytesAt w A cs) :
    Calls Try.prog 9 #[.slice A cs.length cap] w fun e w' => e = .returned (.bool true) ∧ Below w.heap.size w w' := by
  obtain ⟨i0, hi, hz0, hz1, hz2⟩ := info_parts Try.infoClient
  obtain ⟨hr, hQ⟩ := hB
  have HQ := Lib.hid hQ; clear hQ
  by_cases h8 : (8 : Int) < (cs.length : Int)
  · go_enter Try.func9, Try.ntmps9
    go_wp2_with fail
    refine (awake_any _).mono ?_
    rintro e w1 ⟨rfl, hb1⟩
    go_wp2_with fail
    go_ret
    exact ⟨rfl, hb1⟩
  go_enter Try.func9, Try.ntmps9
  go_wp2_with fail
  go_loopg [3, 4, 5, 15] cs.length (fun g va vn t i wr => ∃ (j : Nat) (X Y : Option Addr) (xc yc : Nat) (tp : Int), j ≤ cs.length ∧ g = cs.length - j ∧ i = .int .i64 j ∧ va = .slice X j xc ∧ vn = .slice Y j yc ∧ t = .int .i64 tp ∧ tp = topL (cs.take j) ∧
     wr.ownsRow w.heap.size 37 3 (.slice X j xc) j ((fill (fun c => c) 0 (cs.take j)).flatMap C.cells) ∧ wr.ownsRow w.heap.size 37 3 (.slice Y j yc) j ((fill (fun _ => 0) 0 (cs.take j)).flatMap C.cells) ∧
     ((Value.slice X j xc).ownBlock = none ∨ (Value.slice X j xc).ownBlock ≠ (Value.slice Y j yc).ownBlock) ∧ Below w.heap.size w wr)
  case atStart => exact ⟨0, none, none, 0, 0, 0, Nat.zero_le _, rfl, rfl, rfl, rfl, rfl, rfl, World.ownsRow_nil _ _ _ _, World.ownsRow_nil _ _ _ _, .inl rfl, Below.refl _ _⟩
  case round =>
    obtain ⟨j, X, Y, xc, yc, tp, hj, hg, rfl, rfl, rfl, rfl, htp, hoX, hoY, hap, hbw⟩ := hrel
    have Hg := Lib.hid hg; clear hg
    have htb := topL_bd (cs.take j)
    rw [← htp] at htb
    obtain ⟨ht0, ht1⟩ := htb
    have Htp := Lib.hid htp; clear htp
    have Hap := Lib.hid hap; clear hap
    by_cases hlt : j < cs.length
    · obtain ⟨c, b, off, hcc, rfl, hbb, hcell⟩ := rd_u hr hlt
      have g0 := hcell wr hbw
      have hbs : b < wr.heap.size := by have := hbw.size; omega
      obtain ⟨q0, q1⟩ := HQ.out j c hcc
      have q2 := Int.emod_nonneg c (show (101 : Int) ≠ 0 by decide)
      have q3 := Int.emod_lt_of_pos c (show (0 : Int) < 101 by decide)
      have Hc := Lib.hid hcc; clear hcc
      clear hcell
      go_wp2_with (first
        | (at_builtin; refine list_app rfl (.tmp 23) (.tmp 28) 22 rfl w.heap.size 37 i0 (.agg #[.int .i64 0, .int .i64 0, .int .i64 0]) 3 24 Try.underlying22 hi hz0 hz1 hz2 rfl (by decide) rfl (hoX.alloc _) (A := some ⟨wr.heap.size, 0, none⟩) (m := 1) (news := [.int .i64 j, .int .i64 (c % 101), .int .i64 (c % 101)]) rfl rfl (by simp) ?_ (three_one _ _ _) ?_ ?_ ?_ ?_))
      · exact new_src (cs := #[.int .i64 j, .int .i64 (c % 101), .int .i64 (c % 101)]) rfl
      · unfold maxLen; omega
      · omega
      · have := hbw.size; simp; omega
      intro v1 w5 ho5 hg5 hat5
      have hb4 : Below w.heap.size w (wr.alloc (.cells #[.int .i64 j, .int .i64 (c % 101), .int .i64 (c % 101)] 37)) := hbw.alloc hbw.size _
      have hb5 : Below w.heap.size w w5 := hb4.grown hg5 hb4.size (fun k hk => (hoX.lt k hk).1)
      have hoY4 := hoY.alloc (.cells #[.int .i64 j, .int .i64 (c % 101), .int .i64 (c % 101)] 37)
      have hoY5 := hoY4.kept hg5 (apart_symm Hap.out)
      have hap5 := app_apart hoY4 Hap.out (by simp) hat5
      obtain ⟨X', xc', rfl, _, _⟩ := own_slice ho5
      have ho5' : w5.ownsRow w.heap.size 37 3 (.slice X' (j + 1) xc') (j + 1) ((fill (fun c => c) 0 (cs.take (j + 1))).flatMap C.cells) := by
        rw [fill_snoc Hc.out, List.flatMap_append]; exact ho5
      have Hap5 := Lib.hid hap5; clear hap5
      clear ho5 hg5 hat5 hoX hoY hoY4
      go_wp2_with (at_builtin; refine list_app rfl (.tmp 30) (.tmp 34) 22 rfl w.heap.size 37 i0 (.agg #[.int .i64 0, .int .i64 0, .int .i64 0]) 3 24 Try.underlying22 hi hz0 hz1 hz2 rfl (by decide) rfl (hoY5.alloc _) (A := some ⟨w5.heap.size, 0, none⟩) (m := 1) (news := [.int .i64 j, .int .i64 (c % 101), .int .i64 0]) rfl rfl (by simp) ?_ (three_one _ _ _) ?_ ?_ ?_ ?_)
      · exact new_src (cs := #[.int .i64 j, .int .i64 (c % 101), .int .i64 0]) rfl
      · unfold maxLen; omega
      · omega
      · have := hb5.size; simp; omega
      intro v2 w7 ho7 hg7 hat7
      have hb6 : Below w.heap.size w (w5.alloc (.cells #[.int .i64 j, .int .i64 (c % 101), .int .i64 0] 37)) := hb5.alloc hb5.size _
      have hb7 : Below w.heap.size w w7 := hb6.grown hg7 hb6.size (fun k hk => (hoY5.lt k hk).1)
      have hoX6 := ho5'.alloc (.cells #[.int .i64 j, .int .i64 (c % 101), .int .i64 0] 37)
      have hoX7 := hoX6.kept hg7 Hap5.out
      have hap7 := apart_symm (app_apart hoX6 (apart_symm Hap5.out) (by simp) hat7)
      obtain ⟨Y', yc', rfl, _, _⟩ := own_slice ho7
      have ho7' : w7.ownsRow w.heap.size 37 3 (.slice Y' (j + 1) yc') (j + 1) ((fill (fun _ => 0) 0 (cs.take (j + 1))).flatMap C.cells) := by
        rw [fill_snoc Hc.out, List.flatMap_append]; exact ho7
      have Hap7 := Lib.hid hap7; clear hap7
      clear ho7 hg7 hat7 ho5' hoY5 hoX6
      by_cases hmax : tp < c % 101
      · have htp2 : c % 101 = topL (cs.take (j + 1)) := by rw [topL_snoc Hc.out, ← Htp.out]; omega
        have Htp2 := Lib.hid htp2; clear htp2
        go_wp2_with fail
        all_goals
          go_roundg (cs.length - (j + 1))
          case measure => have := Hg.out; omega
          case rel => exact ⟨j + 1, X', Y', xc', yc', c % 101, by omega, rfl, by go_num, rfl, rfl, rfl, Htp2.out, hoX7, ho7', Hap7.out, hb7⟩
      · have htp2 : tp = topL (cs.take (j + 1)) := by rw [topL_snoc Hc.out, ← Htp.out]; omega
        have Htp2 := Lib.hid htp2; clear htp2
        go_wp2_with fail
        all_goals
          go_roundg (cs.length - (j + 1))
          case measure => have := Hg.out; omega
          case rel => exact ⟨j + 1, X', Y', xc', yc', tp, by omega, rfl, by go_num, rfl, rfl, rfl, Htp2.out, hoX7, ho7', Hap7.out, hb7⟩
    · have hkl : j = cs.length := by omega
      subst hkl
      have htk : cs.take cs.length = cs := List.take_length
      have h8' : cs.length ≤ 8 := by omega
      rw [htk] at hoX hoY
      obtain ⟨_, _, he, hx1, hx2⟩ := own_slice hoX
      injection he with e1 e2 e3
      subst e1; subst e3
      obtain ⟨_, _, he, hy1, hy2⟩ := own_slice hoY
      injection he with e1 e2 e3
      subst e1; subst e3
      have htp2 : tp = topL cs := by rw [Htp.out, htk]
      have hla : (fill (fun c => c) 0 cs).length = cs.length := fill_len cs 0
      have hln : (fill (fun _ => 0) 0 cs).length = cs.length := fill_len cs 0
      have hrX : Rd C.cells 3 wr wr.heap.size X (fill (fun c => c) 0 cs) := Rd.of_own hoX (fun _ => rfl) (by decide)
      have hrY : Rd C.cells 3 wr wr.heap.size Y (fill (fun _ => 0) 0 cs) := Rd.of_own hoY (fun _ => rfl) (by decide)
      have s1 := fill_all_safe h8'
      have s2 := fill_none_safe h8'
      have s3 := fill_right (h := fun c => c) h8' (fun c hc => by omega)
      rw [← htp2] at s2
      have s4 : tp ≠ 0 → safeB (tp - 1) (fill (fun _ => 0) 0 cs) = false := fun h => by rw [htp2]; exact fill_none_not h8' (by rw [← htp2]; exact h)
      have Hla := Lib.hid hla; clear hla
      have Hln := Lib.hid hln; clear hln
      have S1 := Lib.hid s1; clear s1
      have S2 := Lib.hid s2; clear s2
      have S3 := Lib.hid s3; clear s3
      have S4 := Lib.hid s4; clear s4
      clear hoX hoY htk htp2 Htp Hap
      by_cases ht : tp = 0
      · subst ht
        go_wp2_with fail
        refine (safe_is Hla.out S1.out hx1 hx2 hrX).mono ?_
        rintro e w1 ⟨rfl, hb1⟩
        have hw1 := bnext hbw hb1
        go_wp2_with fail
        refine (safe_is Hln.out S2.out hy1 hy2 (hrY.up hb1)).mono ?_
        rintro e w2 ⟨rfl, hb2⟩
        have hw2 := bnext hw1 hb2
        go_wp2_with fail
        refine (right_is Hla.out S3.out hx1 hx2 ((hrX.up hb1).up hb2)).mono ?_
        rintro e w3 ⟨rfl, hb3⟩
        have hw3 := bnext hw2 hb3
        go_wp2_with fail
        refine (awake_any w3).mono ?_
        rintro e w4 ⟨rfl, hb4⟩
        go_wp2_with fail
        go_ret
        exact ⟨rfl, bnext hw3 hb4⟩
      · have htb : (tp == 0) = false := by simp [ht]
        have htd : (1 : Int) ≤ tp := by omega
        have s4 := S4.out ht
        have S5 := Lib.hid s4; clear s4
        have Ht := Lib.hid ht; clear ht
        go_wp2_with fail
        refine (safe_is Hla.out S1.out hx1 hx2 hrX).mono ?_
        rintro e w1 ⟨rfl, hb1⟩
        have hw1 := bnext hbw hb1
        go_wp2_with fail
        refine (safe_is Hln.out S2.out hy1 hy2 (hrY.up hb1)).mono ?_
        rintro e w2 ⟨rfl, hb2⟩
        have hw2 := bnext hw1 hb2
        go_wp2_with fail
        refine (safe_is Hln.out S5.out hy1 hy2 ((hrY.up hb1).up hb2)).mono ?_
        rintro e w3 ⟨rfl, hb3⟩
        have hw3 := bnext hw2 hb3
        go_wp2_with fail
        refine (right_is Hla.out S3.out hx1 hx2 (((hrX.up hb1).up hb2).up hb3)).mono ?_
        rintro e w4 ⟨rfl, hb4⟩
        have hw4 := bnext hw3 hb4
        go_wp2_with fail
        refine (awake_any w4).mono ?_
        rintro e w5 ⟨rfl, hb5⟩
        go_wp2_with fail
        go_ret
        exact ⟨rfl, bnext hw4 hb5⟩
end Go.Proofs.Ytlhnmgjoalifpaa
