/- The walk of the law BankTurned: it answers true, and nothing that was there has turned. -/
import Derived.Test.YtlhnmgjoalifpaaBank7
import Derived.Test.YtlhnmgjoalifpaaBankLaw
namespace Go.Proofs.Ytlhnmgjoalifpaa
open Go.RowKit

theorem Try.infoClient : (Try.prog.info? 37).map (fun i => (i.zero, i.size, i.bytes)) = some (some (.agg #[.int .i64 0, .int .i64 0, .int .i64 0]), 3, 24) := by kernel_rfl

/-- the place that turned takes its client j from -/
def turnAt (n k j : Nat) : Nat := (n - j + k) % n
theorem turn_range : ∀ n, n < 9 → ∀ k, k < n → ((List.range n).map (turnAt n k)).Perm (List.range n) := by decide
theorem fm_congr {α β : Type} {f g : α → Option β} : ∀ {l : List α}, (∀ x ∈ l, f x = g x) → l.filterMap f = l.filterMap g
  | [], _ => rfl
  | x :: l, h => by rw [List.filterMap_cons, List.filterMap_cons, h x (List.mem_cons_self ..), fm_congr (l := l) (fun y hy => h y (List.mem_cons_of_mem _ hy))]
theorem self_filter (l : List C) : l = (List.range l.length).filterMap (fun j => l[j]?) := by
  apply List.ext_getElem?
  intro i
  have h : (List.range l.length).filterMap (fun j => l[j]?) = (List.range l.length).map (fun j => (l[j]?).getD ⟨0, 0, 0⟩) := by
    rw [← List.filterMap_eq_map]
    apply fm_congr
    intro j hj
    rw [List.mem_range] at hj
    simp [hj]
  rw [h, List.getElem?_map]
  by_cases hi : i < l.length
  · simp [hi]
  · simp [hi]
theorem turned_perm {l t : List C} {k : Nat} (hn : l.length < 9) (hk : k < l.length) (ht : t.length = l.length) (h : ∀ j, j < l.length → t[j]? = l[turnAt l.length k j]?) : t.Perm l := by
  have h1 : t = ((List.range l.length).map (turnAt l.length k)).filterMap (fun j => l[j]?) := by
    rw [List.filterMap_map]
    rw [self_filter t, ht]
    apply fm_congr
    intro j hj
    exact h j (List.mem_range.1 hj)
  have h2 := (turn_range l.length hn k hk).filterMap (fun j => l[j]?)
  rw [← h1, ← self_filter] at h2
  exact h2

set_option maxHeartbeats 4000000 in
theorem lawTurned (w : World) (free : Int) (A : Option Addr) (cap : Nat) (l : List C) (b : Int)
    (hc : l.length ≤ cap) (hm : cap ≤ 9223372036854775807) (hr : Rd C.cells 3 w w.heap.size A l) (hb0 : 0 ≤ b) (hb1 : b ≤ 255) :
    Calls Try.prog 8 #[.int .i64 free, .slice A l.length cap, .int .u8 b] w fun e w' => e = .returned (.bool true) ∧ Below w.heap.size w w' := by
  obtain ⟨b, rfl⟩ := Int.eq_ofNat_of_zero_le hb0
  obtain ⟨i0, hi, hz0, hz1, hz2⟩ := info_parts Try.infoClient
  by_cases h0 : l.length = 0
  · have h0b : ((l.length : Int) == 0) = true := by simp [h0]
    have H0 := Lib.hid h0; clear h0
    go_enter Try.func8, Try.ntmps8
    go_wp2_with fail
    refine (awake_any _).mono ?_
    rintro e w1 ⟨rfl, hb1⟩
    go_wp2_with fail
    go_ret
    exact ⟨rfl, hb1⟩
  have h0b : ((l.length : Int) == 0) = false := by rw [beq_eq_false_iff_ne]; omega
  have hp : 0 < l.length := by omega
  have H0 := Lib.hid h0; clear h0
  by_cases h8 : (8 : Int) < (l.length : Int)
  · go_enter Try.func8, Try.ntmps8
    go_wp2_with fail
    refine (awake_any _).mono ?_
    rintro e w1 ⟨rfl, hb1⟩
    go_wp2_with fail
    go_ret
    exact ⟨rfl, hb1⟩
  have hkn : b % l.length < l.length := Nat.mod_lt _ hp
  obtain ⟨k, hk⟩ : ∃ k, k = b % l.length := ⟨_, rfl⟩
  have ek : (b : Int) % (l.length : Int) = (k : Int) := by rw [hk]; exact (Int.natCast_emod b l.length).symm
  rw [← hk] at hkn
  clear hk
  have Ek := Lib.hid ek; clear ek
  go_enter Try.func8, Try.ntmps8
  go_wp2_with fail
  rw [Ek.out]
  go_loopg [8, 26] l.length (fun g v i wr => ∃ (j : Nat) (t : List C) (O : Option Addr) (oc : Nat), j ≤ l.length ∧ g = l.length - j ∧ i = .int .i64 j ∧ v = .slice O j oc ∧ t.length = j ∧ (∀ m, m < j → t[m]? = l[turnAt l.length k m]?) ∧
     wr.ownsRow w.heap.size 37 3 (.slice O j oc) j (t.flatMap C.cells) ∧ Below w.heap.size w wr)
  case atStart => exact ⟨0, [], none, 0, Nat.zero_le _, rfl, rfl, rfl, rfl, fun _ h => absurd h (by omega), World.ownsRow_nil _ _ _ _, Below.refl _ _⟩
  case round =>
    obtain ⟨j, t, O, oc, hj, hg, rfl, rfl, ht, hto, hown, hbw⟩ := hrel
    have Hg := Lib.hid hg; clear hg
    have Hto := Lib.hid hto; clear hto
    have Ht := Lib.hid ht; clear ht
    by_cases hlt : j < l.length
    · have hx : turnAt l.length k j < l.length := Nat.mod_lt _ hp
      obtain ⟨c, b', off, hc', rfl, hbb, hcell⟩ := rd_c hr hx
      obtain ⟨g0, g1, g2⟩ := hcell wr hbw
      unfold turnAt at g0 g1 g2
      have hbs : b' < wr.heap.size := by have := hbw.size; omega
      have hx1 : 0 ≤ ((l.length : Int) - (j : Int) + (k : Int)) % (l.length : Int) := Int.emod_nonneg _ (by omega)
      have hx2 : ((l.length : Int) - (j : Int) + (k : Int)) % (l.length : Int) < (l.length : Int) := Int.emod_lt_of_pos _ (by omega)
      have Hc := Lib.hid hc'; clear hc'
      clear hcell
      go_wp2_with (at_builtin; refine wpList_append_own _ rfl (.tmp 29) (.tmp 42) 22 rfl w.heap.size 37 i0 (.agg #[.int .i64 0, .int .i64 0, .int .i64 0]) 3 24 Try.underlying22 hi hz0 hz1 hz2 rfl (by decide) _ _ _ rfl (hown.alloc _) ⟨wr.heap.size, 0, none⟩ 1 1 [.int .i64 c.who, .int .i64 c.claim, .int .i64 c.held] rfl rfl ?_ ?_ ?_ ?_ ?_ ?_)
      · exact cells_new (cs := #[.int .i64 c.who, .int .i64 c.claim, .int .i64 c.held]) rfl
      · intro u hu; simp at hu; rcases hu with rfl | rfl | rfl <;> rfl
      · unfold maxLen; omega
      · omega
      · have := hbw.size; simp; omega
      intro v' w5 hown5 hg5 _
      have hb2 : Below w.heap.size w (wr.alloc (.cells #[.int .i64 c.who, .int .i64 c.claim, .int .i64 c.held] 37)) := hbw.alloc hbw.size _
      have hb5 : Below w.heap.size w w5 := hb2.grown hg5 hb2.size (fun k hk => (hown.lt k hk).1)
      obtain ⟨A', c', rfl, _, _⟩ := own_slice hown5
      have hown6 : w5.ownsRow w.heap.size 37 3 (.slice A' (j + 1) c') (j + 1) ((t ++ [c]).flatMap C.cells) := by
        rw [List.flatMap_append]; exact hown5
      clear hown hown5 hg5
      go_wp2_with fail
      go_roundg (l.length - (j + 1))
      case measure => have := Hg.out; omega
      case rel => exact ⟨j + 1, t ++ [c], A', c', by omega, rfl, by go_num, rfl, by simp [Ht.out], fun m hm => by
        rcases Nat.lt_or_ge m j with h | h
        · rw [List.getElem?_append_left (by rw [Ht.out]; exact h)]; exact Hto.out m h
        · obtain rfl : m = j := by omega
          rw [List.getElem?_append_right (by rw [Ht.out]; omega), Ht.out, Nat.sub_self, Hc.out]; rfl, hown6, hb5⟩
    · have hkl : j = l.length := by omega
      subst hkl
      have hperm := turned_perm (by omega) hkn Ht.out Hto.out
      obtain ⟨A', c', he, hc1, hc2⟩ := own_slice hown
      injection he with h1 h2 h3
      subst h1
      subst h3
      have hrt : Rd C.cells 3 wr wr.heap.size O t := Rd.of_own (n := l.length) (c := oc) hown (fun _ => rfl) (by decide)
      obtain ⟨S, hS⟩ : ∃ S, safeB free l = S := ⟨_, rfl⟩
      obtain ⟨R, hR⟩ : ∃ R, rightB l = R := ⟨_, rfl⟩
      have hS2 : safeB free t = S := by rw [safeB_perm hperm]; exact hS
      have hR2 : rightB t = R := by rw [rightB_perm hperm]; exact hR
      have cS1 := safe_any wr A cap l free hc hm (hr.up hbw)
      rw [hS] at cS1
      have HS1 := Lib.hid cS1; clear cS1
      have HS2 := Lib.hid hS2; clear hS2
      have HR1 := Lib.hid hR; clear hR
      have HR2 := Lib.hid hR2; clear hR2
      clear hS hperm hown
      go_wp2_with fail
      refine HS1.out.mono ?_
      rintro e w1 ⟨rfl, hb1⟩
      have hw1 := bnext hbw hb1
      go_wp2_with fail
      have cS2 := safe_any w1 O oc t free (by rw [Ht.out]; exact hc1) hc2 (hrt.up hb1)
      rw [HS2.out, Ht.out] at cS2
      refine cS2.mono ?_
      rintro e w2 ⟨rfl, hb2⟩
      have hw2 := bnext hw1 hb2
      clear cS2
      go_wp2_with fail
      refine (right_any w2 A cap l hc hm (hr.up hw2)).mono ?_
      rw [HR1.out]
      rintro e w3 ⟨rfl, hb3⟩
      have hw3 := bnext hw2 hb3
      go_wp2_with fail
      have cR2 := right_any w3 O oc t (by rw [Ht.out]; exact hc1) hc2 (((hrt.up hb1).up hb2).up hb3)
      rw [HR2.out, Ht.out] at cR2
      refine cR2.mono ?_
      rintro e w4 ⟨rfl, hb4⟩
      have hw4 := bnext hw3 hb4
      clear cR2
      go_wp2_with fail
      refine (awake_any w4).mono ?_
      rintro e w5 ⟨rfl, hb5⟩
      go_wp2_with fail
      go_ret
      exact ⟨rfl, bnext hw4 hb5⟩
end Go.Proofs.Ytlhnmgjoalifpaa
