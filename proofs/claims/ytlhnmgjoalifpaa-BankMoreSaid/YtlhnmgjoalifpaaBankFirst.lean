/- The walk of the law BankFirst: it answers true, and nothing that was there has turned. -/
import Derived.Test.YtlhnmgjoalifpaaBank4
import Derived.Test.YtlhnmgjoalifpaaBank5
import Derived.Test.YtlhnmgjoalifpaaBank7
import Derived.Test.YtlhnmgjoalifpaaApp
import Derived.Test.YtlhnmgjoalifpaaSet
namespace Go.Proofs.Ytlhnmgjoalifpaa
open Go.RowKit

theorem Try.infoClient : (Try.prog.info? 37).map (fun i => (i.zero, i.size, i.bytes)) = some (some (.agg #[.int .i64 0, .int .i64 0, .int .i64 0]), 3, 24) := by kernel_rfl
theorem c_one : ∀ x : C, ∀ u ∈ C.cells x, u.oneCell' = true := by
  intro x u hu; simp [C.cells] at hu; rcases hu with rfl | rfl | rfl <;> rfl
theorem flat_at {α : Type} {f : α → List Value} {sz : Nat} (hf : ∀ x, (f x).length = sz) : ∀ {l : List α} {i j : Nat} {x : α} {u : Value}, l[i]? = some x → (f x)[j]? = some u → (l.flatMap f)[i * sz + j]? = some u
  | y :: l, 0, j, x, u, hx, hu => by
    simp at hx; subst hx
    have hj := (List.getElem?_eq_some_iff.1 hu).1
    rw [List.flatMap_cons, List.getElem?_append_left (by omega)]
    simpa using hu
  | y :: l, i + 1, j, x, u, hx, hu => by
    simp at hx
    rw [List.flatMap_cons, List.getElem?_append_right (by rw [hf, Nat.succ_mul]; omega), hf, show (i + 1) * sz + j - sz = i * sz + j from by rw [Nat.succ_mul]; omega]
    exact flat_at hf hx hu
theorem flat_held : ∀ {l : List C} {i : Nat} {c : C} (h : Int), l[i]? = some c → (l.flatMap C.cells).set (i * 3 + 2) (.int .i64 h) = (l.set i { c with held := h }).flatMap C.cells
  | d :: l, 0, c, h, e => by simp at e; subst e; simp [C.cells]
  | d :: l, i + 1, c, h, e => by
    simp at e
    have ih := flat_held (l := l) (i := i) h e
    simp only [List.flatMap_cons, List.set_cons_succ]
    rw [← ih, List.set_append_right _ _ (by simp [C.cells]; omega)]
    congr 2
    simp [C.cells]
    omega
section
variable {w : World} {A : Option Addr} {cap : Nat} {l : List C} {free : Int} {m : Nat}
theorem safe_is {S : Bool} (h : l.length = m) (hS : safeB free l = S) (hc : m ≤ cap) (hm : cap ≤ 9223372036854775807) (hr : Rd C.cells 3 w w.heap.size A l) : Calls Try.prog 15 #[.int .i64 free, .slice A m cap] w fun e w' => e = .returned (.bool S) ∧ Below w.heap.size w w' := by
  subst h; subst hS
  exact safe_any w A cap l free hc hm hr
theorem ref_is (hm : l.length ≤ 1000000) (hr : Rd C.cells 3 w w.heap.size A l) : Calls Try.prog 11 #[.slice A l.length cap] w fun e w' =>
    ∃ X xc, e = .returned (.slice X l.length xc) ∧ Rd C.cells 3 w' w'.heap.size X l ∧ Below w.heap.size w w' :=
  (ref_any w A cap l hm hr).mono fun e w' ⟨X, xc, he, _, _, hown, hb⟩ => ⟨X, xc, he, Rd.of_own hown (fun _ => rfl) (by decide), hb⟩
theorem refRight_is {R : Bool} (hR : rightB l = R) (hm : l.length ≤ 1000000) (hr : Rd C.cells 3 w w.heap.size A l) : Calls Try.prog 13 #[.slice A l.length cap] w fun e w' => e = .returned (.bool R) ∧ Below w.heap.size w w' := by
  subst hR
  exact refRight_any w A cap l (by omega) hr
theorem order_is {o : List Nat} {ok : Bool} (ho : ordB free l = (o, ok)) (hc : l.length ≤ cap) (hm : cap ≤ 9223372036854775807) (hr : Rd C.cells 3 w w.heap.size A l) : Calls Try.prog 12 #[.int .i64 free, .slice A l.length cap] w fun e w' =>
    ∃ O oc, e = .returned (.tuple #[.slice O o.length oc, .bool ok]) ∧ w'.ownsRow w.heap.size 3 1 (.slice O o.length oc) o.length (o.flatMap natCells) ∧ Below w.heap.size w w' := by
  have := order_any w A cap l free hc hm hr
  rw [ho] at this
  exact this
end

set_option maxHeartbeats 4000000 in
theorem lawFirst (w : World) (free : Int) (A : Option Addr) (cap : Nat) (l : List C)
    (hc : l.length ≤ cap) (hm : cap ≤ 9223372036854775807) (hr : Rd C.cells 3 w w.heap.size A l) :
    Calls Try.prog 6 #[.int .i64 free, .slice A l.length cap] w fun e w' => e = .returned (.bool true) ∧ Below w.heap.size w w' := by
  obtain ⟨i0, hi, hz0, hz1, hz2⟩ := info_parts Try.infoClient
  by_cases hg : 0 < l.length ∧ l.length ≤ 8 ∧ 0 ≤ free ∧ free ≤ 1000
  · obtain ⟨hp, h8, f0, f1⟩ := hg
    have h0b : ((l.length : Int) == 0) = false := by rw [beq_eq_false_iff_ne]; omega
    have h8i : (l.length : Int) ≤ 8 := by omega
    cases hrt : rightB l with
    | false =>
      have Hrt := Lib.hid hrt; clear hrt
      go_enter Try.func6, Try.ntmps6
      go_wp2_with fail
      refine (ref_is (by omega) hr).mono ?_
      rintro e w1 ⟨X, xc, rfl, hrX, hb1⟩
      go_wp2_with fail
      refine (refRight_is Hrt.out (by omega) hrX).mono ?_
      rintro e w2 ⟨rfl, hb2⟩
      have hw2 := bnext hb1 hb2
      go_wp2_with fail
      refine (awake_any w2).mono ?_
      rintro e w3 ⟨rfl, hb3⟩
      go_wp2_with fail
      go_ret
      exact ⟨rfl, bnext hw2 hb3⟩
    | true =>
      have hob := ordB_right hrt f0 f1
      obtain ⟨o, ok, hoo⟩ : ∃ o ok, ordR free l = (o, ok) := ⟨_, _, rfl⟩
      have hlen := ordR_len (free := free) (l := l)
      rw [hoo] at hob hlen
      have Hrt := Lib.hid hrt; clear hrt
      have Hob := Lib.hid hob; clear hob
      have hle : o.length ≤ l.length := hlen.1
      cases ok with
      | false =>
        have hlt : (o.length : Int) < (l.length : Int) := by
          have : ¬ o.length = l.length := fun h => by have := hlen.2.2 h; cases this
          omega
        clear hlen hoo
        go_enter Try.func6, Try.ntmps6
        go_wp2_with fail
        refine (ref_is (by omega) hr).mono ?_
        rintro e w1 ⟨X, xc, rfl, hrX, hb1⟩
        go_wp2_with fail
        refine (refRight_is Hrt.out (by omega) hrX).mono ?_
        rintro e w2 ⟨rfl, hb2⟩
        have hw2 := bnext hb1 hb2
        go_wp2_with fail
        refine (order_is Hob.out hc hm (hr.up hw2)).mono ?_
        rintro e w3 ⟨O, oc, rfl, hown, hb3⟩
        have hw3 := bnext hw2 hb3
        clear hown
        go_wp2_with fail
        refine (awake_any w3).mono ?_
        rintro e w4 ⟨rfl, hb4⟩
        go_wp2_with fail
        go_ret
        exact ⟨rfl, bnext hw3 hb4⟩
      | true =>
        have hol : o.length = l.length := hlen.2.1 rfl
        obtain ⟨i, c, r, ho1, hci, hfit⟩ := ordR_first hp (by rw [hoo])
        rw [hoo] at ho1
        simp only at ho1
        have hs : safeB free l = true := by rw [safeB, Hob.out]
        have hil : i < l.length := (List.getElem?_eq_some_iff.1 hci).1
        have hokc := okC_iff.1 (okC_of Hrt.out hci)
        obtain ⟨z1, z2, z3, z4, z5, z6⟩ := hokc
        have hneb : ((o.length : Int) != (l.length : Int)) = false := by rw [hol]; simp
        have hop : 0 < o.length := by omega
        have hlo : l.length ≤ o.length := by omega
        have Hs := Lib.hid hs; clear hs
        have Ho1 := Lib.hid ho1; clear ho1
        have Hci := Lib.hid hci; clear hci
        have Hol := Lib.hid hol; clear hol
        clear hlen hoo
        obtain ⟨c', b, off, hc', rfl, hbb, hcell⟩ := rd_c hr hil
        obtain rfl : c' = c := by rw [Hci.out] at hc'; injection hc' with h; exact h.symm
        have Hc' := Lib.hid hc'; clear hc'
        go_enter Try.func6, Try.ntmps6
        go_wp2_with fail
        refine (ref_is (by omega) hr).mono ?_
        rintro e w1 ⟨X, xc, rfl, hrX, hb1⟩
        go_wp2_with fail
        refine (refRight_is Hrt.out (by omega) hrX).mono ?_
        rintro e w2 ⟨rfl, hb2⟩
        have hw2 := bnext hb1 hb2
        go_wp2_with fail
        refine (order_is Hob.out hc hm (hr.up hw2)).mono ?_
        rintro e w3 ⟨O, oc, rfl, hown, hb3⟩
        have hw3 := bnext hw2 hb3
        obtain ⟨g, c2, he, hgb, _, _⟩ := own_addr hown hop
        injection he with e1 e2 e3
        subst e1; subst e3
        have ko : w3.cell? ⟨g, 0, none⟩ = some (.int .i64 i) := by
          rw [hown.cellAt 0 (by omega), Ho1.out]; rfl
        have hgl : g < w3.heap.size := (hown.lt g rfl).2
        obtain ⟨g0, g1, g2⟩ := hcell w3 hw3
        have hbl : b < w3.heap.size := by have := hw3.size; omega
        clear hown hrX hb1 hb2 hb3
        have hi0 : (0 : Int) ≤ (i : Int) := by omega
        have hi1 : (i : Int) < (l.length : Int) := by omega
        by_cases heq : c'.held = c'.claim
        · have hqb : (c'.held == c'.claim) = true := by simp [heq]
          have Heq := Lib.hid heq; clear heq
          go_wp2_with fail
          refine (awake_any _).mono ?_
          rintro e w4 ⟨rfl, hb4⟩
          go_wp2_with fail
          go_ret
          exact ⟨rfl, bnext (hw3.alloc hw3.size _) hb4⟩
        · have hqb : (c'.held == c'.claim) = false := by simp [heq]
          have hlt : c'.held < c'.claim := by omega
          have hmore := first_more Hrt.out f0 f1 Hs.out Hci.out hfit hlt
          have Hmore := Lib.hid hmore; clear hmore
          clear heq
          have hf1 : 1 ≤ free := by omega
          go_wp2_with (at_builtin; refine list_app rfl (.tmp 79) (.tmp 80) 22 rfl w.heap.size 37 i0 (.agg #[.int .i64 0, .int .i64 0, .int .i64 0]) 3 24 Try.underlying22 hi hz0 hz1 hz2 rfl (by decide) rfl (own_made (g := w3.heap.size + 1) ?_ ?_) (A := some ⟨b, off, none⟩) (m := l.length) (news := l.flatMap C.cells) rfl ?_ (by simp) ?_ (flat_one c_one l) ?_ ?_ ?_ ?_)
          · have := hw3.size; simp; omega
          · simp
          · exact flat_len (f := C.cells) (fun _ => rfl) l
          · exact (hr.below ((hw3.alloc hw3.size _).alloc (by have := hw3.size; simp; omega) _)).srcs (fun _ => rfl)
          · unfold maxLen; omega
          · omega
          · have := hw3.size; simp; omega
          intro v' w5 ho5 hg5 _
          have hb4 : Below w.heap.size w ((w3.alloc (.cells #[.int .i64 c'.who, .int .i64 c'.claim, .int .i64 c'.held] 37)).alloc (.cells #[] 37)) := (hw3.alloc hw3.size _).alloc (by have := hw3.size; simp; omega) _
          have hb5 : Below w.heap.size w w5 := hb4.grown hg5 hb4.size (fun k hk => by simp [Value.ownBlock] at hk; have := hw3.size; omega)
          have ko5 : w5.cell? ⟨g, 0, none⟩ = some (.int .i64 i) := hg5.cell ((World.cell?_alloc_lt _ _ _ (by simp; omega)).trans ((World.cell?_alloc_lt _ _ _ hgl).trans ko)) (by simp [Value.ownBlock]; omega)
          obtain ⟨g5, c5, rfl, hg5b, hlc5, hcm5⟩ := own_addr ho5 hp
          have hcell5 : (l.flatMap C.cells)[i * 3 + 2]? = some (.int .i64 c'.held) := flat_at (f := C.cells) (fun _ => rfl) Hci.out rfl
          have k1 : w5.cell? ⟨g5, i * 3 + 2, none⟩ = some (.int .i64 c'.held) := by rw [ho5.cellAt _ (by omega), hcell5]
          have k2 : w5.frozen? ⟨g5, i * 3 + 2, none⟩ = false := ho5.frozenAt _
          have hb6 : Below w.heap.size w (w5.setCell ⟨g5, i * 3 + 2, none⟩ (.int .i64 (c'.held + 1))) := hb5.setCell hg5b _
          have ho6 := (ho5.stored (i * 3 + 2) (.int .i64 (c'.held + 1))).1
          rw [flat_held _ Hci.out] at ho6
          have hls : (l.set i { c' with held := c'.held + 1 }).length = l.length := by simp
          have hr6 : Rd C.cells 3 (w5.setCell ⟨g5, i * 3 + 2, none⟩ (.int .i64 (c'.held + 1))) (w5.setCell ⟨g5, i * 3 + 2, none⟩ (.int .i64 (c'.held + 1))).heap.size (some ⟨g5, 0, none⟩) (l.set i { c' with held := c'.held + 1 }) :=
            Rd.of_own (n := l.length) (c := c5) ho6 (fun _ => rfl) (by decide)
          have Hls := Lib.hid hls; clear hls
          clear ho5 hg5 ho6 hcell5
          go_wp2_with fail
          refine (safe_is Hls.out Hmore.out hlc5 hcm5 hr6).mono ?_
          rintro e w7 ⟨rfl, hb7⟩
          have hw7 := bnext hb6 hb7
          clear hr6 hb7
          go_wp2_with fail
          refine (awake_any w7).mono ?_
          rintro e w8 ⟨rfl, hb8⟩
          go_wp2_with fail
          go_ret
          exact ⟨rfl, bnext hw7 hb8⟩
  · have hcase : l.length = 0 ∨ (0 < l.length ∧ 8 < l.length) ∨ (0 < l.length ∧ l.length ≤ 8 ∧ free < 0) ∨ (0 < l.length ∧ l.length ≤ 8 ∧ 0 ≤ free ∧ 1000 < free) := by omega
    clear hg
    rcases hcase with h | ⟨h1, h2⟩ | ⟨h1, h2, h3⟩ | ⟨h1, h2, h3, h4⟩
    · have h0b : ((l.length : Int) == 0) = true := by simp [h]
      have H := Lib.hid h; clear h
      go_enter Try.func6, Try.ntmps6
      go_wp2_with fail
      refine (awake_any _).mono ?_
      rintro e w1 ⟨rfl, hb1⟩
      go_wp2_with fail
      go_ret
      exact ⟨rfl, hb1⟩
    all_goals
      have h0b : ((l.length : Int) == 0) = false := by rw [beq_eq_false_iff_ne]; omega
      first
        | have h8i : (8 : Int) < (l.length : Int) := by omega
        | have h8i : (l.length : Int) ≤ 8 := by omega
      go_enter Try.func6, Try.ntmps6
      go_wp2_with fail
      refine (awake_any _).mono ?_
      rintro e w1 ⟨rfl, hb1⟩
      go_wp2_with fail
      go_ret
      exact ⟨rfl, hb1⟩
end Go.Proofs.Ytlhnmgjoalifpaa
