/- The law LatchWriters, walked. -/
import Derived.Test.YtigffndobddflaaLWrP
import Derived.Test.YtigffndobddflaaLR3
import Derived.Test.YtigffndobddflaaArr
import Derived.Test.YtigffndobddflaaOpenBytes
namespace Go.Proofs.Ytigffndobddflaa
open Go.RowKit

/-- what the first loop has done so far -/
structure WrL (w : World) (N : Nat) (U : World) (o : List Int) (A : Option Addr) (ac : Nat) (Q : Option Addr) (qc : Nat) (O : Option Addr) (oc : Nat) : Prop where
  hb : LB N (wr1 o) A ac Q qc U
  hm : LM U (fun b => b ≠ N ∧ b ≠ N + 1 ∧ (Value.slice O o.length oc).ownBlock ≠ some b ∧ b < U.heap.size) (wr1 o) A ac Q qc
  ar : AR (N + 1) 256 (fun k => .bool (decide ((k : Int) ∈ o))) U
  own : U.ownsRow (N + 2) 3 1 (.slice O o.length oc) o.length (o.flatMap icells)
  below : Below N w U
  right : (wr1 o).right = true
  nd : o.Nodup
  rng : ∀ x ∈ o, 0 ≤ x ∧ x ≤ 255
/-- a latch that came stands in a box of its own -/
structure WrS (w : World) (N : Nat) (U : World) (o : List Int) (A : Option Addr) (ac : Nat) (Q : Option Addr) (qc : Nat) (P : Nat) (r : La) (A2 : Option Addr) (a2 : Nat) (Q2 : Option Addr) (q2 : Nat) (O : Option Addr) (ol oc : Nat) (row ar : List Int) : Prop where
  hb : LB N (wr1 o) A ac Q qc U
  hp : LB P r A2 a2 Q2 q2 U
  hm : LM U (fun b => b ≠ N ∧ b ≠ N + 1 ∧ b ≠ P ∧ (Value.slice O ol oc).ownBlock ≠ some b ∧ b < U.heap.size) r A2 a2 Q2 q2
  ar : AR (N + 1) 256 (fun k => .bool (decide ((k : Int) ∈ ar))) U
  own : U.ownsRow (N + 2) 3 1 (.slice O ol oc) ol (row.flatMap icells)
  ownP : (Value.slice O ol oc).ownBlock ≠ some P
  below : Below N w U
  NP : N + 1 < P
section
variable {w wr U U' V : World} {N P : Nat} {o : List Int} {r : La} {A Q A2 Q2 O : Option Addr} {ac qc a2 q2 ol oc : Nat} {row ar : List Int}
theorem WrL.box (t : TypeId) (h : WrL w N wr o A ac Q qc O oc) (hb : Below wr.heap.size wr V) (hm : LM V (fun b => (b ≠ N ∧ b ≠ N + 1 ∧ (Value.slice O o.length oc).ownBlock ≠ some b ∧ b < wr.heap.size) ∨ (wr.heap.size ≤ b ∧ b < V.heap.size)) r A2 a2 Q2 q2) :
    ∃ U P, U = V.alloc (.cells #[.slice A2 r.hs.length a2, .bool r.ex, .slice Q2 r.q.length q2] t) ∧ P = V.heap.size ∧ WrS w N U o A ac Q qc P r A2 a2 Q2 q2 O o.length oc o o := by
  obtain ⟨U, hU, hbU, hsU, hB⟩ := la_box V A2 Q2 a2 q2 r t
  have hs := hb.size; have hlt := h.hb.lt; have hlt2 := h.ar.lt
  have hbb := hb.trans (hbU.mono hs)
  refine ⟨U, V.heap.size, hU, rfl, h.hb.up hbb hlt, hB, (hm.keep (w' := U) fun b hb => hbU.block b (by omega)).imp fun b hb => ?_, h.ar.up hbb hlt2, own_up h.own hbb, fun e => ?_, h.below.trans (hbb.mono (by omega)), by omega⟩
  · rcases hb with hb | hb
    · exact ⟨hb.1, hb.2.1, by omega, hb.2.2.1, by omega⟩
    · exact ⟨by omega, by omega, by omega, fun e => by have := (h.own.lt b e).2; omega, by omega⟩
  · have := (h.own.lt _ e).2; omega
theorem WrS.setA (h : WrS w N U o A ac Q qc P r A2 a2 Q2 q2 O ol oc row ar) {k : Nat} (hk : k < 256) : WrS w N (U.setCell ⟨N + 1, k, none⟩ (.bool true)) o A ac Q qc P r A2 a2 Q2 q2 O ol oc row (ar ++ [(k : Int)]) := by
  have hkp : ∀ g, g ≠ N + 1 → (U.setCell ⟨N + 1, k, none⟩ (.bool true)).heap[g]? = U.heap[g]? := fun g hg => Below.heap_setCell U ⟨N + 1, k, none⟩ _ g hg
  have hNP := h.NP
  refine ⟨h.hb.keep (hkp _ (by omega)), h.hp.keep (hkp _ (by omega)), (h.hm.keep fun b hb => hkp b hb.2.1).imp fun b hb => by simpa using hb, (h.ar.set (.bool true) hk).congr fun i _ => ?_, own_heap h.own fun g hg => hkp g (by have := (h.own.lt g hg).1; omega), h.ownP, h.below.setCell (p := ⟨N + 1, k, none⟩) (by show N ≤ N + 1; omega) _, hNP⟩
  simp only [List.mem_append, List.mem_singleton]
  by_cases hi : i = k
  · subst hi; simp
  · rw [if_neg hi]
    congr 1
    simp only [decide_eq_decide]
    constructor
    · exact .inl
    · rintro (h | h)
      · exact h
      · exact absurd (by omega) hi
theorem WrS.put (h : WrS w N U o A ac Q qc P (wr1 row) A2 a2 Q2 q2 O row.length oc row row) (hr : (wr1 row).right = true) (hn : row.Nodup) (hg : ∀ x ∈ row, 0 ≤ x ∧ x ≤ 255) : WrL w N (fill3 U N (wr1 row) A2 a2 Q2 q2) row A2 a2 Q2 q2 O oc :=
  ⟨h.hb.fill, (h.hm.keep fun d hd => fill3_keep hd.1).imp fun d hd => ⟨hd.1, hd.2.1, hd.2.2.2.1, by rw [fill3_size]; exact hd.2.2.2.2⟩, h.ar.keep (fill3_keep (by omega)), own_heap h.own fun g hg => fill3_keep (by have := (h.own.lt g hg).1; omega), fill3_below h.below (Nat.le_refl _), hr, hn, hg⟩
end
/-- what the second loop has done so far -/
structure WrM (w : World) (N : Nat) (U : World) (o t : List Int) (A : Option Addr) (ac : Nat) (Q : Option Addr) (qc : Nat) (O : Option Addr) (oc : Nat) : Prop where
  hb : LB N (wr1 t) A ac Q qc U
  hm : LM U (fun b => b ≠ N ∧ (Value.slice O o.length oc).ownBlock ≠ some b ∧ b < U.heap.size) (wr1 t) A ac Q qc
  own : U.ownsRow (N + 2) 3 1 (.slice O o.length oc) o.length (o.flatMap icells)
  below : Below N w U
  right : (wr1 t).right = true
theorem WrM.up {w wr V : World} {N : Nat} {o tl : List Int} {A Q O : Option Addr} {ac qc oc : Nat} (h : WrM w N wr o tl A ac Q qc O oc) (hb : Below wr.heap.size wr V) : WrM w N V o tl A ac Q qc O oc :=
  ⟨h.hb.up hb h.hb.lt, (h.hm.keep (w' := V) fun b hb' => hb.block b hb'.2.2).imp fun b hb' => ⟨hb'.1, hb'.2.1, by have := hb.size; omega⟩, own_up h.own hb, h.below.trans (hb.mono (by have := h.hb.lt; omega)), h.right⟩
theorem WrM.box {w wr V : World} {N : Nat} {o tl : List Int} {r : La} {A Q A2 Q2 O : Option Addr} {ac qc a2 q2 oc : Nat} (t : TypeId) (h : WrM w N wr o tl A ac Q qc O oc) (hb : Below wr.heap.size wr V) (hm : LM V (fun b => (b ≠ N ∧ (Value.slice O o.length oc).ownBlock ≠ some b ∧ b < wr.heap.size) ∨ (wr.heap.size ≤ b ∧ b < V.heap.size)) r A2 a2 Q2 q2) :
    ∃ U P, U = V.alloc (.cells #[.slice A2 r.hs.length a2, .bool r.ex, .slice Q2 r.q.length q2] t) ∧ P = V.heap.size ∧ N < P ∧ Below wr.heap.size wr U ∧ LB P r A2 a2 Q2 q2 U ∧ LB N (wr1 tl) A ac Q qc U ∧ LM U (fun b => b ≠ N ∧ b ≠ P ∧ (Value.slice O o.length oc).ownBlock ≠ some b ∧ b < U.heap.size) r A2 a2 Q2 q2 := by
  obtain ⟨U, hU, hbU, hsU, hB⟩ := la_box V A2 Q2 a2 q2 r t
  have hs := hb.size; have hlt := h.hb.lt
  have hbb := hb.trans (hbU.mono hs)
  refine ⟨U, V.heap.size, hU, rfl, by omega, hbb, hB, h.hb.up hbb hlt, (hm.keep (w' := U) fun b hb => hbU.block b (by omega)).imp fun b hb => ?_⟩
  rcases hb with hb | hb
  · exact ⟨hb.1, by omega, hb.2.1, by omega⟩
  · exact ⟨by omega, by omega, fun e => by have := (h.own.lt b e).2; omega, by omega⟩
theorem WrM.put {w wr U : World} {N P : Nat} {o tl tl' : List Int} {A Q A2 Q2 O : Option Addr} {ac qc a2 q2 oc : Nat} (h : WrM w N wr o tl A ac Q qc O oc) (hb : Below wr.heap.size wr U) (hN : LB N (wr1 tl) A ac Q qc U) (hm : LM U (fun b => b ≠ N ∧ b ≠ P ∧ (Value.slice O o.length oc).ownBlock ≠ some b ∧ b < U.heap.size) (wr1 tl') A2 a2 Q2 q2) (hr : (wr1 tl').right = true) : WrM w N (fill3 U N (wr1 tl') A2 a2 Q2 q2) o tl' A2 a2 Q2 q2 O oc :=
  ⟨hN.fill, (hm.keep fun d hd => fill3_keep hd.1).imp fun d hd => ⟨hd.1, hd.2.2.1, by rw [fill3_size]; exact hd.2.2.2⟩, own_heap (own_up h.own hb) fun g hg => fill3_keep (by have := (h.own.lt g hg).1; omega), fill3_below (h.below.trans (hb.mono (by have := h.hb.lt; omega))) (Nat.le_refl _), hr⟩

set_option maxRecDepth 20000 in
set_option maxHeartbeats 8000000 in
theorem lawWriters (w : World) (A0 : Option Addr) (cap0 : Nat) (cs : List Int) (hc : cs.length ≤ cap0) (hm : cap0 ≤ 9223372036854775807) (hB : BytesAt w A0 cs) :
    Calls Try.prog 8 #[.slice A0 cs.length cap0] w fun e w' => e = .returned (.bool true) ∧ Below w.heap.size w w' := by
  obtain ⟨hr, hQ⟩ := hB
  have HQ := Lib.hid hQ; clear hQ
  obtain ⟨j0, hj0, hy0, hy1, hy2⟩ := info_parts Try.infoInt
  obtain ⟨N, hN⟩ : ∃ N, N = w.heap.size := ⟨_, rfl⟩
  obtain ⟨U1, hU1, hb1, hs1, hB1⟩ := la_box w none none 0 0 ⟨[], false, []⟩ 25
  simp only [List.length_nil] at hU1
  obtain ⟨U0, hU0⟩ : ∃ U0, U0 = U1.alloc (.cells zs256 55) := ⟨_, rfl⟩
  rw [← hN] at hB1 hb1 hs1 hr
  have hb0 : Below U1.heap.size U1 U0 := by rw [hU0]; exact (Below.refl _ _).alloc (Nat.le_refl _) _
  have hs0 : U0.heap.size = N + 2 := by rw [hU0]; simp [hs1]
  have HR := Lib.hid (show WrL w N U0 [] none 0 none 0 none 0 from
    ⟨hB1.up hb0 (by omega), LM.nil, AR.of (by rw [hU0, ← hs1, heap_alloc_new]) (fun k hk => zs256_get hk), World.ownsRow_nil _ _ _ _, hb1.trans (hb0.mono (by omega)), by kernel_rfl, List.nodup_nil, fun x hx => by cases hx⟩)
  rw [hU1] at hU0
  have HU0 := Lib.hid hU0.symm; have HN := Lib.hid hN.symm
  clear hU1 hU0 hN hB1 hb0 hb1 hs0 hs1
  have hz256 := zero256
  have hzne := zs256_ne
  go_enter Try.func8, Try.ntmps8
  go_upto_region 4 with fail
  rw [HU0.out, HN.out]
  clear HU0 hz256 hzne U1
  go_wp2_with fail
  go_loopg [4, 6] cs.length (fun g ov iv wr => ∃ (j : Nat) (o : List Int) (A : Option Addr) (ac : Nat) (Q : Option Addr) (qc : Nat) (O : Option Addr) (oc : Nat), j ≤ cs.length ∧ o.length ≤ j ∧ o.length ≤ 20 ∧ g = cs.length - j ∧ ov = .slice O o.length oc ∧ iv = .int .i64 j ∧ WrL w N wr o A ac Q qc O oc)
  case atStart => exact ⟨0, [], none, 0, none, 0, none, 0, Nat.zero_le _, Nat.zero_le _, Nat.zero_le _, rfl, rfl, rfl, HR.out⟩
  case round =>
    obtain ⟨j, o, A, ac, Q, qc, O, oc, hj, hoj, ho20, hg, rfl, rfl, hE⟩ := hrel
    have HE := Lib.hid hE; have Hg := Lib.hid hg
    obtain ⟨c0, c1, c2, f0, f1, f2, lt⟩ := hE.hb
    have hlw := wr1_len o
    clear hE hg
    by_cases hlt : j < cs.length ∧ j < 20
    case pos =>
      obtain ⟨hlt1, hlt2⟩ := hlt
      obtain ⟨x, b, off, hx, rfl, hbb, hcell⟩ := rd_u hr hlt1
      obtain ⟨x0, x1⟩ := HQ.out j x hx
      obtain ⟨k, rfl⟩ : ∃ k : Nat, x = (k : Int) := ⟨x.toNat, by omega⟩
      have g0 := hcell wr HE.out.below
      have hbs : b < wr.heap.size := by omega
      have hk : k < 256 := by omega
      have hji : (j : Int) < (cs.length : Int) := by omega
      have hji2 : (j : Int) < 20 := by omega
      clear hcell hx
      by_cases hin : (k : Int) ∈ o
      · have heq := wr_ask_in HE.out.right x0 x1 hin
        have hd := ask_is (b := false) heq rfl wr (fun b => b ≠ N ∧ b ≠ N + 1 ∧ (Value.slice O o.length oc).ownBlock ≠ some b ∧ b < wr.heap.size) A Q ac qc (by omega) (by omega) (fun b hb => hb.2.2.2) HE.out.hm
        have Hd := Lib.hid hd; have Hin := Lib.hid hin
        clear hd heq hin
        go_wp2_with fail
        refine Hd.out.mono ?_
        clear Hd
        rintro e V ⟨A2, a2, Q2, q2, rfl, hm2, hb⟩
        obtain ⟨U, P, hU, hP, hS⟩ := HE.out.box 25 hb hm2
        have HU := Lib.hid hU.symm; have HP := Lib.hid hP.symm; have HS := Lib.hid hS
        clear hm2 hb hU hP hS c0 c1 c2 f0 f1 f2 lt g0 hbs
        try simp only
        go_upto_region 9 with fail
        rw [HU.out, HP.out]
        clear HU HP
        obtain ⟨c0, c1, c2, f0, f1, f2, lt⟩ := HS.out.hb
        obtain ⟨y0, y1, y2, _, _, _, ltp⟩ := HS.out.hp
        have e1 : U.cell? ⟨N + 1, k, none⟩ = some (.bool true) := by have := HS.out.ar.cell k hk; simpa [Hin.out] using this
        have lta := HS.out.ar.lt
        have hNP := HS.out.NP
        have hNP1 : ¬ N = P := by omega
        have hNP2 : ¬ P = N := by omega
        clear hNP
        go_wp2_with fail
        go_roundg (cs.length - (j + 1))
        case measure => have := Hg.out; omega
        case rel =>
          have hfin := HS.out.put HE.out.right HE.out.nd HE.out.rng
          rw [fill3] at hfin
          exact ⟨j + 1, o, A2, a2, Q2, q2, O, oc, by omega, by omega, ho20, rfl, rfl, by go_num, hfin⟩
      · have heq := wr_ask_new HE.out.right x0 x1 hin (by omega)
        have hr2 : (wr1 (o ++ [(k : Int)])).right = true := by have := ask_right HE.out.right (k : Int) true; rwa [heq] at this
        obtain ⟨cb, hcb⟩ : ∃ cb, (if o.length = 0 then [(k : Int)] else []).contains (k : Int) = cb := ⟨_, rfl⟩
        have hoe : ((o.length : Int) == 0) = cb := by
          rw [← hcb]
          by_cases h : o.length = 0
          · rw [if_pos h, h]; simp
          · rw [if_neg h, beq_eq_false_iff_ne.2 (show (o.length : Int) ≠ 0 by omega)]; rfl
        have hd := ask_is (b := cb) heq hcb wr (fun b => b ≠ N ∧ b ≠ N + 1 ∧ (Value.slice O o.length oc).ownBlock ≠ some b ∧ b < wr.heap.size) A Q ac qc (by omega) (by omega) (fun b hb => hb.2.2.2) HE.out.hm
        have Hd := Lib.hid hd; have Hin := Lib.hid hin; have Hr2 := Lib.hid hr2
        clear hd heq hin hr2 hcb
        go_wp2_with fail
        refine Hd.out.mono ?_
        clear Hd
        rintro e V ⟨A2, a2, Q2, q2, rfl, hm2, hb⟩
        obtain ⟨U, P, hU, hP, hS⟩ := HE.out.box 25 hb hm2
        have HU := Lib.hid hU.symm; have HP := Lib.hid hP.symm; have HS := Lib.hid hS
        clear hm2 hb hU hP hS c0 c1 c2 f0 f1 f2 lt g0 hbs
        try simp only
        go_upto_region 9 with fail
        rw [HU.out, HP.out]
        clear HU HP
        have e1 : U.cell? ⟨N + 1, k, none⟩ = some (.bool false) := by have := HS.out.ar.cell k hk; simpa [Hin.out] using this
        have lta := HS.out.ar.lt
        go_upto_region 12 with fail
        clear e1
        obtain ⟨X4, hX4⟩ : ∃ X4, X4 = U.alloc (.cells #[.int .i64 (k : Int)] 3) := ⟨_, rfl⟩
        have HbX4 := Lib.hid (show Below U.heap.size U X4 by rw [hX4]; exact (Below.refl _ _).alloc (Nat.le_refl _) _)
        have HsX4 := Lib.hid (show X4.heap.size = U.heap.size + 1 by rw [hX4]; simp)
        have HX4 := Lib.hid hX4
        clear hX4
        have hoN : N + 2 ≤ U.heap.size := by omega
        go_wp2_with (at_builtin; refine list_app rfl (.tmp 59) (.tmp 61) 22 rfl (N + 2) 3 j0 (.int .i64 0) 1 8 Try.underlying22 hj0 hy0 hy1 hy2 rfl (by decide) rfl (HS.out.own.alloc (.cells #[.int .i64 (k : Int)] 3)) (m := 1) (news := icells (k : Int)) rfl rfl (by simp) (new_src (cs := (icells (k : Int)).toArray) (by simp)) (i_one (k : Int)) ?_ ?_ ?_ ?_)
        · unfold maxLen; omega
        · omega
        · first | omega | (simp; omega)
        intro v5 w5 ho5 hg5 hv5
        rw [← HX4.out] at hg5
        obtain ⟨O5, oc5, rfl, _, _⟩ := own_slice ho5
        have hs5 := hg5.size
        have hsx := HsX4.out
        have hNP := HS.out.NP
        have hPU := HS.out.hp.lt
        have HS5 := Lib.hid (show WrS w N w5 o A ac Q qc P (wr1 (o ++ [(k : Int)])) A2 a2 Q2 q2 O5 (o.length + 1) oc5 (o ++ [(k : Int)]) o by
          have h5 : ∀ g, g < U.heap.size → (Value.slice O o.length oc).ownBlock ≠ some g → w5.heap[g]? = U.heap[g]? := fun g h1 h2 => (hg5.block g (by omega) (fun e => h2 e.symm)).trans (HbX4.out.block g h1)
          have hn5 : ∀ g, (Value.slice O5 (o.length + 1) oc5).ownBlock = some g → (Value.slice O o.length oc).ownBlock = some g ∨ U.heap.size < g := fun g hg => by
            rcases hv5 with h | h
            · rw [h] at hg; exact .inl hg
            · rw [h] at hg; injection hg with hg; exact .inr (by first | omega | (simp at hg; omega))
          have hlo : ∀ g, (Value.slice O o.length oc).ownBlock = some g → N + 2 ≤ g := fun g hg => (HS.out.own.lt g hg).1
          refine ⟨HS.out.hb.keep (h5 _ (by omega) fun e => by have := hlo _ e; omega), HS.out.hp.keep (h5 _ hPU HS.out.ownP), (HS.out.hm.keep fun b hb => h5 b hb.2.2.2.2 hb.2.2.2.1).imp fun b hb => ⟨hb.1, hb.2.1, hb.2.2.1, fun e => ?_, by omega⟩, HS.out.ar.keep (h5 _ (by omega) fun e => by have := hlo _ e; omega), ?_, fun e => ?_, ?_, hNP⟩
          · rcases hn5 b e with h | h
            · exact hb.2.2.2.1 h
            · omega
          · rw [List.flatMap_append]; simpa [icells] using ho5
          · rcases hn5 P e with h | h
            · exact HS.out.ownP h
            · omega
          · exact (HS.out.below.trans (HbX4.out.mono (by omega))).grown hg5 (by omega) (fun d hd => by have := hlo d hd; omega))
        clear ho5 hg5 hv5 hs5 hsx HX4 hoN hPU
        have hNP1 : ¬ N + 1 = P := by omega
        clear hNP lta
        go_upto_region 13 with fail
        have e1 : w5.cell? ⟨N + 1, k, none⟩ = some (.bool (decide ((k : Int) ∈ o))) := HS5.out.ar.cell k hk
        have e2 := HS5.out.ar.froz k hk
        have lta := HS5.out.ar.lt
        obtain ⟨w6, hw6⟩ : ∃ w6, w6 = w5.setCell ⟨N + 1, k, none⟩ (.bool true) := ⟨_, rfl⟩
        have HS6 := Lib.hid (show WrS w N w6 o A ac Q qc P (wr1 (o ++ [(k : Int)])) A2 a2 Q2 q2 O5 (o.length + 1) oc5 (o ++ [(k : Int)]) (o ++ [(k : Int)]) by rw [hw6]; exact HS5.out.setA hk)
        have Hw6 := Lib.hid hw6.symm
        clear hw6
        go_upto_region 14 with fail
        rw [Hw6.out]
        clear e1 e2 lta Hw6
        obtain ⟨c0, c1, c2, f0, f1, f2, lt⟩ := HS6.out.hb
        obtain ⟨y0, y1, y2, _, _, _, ltp⟩ := HS6.out.hp
        have hNP := HS6.out.NP
        have hNP3 : ¬ N = P := by omega
        have hNP2 : ¬ P = N := by omega
        clear hNP hNP1
        go_wp2_with fail
        go_roundg (cs.length - (j + 1))
        case measure => have := Hg.out; omega
        case rel =>
          have hlen : (o ++ [(k : Int)]).length = o.length + 1 := by simp
          have hfin := WrS.put (by rw [hlen]; exact HS6.out) Hr2.out (List.nodup_append.2 ⟨HE.out.nd, by simp, fun a ha b hb => by simp only [List.mem_singleton] at hb; subst hb; exact fun e => Hin.out (e ▸ ha)⟩) (fun x hx => by
            rcases List.mem_append.1 hx with h | h
            · exact HE.out.rng x h
            · simp only [List.mem_singleton] at h; subst h; exact ⟨x0, x1⟩)
          rw [fill3] at hfin
          exact ⟨j + 1, o ++ [(k : Int)], A2, a2, Q2, q2, O5, oc5, by omega, by rw [hlen]; omega, by rw [hlen]; omega, rfl, by rw [hlen], by go_num, hfin⟩
    case neg =>
      have hlt' : ¬ (j : Int) < (cs.length : Int) ∨ ((j : Int) < (cs.length : Int) ∧ ¬ (j : Int) < 20) := by omega
      have HM := Lib.hid (show WrM w N wr o o A ac Q qc O oc from ⟨HE.out.hb, HE.out.hm.imp fun b hb => ⟨hb.1, hb.2.2.1, hb.2.2.2⟩, HE.out.own, HE.out.below, HE.out.right⟩)
      have Hnd := Lib.hid HE.out.nd
      clear hlt HE Hg hlw hoj hj
      rcases hlt' with h1 | ⟨h1, h2⟩
      all_goals
        go_upto_region 15 with fail
        clear c0 c1 c2 f0 f1 f2 lt
        obtain ⟨wz, hwz⟩ : ∃ wz : World, wz = wr := ⟨_, rfl⟩
        clear hwz
        go_wp2_with fail
        go_loopg [68] o.length (fun g iv wr => ∃ (i : Nat) (A : Option Addr) (ac : Nat) (Q : Option Addr) (qc : Nat), i ≤ o.length ∧ g = o.length - i ∧ iv = .int .i64 i ∧ WrM w N wr o (o.drop i) A ac Q qc O oc)
        case atStart => exact ⟨0, A, ac, Q, qc, Nat.zero_le _, rfl, rfl, HM.out⟩
        case round =>
          clear HM h1
          try clear h2
          obtain ⟨i, A, ac, Q, qc, hi, hg, rfl, hE⟩ := hrel
          have Hg := Lib.hid hg
          clear hg
          by_cases hlt : i < o.length
          · obtain ⟨x, t, ht⟩ : ∃ x t, o.drop i = x :: t := ⟨_, _, List.drop_eq_getElem_cons hlt⟩
            have htd : o.drop (i + 1) = t := by
              have h := List.drop_eq_getElem_cons hlt
              rw [ht] at h
              exact (List.cons.inj h).2.symm
            have hxt : x ∉ t := by
              have h := Hnd.out.sublist (List.drop_sublist i o)
              rw [ht] at h
              exact (List.nodup_cons.1 h).1
            obtain ⟨x', b, off, hx', rfl, hbb, hcell⟩ := rd_i (Rd.of_own hE.own i_len (by decide)) hlt
            obtain rfl : x = x' := by
              have h : (o.drop i)[0]? = some x := by rw [ht]; rfl
              rw [List.getElem?_drop, Nat.add_zero, hx'] at h
              exact (Option.some.inj h).symm
            rw [ht] at hE
            have g0 := hcell wr (Below.refl _ _)
            have HE := Lib.hid hE
            obtain ⟨c0, c1, c2, f0, f1, f2, lt⟩ := hE.hb
            have hio : (i : Int) < (o.length : Int) := by omega
            have hlw := wr1_len (x :: t)
            have hlt20 : (x :: t).length ≤ 20 := by rw [← ht, List.length_drop]; omega
            have hd : Calls Try.prog 20 #[.agg #[.slice A (wr1 (x :: t)).hs.length ac, .bool (wr1 (x :: t)).ex, .slice Q (wr1 (x :: t)).q.length qc], .int .i64 x] wr fun e w' => e = .returned (.tuple #[.bool true, .bool true]) ∧ Below wr.heap.size wr w' := by
              have h := holds_any wr A Q ac qc (wr1 (x :: t)) x (by omega) (by omega) (HE.out.hm.imp fun b hb => hb.2.2)
              rw [wr_holds HE.out.right] at h
              exact h
            have Hd := Lib.hid hd; have Ht := Lib.hid ht; have Htd := Lib.hid htd; have Hxt := Lib.hid hxt
            clear hd ht htd hxt hcell hx' hE
            go_wp2_with fail
            refine Hd.out.mono ?_
            clear Hd
            rintro e V1 ⟨rfl, hb1⟩
            have HE1 := Lib.hid (HE.out.up hb1)
            clear c0 c1 c2 f0 f1 f2 lt g0 hb1
            go_upto_region 19 with fail
            have hd := drop_is (wr_drop HE1.out.right Hxt.out) V1 (fun d => d ≠ N ∧ (Value.slice (some ⟨b, off, none⟩) o.length oc).ownBlock ≠ some d ∧ d < V1.heap.size) A Q ac qc (by omega) (by omega) (fun d hd => hd.2.2) HE1.out.hm
            have hr2 : (wr1 t).right = true := by have := drop_right HE1.out.right x; rwa [wr_drop HE1.out.right Hxt.out] at this
            have Hd := Lib.hid hd; have Hr2 := Lib.hid hr2
            clear hd hr2
            obtain ⟨c0, c1, c2, f0, f1, f2, lt⟩ := HE1.out.hb
            go_wp2_with fail
            refine Hd.out.mono ?_
            clear Hd
            rintro e V2 ⟨A2, a2, Q2, q2, I2, i2, rfl, hm2, hI, hb⟩
            obtain ⟨U, P, hU, hP, hNP, hbU, hBP, hBN, hmU⟩ := HE1.out.box 25 hb hm2
            have HI := Lib.hid (show Rd icells 1 U U.heap.size I2 (nextW t) from (hI.keep (w' := U) fun d hd => by rw [hU, heap_alloc_old _ _ hd.2]).to fun d hd => by rw [hU]; simp; omega)
            have HU := Lib.hid hU.symm; have HP := Lib.hid hP.symm; have HbU := Lib.hid hbU; have HBP := Lib.hid hBP; have HBN := Lib.hid hBN; have HmU := Lib.hid hmU
            have HEU := Lib.hid (HE1.out.up hbU)
            clear hm2 hb hI hU hP hbU hBP hBN hmU c0 c1 c2 f0 f1 f2 lt
            have hNP1 : ¬ N = P := by omega
            have hNP2 : ¬ P = N := by omega
            clear hNP
            try simp only
            go_upto_region 20 with fail
            rw [HU.out, HP.out]
            clear HU HP
            have ew1 : IntKind.i64.wrap ((i : Int) + 1) = (i : Int) + 1 := IntWalk.i64_in _ (by omega)
            have ew2 : IntKind.i64.wrap ((o.length : Int) - 1) = (o.length : Int) - 1 := IntWalk.i64_in _ (by omega)
            cases t with
            | nil =>
              have hl1 : ¬ (i : Int) + 1 < (o.length : Int) := by
                have h := congrArg List.length Htd.out
                rw [List.length_drop, List.length_nil] at h
                omega
              simp only [nextW, List.length_nil]
              go_quiet (fail)
              obtain ⟨U9, hU9⟩ : ∃ U9, U9 = U.drewN nq := ⟨_, rfl⟩
              have HbU9 := Lib.hid (show Below V1.heap.size V1 U9 by rw [hU9]; exact below_drewN HbU.out _)
              have HB9 := Lib.hid (show Below U.heap.size U U9 by rw [hU9]; exact below_drewN (Below.refl _ _) _)
              rw [← hU9]
              clear hU9 ew1 ew2 hl1
              have HBN9 := Lib.hid (HBN.out.up HB9.out HBN.out.lt)
              have HBP9 := Lib.hid (HBP.out.up HB9.out HBP.out.lt)
              have HmU9 := Lib.hid ((HmU.out.keep (w' := U9) fun d hd => HB9.out.block d hd.2.2.2).imp (ok' := fun d => d ≠ N ∧ d ≠ P ∧ (Value.slice (some ⟨b, off, none⟩) o.length oc).ownBlock ≠ some d ∧ d < U9.heap.size) fun d hd => ⟨hd.1, hd.2.1, hd.2.2.1, by have := HB9.out.size; omega⟩)
              obtain ⟨c0, c1, c2, f0, f1, f2, lt⟩ := HBN9.out
              obtain ⟨y0, y1, y2, _, _, _, ltp⟩ := HBP9.out
              go_wp2_with fail
              go_roundg (o.length - (i + 1))
              case measure => have := Hg.out; omega
              case rel =>
                have hfin := HE1.out.put (P := P) HbU9.out HBN9.out HmU9.out Hr2.out
                rw [fill3] at hfin
                exact ⟨i + 1, A2, a2, Q2, q2, by omega, rfl, by go_num, by rw [Htd.out]; exact hfin⟩
            | cons y t =>
              have hl1 : (i : Int) + 1 < (o.length : Int) := by
                have h := congrArg List.length Htd.out
                rw [List.length_drop, List.length_cons] at h
                omega
              obtain ⟨y', bI, oI, hy', rfl, hbI, hcI⟩ := rd_i HI.out (k := 0) (by simp [nextW])
              obtain rfl : y = y' := by simpa [nextW] using hy'
              obtain ⟨y', b', off', hy2, hbo, hbb', hcell'⟩ := rd_i (Rd.of_own HEU.out.own i_len (by decide)) (k := i + 1) (by omega)
              obtain ⟨rfl, rfl⟩ : b = b' ∧ off = off' := by injection hbo with h; injection h with h1 h2 _; exact ⟨h1, h2⟩
              obtain rfl : y = y' := by
                have h : (o.drop (i + 1))[0]? = some y := by rw [Htd.out]; rfl
                rw [List.getElem?_drop, Nat.add_zero, hy2] at h
                exact (Option.some.inj h).symm
              have gI := hcI U (Below.refl _ _)
              have gO := hcell' U (Below.refl _ _)
              simp only [Nat.add_zero] at gI
              clear hcI hcell' hbo hy' hy2 hbb
              have hmn : min ((i : Int) + 1) ((o.length : Int) - 1) = (i : Int) + 1 := by omega
              have hi0 : (0 : Int) ≤ (i : Int) + 1 := by omega
              have hbU' : b < U.heap.size := hbb'
              simp only [nextW, List.length_cons, List.length_nil, Nat.zero_add]
              go_quiet (fail)
              obtain ⟨U9, hU9⟩ : ∃ U9, U9 = U.drewN nq := ⟨_, rfl⟩
              have HbU9 := Lib.hid (show Below V1.heap.size V1 U9 by rw [hU9]; exact below_drewN HbU.out _)
              have HB9 := Lib.hid (show Below U.heap.size U U9 by rw [hU9]; exact below_drewN (Below.refl _ _) _)
              rw [← hU9]
              clear hU9 ew1 ew2 hl1 gI gO hmn hi0 hbU'
              have HBN9 := Lib.hid (HBN.out.up HB9.out HBN.out.lt)
              have HBP9 := Lib.hid (HBP.out.up HB9.out HBP.out.lt)
              have HmU9 := Lib.hid ((HmU.out.keep (w' := U9) fun d hd => HB9.out.block d hd.2.2.2).imp (ok' := fun d => d ≠ N ∧ d ≠ P ∧ (Value.slice (some ⟨b, off, none⟩) o.length oc).ownBlock ≠ some d ∧ d < U9.heap.size) fun d hd => ⟨hd.1, hd.2.1, hd.2.2.1, by have := HB9.out.size; omega⟩)
              obtain ⟨c0, c1, c2, f0, f1, f2, lt⟩ := HBN9.out
              obtain ⟨y0, y1, y2, _, _, _, ltp⟩ := HBP9.out
              go_wp2_with fail
              go_roundg (o.length - (i + 1))
              case measure => have := Hg.out; omega
              case rel =>
                have hfin := HE1.out.put (P := P) HbU9.out HBN9.out HmU9.out Hr2.out
                rw [fill3] at hfin
                exact ⟨i + 1, A2, a2, Q2, q2, by omega, rfl, by go_num, by rw [Htd.out]; exact hfin⟩
          · obtain rfl : i = o.length := by omega
            rw [List.drop_length] at hE
            have HE := Lib.hid hE
            obtain ⟨c0, c1, c2, _, _, _, lt⟩ := hE.hb
            simp only [wr1, List.length_nil] at c0 c1 c2
            clear hE Hg hlt hi
            go_wp2_with fail
            refine (awake_any _).mono ?_
            rintro e V2 ⟨rfl, hb2⟩
            go_wp2_with fail
            go_ret
            refine ⟨rfl, ?_⟩
            rw [HN.out]
            exact HE.out.below.trans (hb2.mono (by have := HE.out.below.size; have := HE.out.hb.lt; omega))
end Go.Proofs.Ytigffndobddflaa
