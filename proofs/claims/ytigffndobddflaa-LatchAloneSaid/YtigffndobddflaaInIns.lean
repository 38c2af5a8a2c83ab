/- The contracts of slices.Insert (of one element) and slices.Delete (of one element) at one element type, on a row of the call's own. -/
import Derived.Test.YtigffndobddflaaInClone
import Derived.Test.YtigffndobddflaaLat1
import Derived.Test.YtigffndobddflaaRow
namespace Go.Proofs.Ytigffndobddflaa
open Go.RowKit

/-- a row of the call's own, behind a call; whatever lay in another block is as it was -/
def OwnInB (v0 : Value) (B : Nat) (l : List Int) (w : World) (e : Ending) (w' : World) : Prop :=
  ∃ A cap, e = .returned (.slice A l.length cap) ∧ w'.ownsRow B 3 1 (.slice A l.length cap) l.length (l.flatMap icells) ∧ Below B w w' ∧
    (∀ g, g < w.heap.size → v0.ownBlock ≠ some g → w'.heap[g]? = w.heap[g]?) ∧ ((Value.slice A l.length cap).ownBlock = v0.ownBlock ∨ ∃ N, w.heap.size ≤ N ∧ (Value.slice A l.length cap).ownBlock = some N)

set_option maxHeartbeats 4000000 in
theorem insert_In (w : World) (B : Nat) (A : Option Addr) (cap : Nat) (l : List Int) (i : Nat) (x : Int) (vb : Nat) (hi : i ≤ l.length) (hl : l.length ≤ 1000000) (hB : B ≤ w.heap.size)
    (hf : ∀ x : Int, (icells x).length = 1) (h1 : ∀ x : Int, ∀ u ∈ icells x, u.oneCell' = true)
    (ho : w.ownsRow B 3 1 (.slice A l.length cap) l.length (l.flatMap icells)) (hne : (Value.slice A l.length cap).ownBlock ≠ some vb) (hv : w.heap[vb]? = some (.cells (icells x).toArray 3 (0, 0))) :
    Calls Try.prog 37 #[.slice A l.length cap, .int .i64 i, .slice (some ⟨vb, 0, none⟩) 1 1] w (OwnInB (.slice A l.length cap) B (l.take i ++ x :: l.drop i) w) := by
  obtain ⟨i0, hi0, hz0, hz1, hz2⟩ := info_parts Try.infoInt
  have hvcell : ∀ W : World, W.heap[vb]? = w.heap[vb]? → ∀ (j : Nat) (u : Value), (icells x)[j]? = some u → W.cell? ((⟨vb, 0, none⟩ : Addr).add j) = some u := fun W hW j u hu => by
    rw [Addr.add_lit, Nat.zero_add]
    rw [World.cell?_of_block (w := w) (a := ⟨vb, j, none⟩) hW]
    simp [World.cell?, hv, hu]
  have hlr : (l.take i ++ x :: l.drop i).length = l.length + 1 := by simp; omega
  have hlen := flat_len hf l
  by_cases hin : i = l.length
  · subst hin
    have Hf := Lib.hid hf; clear hf
    have H1 := Lib.hid h1; clear h1
    have Hv := Lib.hid hvcell; clear hvcell hv
    have Ho := Lib.hid ho; clear ho
    have Hlr := Lib.hid hlr; clear hlr hne hlen
    rcases Classical.em (cap = l.length) with rfl | hcc
    all_goals
      go_enter Try.func37, Try.ntmps37
      go_wp2_with (at_builtin; refine list_app rfl (.tmp 23) (.tmp 24) 22 rfl B 3 i0 (.int .i64 0) 1 8 Try.underlying22 hi0 hz0 hz1 hz2 rfl (by decide) rfl Ho.out (A := some ⟨vb, 0, none⟩) (m := 1) (news := icells x) rfl (by rw [Hf.out]) (by simp) ?_ (H1.out x) ?_ ?_ hB ?_)
      · intro ad e
        injection e with e
        subst e
        exact Hv.out _ rfl
      · unfold maxLen; omega
      · omega
      intro v' w5 ho5 hg5 hv5
      obtain ⟨A', c', rfl, _, _⟩ := own_slice ho5
      have Ho5 := Lib.hid ho5; clear ho5
      have hb5 : Below B w w5 := (Below.refl _ _).grown hg5 hB (fun k hk => (Ho.out.lt k hk).1)
      have Hg5 := Lib.hid hg5; have Hv5 := Lib.hid hv5
      clear hg5 hv5
      go_wp2_with fail
      go_ret
      refine ⟨A', c', by rw [Hlr.out]; rfl, ?_, hb5, fun g h1 h2 => Hg5.out.block g h1 (fun e => h2 e.symm), ?_⟩
      · rw [Hlr.out]
        simpa using Ho5.out
      · rw [Hlr.out]
        rcases Hv5.out with h | h
        · exact .inl h
        · exact .inr ⟨_, Nat.le_refl _, h⟩
  have hlt : i < l.length := by omega
  obtain ⟨g, cap', hA, hBg, hnc, hcm⟩ := own_addr ho (by omega)
  injection hA with hA hA1 hA2
  subst hA; subst hA2
  clear hA1
  obtain ⟨cur, hcur, hcl, hct, _, _, _⟩ := own_row ho
  rw [Nat.mul_one] at hcl hct
  have hgv : vb ≠ g := fun e => hne (by rw [e]; rfl)
  have hgw : g < w.heap.size := (Array.getElem?_eq_some_iff.1 hcur).1
  have hvw : vb < w.heap.size := (Array.getElem?_eq_some_iff.1 hv).1
  have hszc : (l.flatMap icells).length ≤ cur.length := by rw [← hct, List.length_take]; omega
  have hdlen : ((l.drop i).flatMap icells).length = l.length - i := by rw [flat_len hf, List.length_drop, Nat.mul_one]
  have htlen : ((l.take i).flatMap icells).length = i := by rw [flat_len hf, List.length_take, Nat.mul_one]; omega
  have hgt : ∀ W : World, W.heap[g]? = w.heap[g]? → ∀ (j : Nat) (u : Value), ((l.drop i).flatMap icells)[j]? = some u → W.cell? ((⟨g, i, none⟩ : Addr).add j) = some u := fun W hW j u hu => by
    rw [Addr.add_lit]
    rw [World.cell?_of_block (w := w) (a := ⟨g, i + j, none⟩) hW]
    rw [← flat_drop hf, Nat.mul_one, List.getElem?_drop, ← hct, List.getElem?_take] at hu
    split at hu
    · simp [World.cell?, hcur, hu]
    · cases hu
  have htake : cur.take i = (l.take i).flatMap icells := by
    rw [← flat_take hf, Nat.mul_one, ← hct, List.take_take]
    congr 1
    omega
  have hflat : (l.take i ++ x :: l.drop i).flatMap icells = (l.take i).flatMap icells ++ (icells x ++ (l.drop i).flatMap icells) := by rw [List.flatMap_append, List.flatMap_cons]
  have hone1 := flat_one h1 (l.drop i)
  have honex := h1 x
  have hxl := hf x
  have hw1 : IntKind.i64.wrap ((i : Int) + 1) = (i : Int) + 1 := IntWalk.i64_in _ (by omega)
  have hw2 : IntKind.i64.wrap ((l.length : Int) + 1) = (l.length : Int) + 1 := IntWalk.i64_in _ (by omega)
  have hb1 : (0 : Int) ≤ (i : Int) + 1 := by omega
  have hz2' : ¬ ((i : Int) = (l.length : Int)) := by omega
  have hb4 : ¬ (cap = i) := by omega
  have hin' : i ≤ l.length := hi
  have htn : ((i : Int) + 1).toNat = i + 1 := by omega
  have htn2 : ((l.length : Int) + 1).toNat = l.length + 1 := by omega
  by_cases hroom : l.length + 1 ≤ cap
  · -- in place
    have hov : ∀ lb cb off, (callFunc 43 #[.slice (some ⟨vb, 0, none⟩) 1 1, .slice (some ⟨g, off, none⟩) lb cb]).run Try.prog w = .ok (.value (.bool false)) w := fun lb cb off => by
      have hk1 : cap ≠ 0 := by omega
      rw [run_callFunc_extern Try.func43 (by kernel_rfl) (by kernel_rfl) (by kernel_rfl) (e := Extern.SlicesOverlaps.overlaps #[22, 22] #[4]) (by kernel_rfl),
        Lib.run_overlaps_apart w 22 4 3 Try.underlying22 1 (fun w => by simp [sizeOf, typeInfo, hi0, hz1]) ⟨vb, 0, none⟩ ⟨g, off, none⟩ 1 1 lb cb hgv 3 3 1 cap (by simp [World.shape?, hv, hxl]) (by simp [World.shape?, hcur, hcl]) hk1 (by simp [World.frozen?, hv]) (by simp [World.frozen?, hv])]
      rfl
    have hr2 : ¬ ((cap : Int) < (l.length : Int) + 1) := by omega
    have hb5 : (l.length : Int) + 1 ≤ (cap : Int) := by omega
    have hb6 : (i : Int) + 1 ≤ (l.length : Int) + 1 := by omega
    have hb7 : (i : Int) ≤ (l.length : Int) + 1 := by omega
    have hmn : Nat.min (l.length + 1 - i) (l.length + 1 - (i + 1)) = l.length - i := by simp only [Nat.min_def]; split <;> omega
    have hmn2 : Nat.min 1 (l.length + 1 - i) = 1 := by simp only [Nat.min_def]; split <;> omega
    have Hf := Lib.hid hf; clear hf
    have H1 := Lib.hid h1; clear h1
    have Hv := Lib.hid hvcell; clear hvcell
    have Hgt := Lib.hid hgt; clear hgt
    have Hcur := Lib.hid hcur; clear hcur
    have Hvb := Lib.hid hv; clear hv
    have Hcl := Lib.hid hcl; clear hcl
    have Hct := Lib.hid hct; clear hct
    have Htake := Lib.hid htake; clear htake
    have Hflat := Lib.hid hflat; clear hflat
    have Hlr := Lib.hid hlr; clear hlr
    have Hszc := Lib.hid hszc; clear hszc
    have Hdlen := Lib.hid hdlen; clear hdlen
    have Htlen := Lib.hid htlen; clear htlen
    have Hone := Lib.hid hone1; clear hone1
    have Honex := Lib.hid honex; clear honex
    have Hxl := Lib.hid hxl; clear hxl
    have Hmn := Lib.hid hmn; clear hmn
    have Hmn2 := Lib.hid hmn2; clear hmn2
    clear ho hne hlen
    go_enter Try.func37, Try.ntmps37
    go_wp2_with (simp only [hov])
    have hb8 : ¬ (cap = i + 1) := by omega
    go_region_law (refine step_cpy rfl (.tmp 73) (.tmp 76) 22 22 rfl 3 i0 1 Try.underlying22 hi0 hz1 (by decide) (dp := some ⟨g, (i + 1), none⟩) (dLen := l.length + 1 - (i + 1)) (dCap := cap - (i + 1)) (sp := some ⟨g, i, none⟩) (sLen := l.length + 1 - i) (sCap := cap - i) (by simp [Act.eval, Act.put]) (by simp [Act.eval, Act.put]) g ((i + 1)) Hcur.out ((l.drop i).flatMap icells) (by rw [Nat.mul_one, Hdlen.out, Hmn.out]) (fun _ => ⟨rfl, _, rfl, Hgt.out _ rfl⟩) (by rw [Hdlen.out, Hcl.out]; omega) Hone.out ?_; intro w2 hc2 hg2; have Hc2 := Lib.hid hc2; have Hg2 := Lib.hid hg2; clear hc2 hg2)
    go_wp2_with (refine list_cpy rfl (.tmp 80) (.tmp 81) 22 22 rfl 3 i0 1 Try.underlying22 hi0 hz1 (by decide) rfl rfl g i Hc2.out (icells x) (by rw [Nat.mul_one, Hxl.out, Hmn2.out]) (fun _ => ⟨rfl, _, rfl, Hv.out _ (Hg2.out.block vb hvw (fun e => hgv (Option.some.inj e)))⟩) (by rw [Hxl.out, length_splice _ _ _ (by rw [Hdlen.out, Hcl.out]; omega), Hcl.out]; omega) Honex.out ?_; intro w3 hc3 hg3; have Hc3 := Lib.hid hc3; have Hg3 := Lib.hid hg3; clear hc3 hg3)
    go_wp2_with fail
    go_ret
    refine ⟨some ⟨g, 0, none⟩, cap, by rw [Hlr.out]; rfl, ?_, ((Below.refl B w).drew.grown Hg2.out hB (fun k hk => by injection hk with hk; omega)).grown Hg3.out (Nat.le_trans hB Hg2.out.size) (fun k hk => by injection hk with hk; omega), fun k h1 h2 => ?_, .inl rfl⟩
    rotate_left
    · have hkg : k ≠ g := fun e => h2 (by rw [e]; rfl)
      exact (Hg3.out.block k (by have := Hg2.out.size; exact Nat.lt_of_lt_of_le h1 this) (fun e => hkg (Option.some.inj e))).trans (Hg2.out.block k h1 (fun e => hkg (Option.some.inj e)))
    rw [Hlr.out]
    refine row_own hBg Hc3.out hroom hcm (by rw [length_splice _ _ _ (by rw [Hxl.out, length_splice _ _ _ (by rw [Hdlen.out, Hcl.out]; omega), Hcl.out]; omega), length_splice _ _ _ (by rw [Hdlen.out, Hcl.out]; omega), Hcl.out, Nat.mul_one]) ?_ (by rw [Nat.mul_one, Hflat.out, List.length_append, List.length_append, Htlen.out, Hdlen.out, Hxl.out]; omega)
    have := ins_shift cur ((l.drop i).flatMap icells) (icells x) i ((i + 1)) (by rw [Hxl.out]) (by rw [Hdlen.out, Hcl.out]; omega)
    rw [Hflat.out, ← Htake.out, ← this, Hdlen.out]
    congr 1
    try omega
  · -- a new row
    obtain ⟨G, hG⟩ : ∃ G, G = grownCap w (l.length + 1) cap 3 := ⟨_, rfl⟩
    have hG1 : l.length + 1 ≤ G := by rw [hG]; exact grownCap_ge w _ _ _
    have hG63 : G ≤ 9223372036854775807 := by
      have := grownCap_le_maxLen w (l.length + 1) cap 3 (by unfold maxLen; omega)
      rw [← hG] at this
      unfold maxLen at this
      omega
    have hold : (Builtin.firstCells i0.size i (.slice (some ⟨g, 0, none⟩) i cap)).run Try.prog w.drew = .ok ((l.take i).flatMap icells).toArray w.drew := by
      rw [hz1]
      exact run_firstCells_some w.drew 1 i ⟨g, 0, none⟩ i cap _ (by rw [htlen, Nat.mul_one]) (fun j v hj => by
        rw [Addr.add_lit, Nat.zero_add]
        rw [← htake, List.getElem?_take] at hj
        split at hj
        · show w.cell? _ = _
          simp [World.cell?, hcur, hj]
        · cases hj)
    obtain ⟨Z, hZ, hrz⟩ : ∃ Z : List Value, Z.length = G - i ∧ ∀ ty, (Builtin.append_ #[22, 3] ty #[.slice (some ⟨g, 0, none⟩) i cap, .int .i64 ((l.length : Int) + 1 - (i : Int))]).run Try.prog w =
        .ok (.slice (some ⟨w.heap.size, 0, none⟩) (l.length + 1) G) (w.drew.alloc (.cells ((l.take i).flatMap icells ++ Z).toArray 3)) := by
      have h := fun ty => Lib.run_append_grow_zeros (P := Try.prog) w 22 3 ty 3 i0 _ .i64 .i64 Try.underlying22 Try.underlying3 hi0 hz0 (some ⟨g, 0, none⟩) i cap _ hold (l.length + 1 - i) (by omega) (by rw [hz1]; omega) (by omega) (by omega) (by rw [hz2]; omega) (by rw [hz2, show i + (l.length + 1 - i) = l.length + 1 by omega]; exact growslice_fits (by omega) (by omega))
      rw [show i + (l.length + 1 - i) = l.length + 1 by omega, ← hG] at h
      refine ⟨(Builtin.zeroCells ((.int .i64 0) : Value).cells (l.length + 1 - i)).toList ++ (Builtin.zeroCells ((.int .i64 0) : Value).cells (G - (l.length + 1))).toList, ?_, fun ty => ?_⟩
      · have hzc : ((.int .i64 0) : Value).cells.size = 1 := rfl
        simp only [Builtin.zeroCells, List.length_append, Array.length_toList, Array.size_map, Array.size_range, hzc]
        omega
      · rw [show (l.length : Int) + 1 - (i : Int) = ((l.length + 1 - i : Nat) : Int) by omega, h ty]
        congr 4
        simp
    obtain ⟨N, hN⟩ : ∃ N, N = w.heap.size := ⟨_, rfl⟩
    have hgN : g ≠ N := by omega
    have hvN : vb ≠ N := by omega
    obtain ⟨C0, hC0⟩ : ∃ C0, C0 = (l.take i).flatMap icells ++ Z := ⟨_, rfl⟩
    have hC0l : C0.length = G := by rw [hC0, List.length_append, htlen, hZ]; omega
    have hC0t : C0.take i = (l.take i).flatMap icells := by rw [hC0, List.take_left' htlen]
    obtain ⟨W1, hW1⟩ : ∃ W1, W1 = w.drew.alloc (.cells C0.toArray 3) := ⟨_, rfl⟩
    rw [← hC0, ← hW1, ← hN] at hrz
    have hrow1 : W1.heap[N]? = some (.cells C0.toArray 3 (0, 0)) := by rw [hW1, hN]; exact heap_alloc_new w.drew _
    have hold1 : ∀ k, k < N → W1.heap[k]? = w.heap[k]? := fun k hk => by rw [hW1]; exact heap_alloc_old w.drew _ (by rw [hN] at hk; exact hk)
    have hbW1 : Below B w W1 := by rw [hW1]; exact (Below.refl B w).drew.alloc hB _
    have hs1 : N < W1.heap.size := by rw [hW1, hN]; simp
    have hmn : Nat.min 1 (l.length + 1 - i) = 1 := by simp only [Nat.min_def]; split <;> omega
    have hmn2 : Nat.min (l.length - i) (l.length + 1 - (i + 1)) = l.length - i := by simp only [Nat.min_def]; split <;> omega
    have hr2 : (cap : Int) < (l.length : Int) + 1 := by omega
    have hw3 : IntKind.i64.wrap ((l.length : Int) + 1 - (i : Int)) = (l.length : Int) + 1 - (i : Int) := IntWalk.i64_in _ (by omega)
    have hGi : ¬ (G = i) := by omega
    have hGi1 : ¬ (G = i + 1) := by omega
    have hb6 : (i : Int) + 1 ≤ (l.length : Int) + 1 := by omega
    have hb7 : (i : Int) ≤ (l.length : Int) + 1 := by omega
    have hgn : g < N := by omega
    have hvn : vb < N := by omega
    have Hf := Lib.hid hf; clear hf
    have H1 := Lib.hid h1; clear h1
    have Hv := Lib.hid hvcell; clear hvcell
    have Hgt := Lib.hid hgt; clear hgt
    have Hflat := Lib.hid hflat; clear hflat
    have Hlr := Lib.hid hlr; clear hlr
    have Hdlen := Lib.hid hdlen; clear hdlen
    have Htlen := Lib.hid htlen; clear htlen
    have Hone := Lib.hid hone1; clear hone1
    have Honex := Lib.hid honex; clear honex
    have Hxl := Lib.hid hxl; clear hxl
    have Hmn := Lib.hid hmn; clear hmn
    have Hmn2 := Lib.hid hmn2; clear hmn2
    have Hrz := Lib.hid hrz; clear hrz
    have Hrow1 := Lib.hid hrow1; clear hrow1
    have Hold1 := Lib.hid hold1; clear hold1
    have HC0l := Lib.hid hC0l; clear hC0l
    have HC0t := Lib.hid hC0t; clear hC0t
    have hN' : w.heap.size ≤ N ∧ N ≤ w.heap.size := by omega
    clear ho hne hlen hcur hv hcl hct htake hszc hold hC0 hW1 hG hN hroom
    go_enter Try.func37, Try.ntmps37
    go_wp2_with (first
      | (at_builtin; refine Lib.wpList_append_run _ rfl _ _ _ _ rfl _ _ rfl rfl _ _ (Hrz.out _) ?_)
      | (refine list_cpy rfl (.tmp 43) (.tmp 44) 22 22 rfl 3 i0 1 Try.underlying22 hi0 hz1 (by decide) rfl rfl N i Hrow1.out (icells x) (by rw [Nat.mul_one, Hxl.out, Hmn.out]) (fun _ => ⟨rfl, _, rfl, Hv.out _ (Hold1.out vb hvn)⟩) (by rw [Hxl.out, HC0l.out]; omega) Honex.out ?_; intro w3 hc3 hg3; have Hc3 := Lib.hid hc3; have Hg3 := Lib.hid hg3; clear hc3 hg3))
    go_region_law (refine step_cpy rfl (.tmp 50) (.tmp 53) 22 22 rfl 3 i0 1 Try.underlying22 hi0 hz1 (by decide) (dp := some ⟨N, (i + 1), none⟩) (dLen := l.length + 1 - (i + 1)) (dCap := G - (i + 1)) (sp := some ⟨g, i, none⟩) (sLen := l.length - i) (sCap := cap - i) (by simp [Act.eval, Act.put]) (by simp [Act.eval, Act.put]) N ((i + 1)) Hc3.out ((l.drop i).flatMap icells) (by rw [Nat.mul_one, Hdlen.out, Hmn2.out]) (fun _ => ⟨rfl, _, rfl, Hgt.out _ ((Hg3.out.block g (by omega) (fun e => hgN (Option.some.inj e))).trans (Hold1.out g hgn))⟩) (by rw [Hdlen.out, length_splice _ _ _ (by rw [Hxl.out, HC0l.out]; omega), HC0l.out]; omega) Hone.out ?_; intro w2 hc2 hg2; have Hc2 := Lib.hid hc2; have Hg2 := Lib.hid hg2; clear hc2 hg2)
    go_wp2_with fail
    go_ret
    refine ⟨some ⟨N, 0, none⟩, G, by rw [Hlr.out]; rfl, ?_, (((hbW1.grown Hg3.out (by omega) (fun k hk => by injection hk with hk; omega)).drew).grown Hg2.out (by have := Hg3.out.size; show B ≤ w3.heap.size; omega) (fun k hk => by injection hk with hk; omega)), fun k h1 h2 => ?_, .inr ⟨N, by omega, rfl⟩⟩
    rotate_left
    · exact (Hg2.out.block k (by have := Hg3.out.size; show k < w3.heap.size; omega) (fun e => by have := Option.some.inj e; omega)).trans ((Hg3.out.block k (by omega) (fun e => by have := Option.some.inj e; omega)).trans (Hold1.out k (by omega)))
    rw [Hlr.out]
    refine row_own (by omega) Hc2.out hG1 hG63 (by rw [length_splice _ _ _ (by rw [Hdlen.out, length_splice _ _ _ (by rw [Hxl.out, HC0l.out]; omega), HC0l.out]; omega), length_splice _ _ _ (by rw [Hxl.out, HC0l.out]; omega), HC0l.out, Nat.mul_one]) ?_ (by rw [Nat.mul_one, Hflat.out, List.length_append, List.length_append, Htlen.out, Hdlen.out, Hxl.out]; omega)
    have := ins_fresh C0 ((l.drop i).flatMap icells) (icells x) i ((i + 1)) (by rw [Hxl.out]) (by rw [Hdlen.out, HC0l.out]; omega)
    rw [Hflat.out, ← HC0t.out, ← this, Hdlen.out]
    congr 1
    try omega

end Go.Proofs.Ytigffndobddflaa
