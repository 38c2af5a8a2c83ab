/- The abstract evaluator, part 11: a drawn region whole, sound. -/
import Derived.Test.YthiblfkmcdnalaaGreatAe10b
namespace Go.Proofs.YthiblfkmcdnalaaGreat.Ae
open Go.RowKit

noncomputable def tgtW (tm : List AV) : List Oper → List Nat
  | [] => []
  | o :: r => match o.op with
    | .store _ a _ => match rho tm a with
      | some (.e (.l (.p b _))) => b :: tgtW tm r
      | _ => tgtW tm r
    | _ => tgtW tm r
noncomputable def boW (m : Nat) (W : List Nat) (i : Nat) : List Nat :=
  match m.testBit i with
  | true => []
  | false => W
section
variable {P : Program}
noncomputable def evTailL (P : Program) (ok : Nat → Bool) (call : Call) (ops : List Oper) (lo : Nat) (fes : List Fe) (m : Nat) (W : List Nat) : List Oper → St → Option St
  | [], st => some st
  | o :: r, st => match stepL P ok call ops lo fes m W o st with
    | some st' => evTailL P ok call ops lo fes m W r st'
    | none => none
noncomputable def evLate (P : Program) (ok : Nat → Bool) (call : Call) (ops : List Oper) (lo : Nat) (st : St) (m : Nat) (W : List Nat) : Option St :=
  match evFront P ok call ops st.tm st.hp (boW m W) ops [] st.nx with
  | (_, []) => none
  | (fes, o :: r) => match maskOf fes (afters o) with
    | some m' => match Nat.beq m' m && tailsOk fes.length (o :: r) && lateOk m fes 0 fes with
      | true => evTailL P ok call ops lo fes m W (o :: r) ⟨finT fes st.tm, finH fes st.hp, finN fes st.nx⟩
      | false => none
    | none => none
noncomputable def evDraw (P : Program) (ok : Nat → Bool) (call : Call) (ops : List Oper) (lo : Nat) (st : St) : Option St :=
  match evFront P ok call ops st.tm st.hp (fun _ => []) ops [] st.nx with
  | (fes, []) => some ⟨finT fes st.tm, finH fes st.hp, finN fes st.nx⟩
  | (fes, o :: r) => match maskOf fes (afters o) with
    | some m => match tailsOk fes.length (o :: r) with
      | true => match Nat.beq m (2 ^ fes.length - 1) with
        | true => evOps P ok call ops lo (o :: r) ⟨finT fes st.tm, finH fes st.hp, finN fes st.nx⟩
        | false => evLate P ok call ops lo st m (tgtW (finT fes st.tm) (o :: r))
      | false => none
    | none => none
theorem stepL_nx {ok : Nat → Bool} {call : Call} {ops : List Oper} {lo : Nat} {fes : List Fe} {m : Nat} {W : List Nat} {o : Oper} {st st' : St} (h : stepL P ok call ops lo fes m W o st = some st') : st'.nx = st.nx := by
  unfold stepL at h
  split at h
  case h_2 => cases h
  split at h
  case h_2 => cases h
  split at h
  · split at h
    case h_2 => cases h
    split at h
    case h_2 => cases h
    split at h
    · split at h
      case h_2 => cases h
      split at h
      case h_2 => cases h
      injection h with h; rw [← h]
    · injection h with h; rw [← h]
    · injection h with h; rw [← h]
    · cases h
  · injection h with h; rw [← h]
  · cases h
theorem evTailL_nx {ok : Nat → Bool} {call : Call} {ops : List Oper} {lo : Nat} {fes : List Fe} {m : Nat} {W : List Nat} : ∀ {l : List Oper} {st st' : St}, evTailL P ok call ops lo fes m W l st = some st' → st'.nx = st.nx
  | [], st, st', h => by injection h with h; rw [h]
  | o :: r, st, st', h => by
    unfold evTailL at h
    split at h
    case h_2 => cases h
    rename_i st1 h1
    rw [evTailL_nx h, stepL_nx h1]
theorem evLate_le {ok : Nat → Bool} {call : Call} {ops : List Oper} {lo : Nat} {st st' : St} {m : Nat} {W : List Nat} (h : evLate P ok call ops lo st m W = some st') : st.nx ≤ st'.nx := by
  unfold evLate at h
  split at h
  · cases h
  · rename_i fes o r' he
    obtain ⟨r, h1, h2, _⟩ := finN_le he
    rw [List.nil_append] at h1
    subst h1
    split at h
    case h_2 => cases h
    split at h
    case h_2 => cases h
    rw [evTailL_nx h]
    exact h2
theorem evDraw_le {ok : Nat → Bool} {call : Call} {ops : List Oper} {lo : Nat} {st st' : St} (h : evDraw P ok call ops lo st = some st') : st.nx ≤ st'.nx := by
  unfold evDraw at h
  split at h
  · rename_i fes he
    injection h with h
    subst h
    obtain ⟨r, h1, h2, _⟩ := finN_le he
    rw [List.nil_append] at h1
    subst h1
    exact h2
  · rename_i fes o r' he
    obtain ⟨r, h1, h2, _⟩ := finN_le he
    rw [List.nil_append] at h1
    subst h1
    split at h
    case h_2 => cases h
    split at h
    case h_2 => cases h
    split at h
    · exact Nat.le_trans h2 (evOps_le h)
    · exact evLate_le h
theorem Dz.add {fes : List Fe} {tm0 : List AV} {hp0 : Hp} {nx0 lo m : Nat} {W : List Nat} {st : St} {φ0 φ : Mp} {a0 a : Act} {w0 w : World} {S S' : Nat → Bool} (hD : Dz fes tm0 hp0 nx0 lo m W st φ0 a0 w0 S φ a w) (h1 : ∀ k, k < fes.length → S' k = S k) (h2 : ∀ k, S k = true → S' k = true) : Dz fes tm0 hp0 nx0 lo m W st φ0 a0 w0 S' φ a w :=
  ⟨hD.ext, fun t y hy hno => hD.tm t y hy fun k f hk hS => hno k f hk (by rw [h1 k (List.getElem?_eq_some_iff.1 hk).1]; exact hS), hD.size, hD.len, hD.r, hD.fr, hD.keep,
    fun i f hi hS k hk => h2 k (hD.cl i f hi (by rw [← h1 i (List.getElem?_eq_some_iff.1 hi).1]; exact hS) k hk), fun k f hk hm => h2 k (hD.done k f hk hm), hD.ltm, hD.llk, hD.defers⟩
theorem set_getD {L : Array Bool} {i : Nat} (hi : i < L.size) (k : Nat) : (L.setIfInBounds i true).getD k false = addS (fun k => L.getD k false) i k := by
  unfold addS
  simp only [Array.getD_eq_getD_getElem?]
  by_cases hk : k = i
  · subst hk
    rw [if_pos rfl, Array.getElem?_setIfInBounds_self, if_pos hi]
    rfl
  · rw [if_neg hk, Array.getElem?_setIfInBounds_ne (Ne.symm hk)]
theorem getD_both {L : Array Bool} {k : Nat} (hk : k < L.size) (b b' : Bool) : L.getD k b = L.getD k b' := by
  simp only [Array.getD_eq_getD_getElem?, Array.getElem?_eq_getElem hk, Option.getD_some]
/-- one less to come -/
theorem pend_erase {s : Nat} {L : Array Bool} {i : Nat} (his : i < s) (hi : i < L.size) (hun : L.getD i false = false) {n : Nat} (hn : ((List.range s).filter fun k => !L.getD k false).length = n + 1) : ((List.range s).filter fun k => !(L.setIfInBounds i true).getD k false).length = n := by
  have hnd : (List.range s).Nodup := List.nodup_range
  have e : ((List.range s).filter fun k => !(L.setIfInBounds i true).getD k false) = ((List.range s).filter fun k => !L.getD k false).erase i := by
    rw [List.Nodup.erase_eq_filter (List.Pairwise.filter _ hnd), List.filter_filter]
    apply List.filter_congr
    intro k _
    rw [set_getD hi]
    unfold addS
    by_cases hk : k = i
    · subst hk; simp
    · simp [hk]
  rw [e, List.length_erase_of_mem (List.mem_filter.2 ⟨List.mem_range.2 his, by rw [hun]; rfl⟩), hn]
  rfl
theorem FS.aft {ok : Nat → Bool} {call : Call} {ops : List Oper} {tm : List AV} {hp0 : Hp} {bo : Nat → List Nat} {nx0 nx : Nat} {fes : List Fe} (hF : FS P ok call ops tm hp0 bo nx0 fes nx) {j : Nat} (hj : j < fes.length) : ∃ o, ops[j]? = some o ∧ ∀ k ∈ afters o, k < j := by
  obtain ⟨o, ho, hfe⟩ := hF.ev j _ (List.getElem?_eq_getElem hj)
  unfold feOf at hfe
  split at hfe
  case h_2 => cases hfe
  rename_i m hm
  refine ⟨o, ho, fun k hk => ?_⟩
  obtain ⟨f, h1, _⟩ := maskOf_up hm k hk
  rw [List.getElem?_take] at h1
  split at h1
  · assumption
  · cases h1
/-- the tail and what comes late, in whatever order -/
theorem late_any {ok : Nat → Bool} {call : Call} (hO : OkP P ok call) {ops : List Oper} {fes : List Fe} {tm0 : List AV} {hp0 : Hp} {nx0 nx lo m : Nat} {W : List Nat} {st' : St} {φ0 : Mp} {a0 : Act} {w0 : World} {bo : Nat → List Nat} (hF : FS P ok call ops tm0 hp0 bo nx0 fes nx) (hbo : ∀ k, m.testBit k = false → bo k = W)
    (hlt : lateOk m fes 0 fes = true) (hids0 : ∀ b ∈ hp0, b.id < nx0) (hidsd : ∀ (k : Nat) (f : Fe), fes[k]? = some f → ∀ b ∈ f.dl, b.id < f.n1) {Q : Exit → Act → World → Prop}
    (hQ : ∀ S φ a w, Dz fes tm0 hp0 nx0 lo m W st' φ0 a0 w0 S φ a w → (∀ k, k < fes.length → S k = true) → Q .normal a w) :
    ∀ (n : Nat) (l : List Oper) (i : Nat) (st : St) (L : Array Bool) (φ : Mp) (a : Act) (w : World), evTailL P ok call ops lo fes m W l st = some st' → ops.drop i = l → fes.length ≤ i → i + l.length = ops.length → tailsOk i l = true → L.size = ops.length → (∀ k, fes.length ≤ k → L.getD k false = decide (k < i)) →
      l.length + ((List.range fes.length).filter fun k => !L.getD k false).length = n → Dz fes tm0 hp0 nx0 lo m W st φ0 a0 w0 (fun k => L.getD k false) φ a w → wpAny P .any ops.toArray Q n L a w := by
  intro n
  induction n with
  | zero =>
    intro l i st L φ a w hev hl hsi hn ht hs hL hcount hD
    have hl0 : l = [] := List.eq_nil_of_length_eq_zero (by omega)
    subst hl0
    injection hev with hev
    subst hev
    have hp0' : ((List.range fes.length).filter fun k => !L.getD k false) = [] := List.eq_nil_of_length_eq_zero (by simp at hcount; simpa using hcount)
    have hall : ∀ k, k < fes.length → L.getD k false = true := fun k hk => by
      have : k ∉ (List.range fes.length).filter fun k => !L.getD k false := by rw [hp0']; simp
      rw [List.mem_filter, List.mem_range] at this
      cases hq : L.getD k false with
      | true => rfl
      | false => exact absurd ⟨hk, by rw [hq]; rfl⟩ this
    refine ⟨?_, hQ _ φ a w hD hall⟩
    cases hq : Region.ready .any ops.toArray L with
    | nil => rfl
    | cons k r =>
      have : k ∈ Region.ready .any ops.toArray L := by rw [hq]; exact List.mem_cons_self
      obtain ⟨o, ho, h1, _⟩ := ready_iff.1 this
      have hk := (List.getElem?_eq_some_iff.1 ho).1
      rw [getD_both (by omega) true false] at h1
      simp at hn
      rcases Nat.lt_or_ge k fes.length with h | h
      · rw [hall k h] at h1; cases h1
      · rw [hL k h, decide_eq_true (by omega)] at h1; cases h1
  | succ n ih =>
    intro l i st L φ a w hev hl hsi hn ht hs hL hcount hD
    have hunl : ∀ {k}, k < ops.length → L.getD k true = false → L.getD k false = false := fun hk h => by rwa [getD_both (by omega) true false] at h
    refine ⟨fun hnil => ?_, fun j hj => ?_⟩
    · exfalso
      by_cases hpend : ∃ k, k < fes.length ∧ L.getD k false = false
      · -- the least that has not come
        have key : ∀ q k, k ≤ q → k < fes.length → L.getD k false = false → ∃ k, k < fes.length ∧ L.getD k false = false ∧ ∀ i, i < k → L.getD i false = true := by
          intro q
          induction q with
          | zero => intro k hm h1 h2; exact ⟨k, h1, h2, fun i hi => by omega⟩
          | succ q ihm =>
            intro k hm h1 h2
            by_cases hall : ∀ i, i < k → L.getD i false = true
            · exact ⟨k, h1, h2, hall⟩
            · obtain ⟨i, hi⟩ := Classical.not_forall.1 hall
              have hik : i < k := Classical.byContradiction fun h => hi fun h' => absurd h' h
              have : L.getD i false = false := by
                cases hq : L.getD i false with
                | false => rfl
                | true => exact absurd (fun _ => hq) hi
              exact ihm i (by omega) (by omega) this
        obtain ⟨k0, h1, h2⟩ := hpend
        obtain ⟨k, hk1, hk2, hk3⟩ := key k0 k0 (Nat.le_refl _) h1 h2
        obtain ⟨o, ho, haf⟩ := hF.aft hk1
        have : k ∈ Region.ready .any ops.toArray L := ready_iff.2 ⟨o, ho, by rw [getD_both (by omega) true false]; exact hk2, fun j hj => hk3 j (haf j hj)⟩
        rw [hnil] at this
        cases this
      · have hall : ∀ k, k < fes.length → L.getD k false = true := fun k hk => by
          cases hq : L.getD k false with
          | true => rfl
          | false => exact absurd ⟨k, hk, hq⟩ hpend
        cases l with
        | nil =>
          have : ((List.range fes.length).filter fun k => !L.getD k false) = [] := by
            rw [List.filter_eq_nil_iff]
            intro k hk
            rw [hall k (List.mem_range.1 hk)]
            simp
          rw [this] at hcount
          simp at hcount
        | cons o r =>
          have ho : ops[i]? = some o := by
            have : (ops.drop i)[0]? = some o := by rw [hl]; rfl
            rwa [List.getElem?_drop, Nat.add_zero] at this
          have hil := (List.getElem?_eq_some_iff.1 ho).1
          simp only [tailsOk, Bool.and_eq_true] at ht
          have : i ∈ Region.ready .any ops.toArray L := ready_iff.2 ⟨o, ho, by
            rw [getD_both (by omega) true false, hL i hsi]
            exact decide_eq_false (by omega), fun j hj => by
            have hji := Nat.le_of_ble_eq_true (List.all_eq_true.1 ht.1.1 j hj)
            rcases Nat.lt_or_ge j fes.length with h | h
            · exact hall j h
            · rw [hL j h]; exact decide_eq_true hji⟩
          rw [hnil] at this
          cases this
    · obtain ⟨o, ho, hun, haf⟩ := ready_iff.1 hj
      have hjl := (List.getElem?_eq_some_iff.1 ho).1
      have hun := hunl hjl hun
      have ho' : ops.toArray[j]? = some o := by simpa using ho
      unfold wpOp
      rw [ho']
      simp only
      rcases Nat.lt_or_ge j fes.length with hjs | hjs
      · -- one that comes late
        have hfe : fes[j]? = some fes[j] := List.getElem?_eq_getElem hjs
        obtain ⟨p, hp⟩ : ∃ p, ((List.range fes.length).filter fun k => !L.getD k false).length = p + 1 := by
          refine ⟨((List.range fes.length).filter fun k => !L.getD k false).length - 1, ?_⟩
          have : j ∈ (List.range fes.length).filter fun k => !L.getD k false := List.mem_filter.2 ⟨List.mem_range.2 hjs, by rw [hun]; rfl⟩
          have := List.length_pos_of_mem this
          omega
        have := dz_late hO hF hbo hlt hids0 hidsd hD hfe ho hun haf (K := fun a' w' => wpAny P .any ops.toArray Q n (L.setIfInBounds j true) a' w') (Q := Q) (fun φ' a' w' hD' => by
          refine ih l i st (L.setIfInBounds j true) φ' a' w' hev hl hsi hn ht (by simpa using hs) (fun k hk => ?_) ?_ ?_
          · rw [set_getD (by omega), addS_ne (by omega)]; exact hL k hk
          · rw [pend_erase hjs (by omega) hun hp]; omega
          · have : (fun k => (L.setIfInBounds j true).getD k false) = addS (fun k => L.getD k false) j := funext (set_getD (by omega))
            rw [this]
            exact hD')
        split
        · rename_i hw
          rw [if_pos hw] at this
          exact .inl this
        · rename_i hw
          rw [if_neg hw] at this
          exact this
      · -- the next of the tail
        rw [hL j hjs] at hun
        have hij : i ≤ j := by have := of_decide_eq_false hun; omega
        cases l with
        | nil => simp at hn; omega
        | cons o1 r =>
          have ho1 : ops[i]? = some o1 := by
            have : (ops.drop i)[0]? = some o1 := by rw [hl]; rfl
            rwa [List.getElem?_drop, Nat.add_zero] at this
          have hr : ops.drop (i + 1) = r := by
            have : (ops.drop i).drop 1 = r := by rw [hl]; rfl
            rwa [List.drop_drop] at this
          simp only [tailsOk, Bool.and_eq_true] at ht
          obtain ⟨⟨t1, t2⟩, t3⟩ := ht
          have hji : j = i := by
            rcases Nat.eq_or_lt_of_le hij with e | hlt'
            · exact e.symm
            · exfalso
              have hmem : o ∈ r := by
                have : r[j - (i + 1)]? = some o := by
                  rw [← hr, List.getElem?_drop]
                  rwa [show i + 1 + (j - (i + 1)) = j by omega]
                exact List.mem_of_getElem? this
              obtain ⟨q, hq1, hq2⟩ := List.any_eq_true.1 (List.all_eq_true.1 t2 o hmem)
              have h5 := Nat.le_of_ble_eq_true hq2
              have := haf q hq1
              rw [hL q (by omega)] at this
              have := of_decide_eq_true this
              omega
          subst hji
          rw [ho] at ho1
          injection ho1 with ho1
          subst ho1
          unfold evTailL at hev
          split at hev
          case h_2 => cases hev
          rename_i st1 h1
          have := dz_tail hO hF hD h1 (fun k hk => haf k (below_mem hk).1) (K := fun a' w' => wpAny P .any ops.toArray Q n (L.setIfInBounds j true) a' w') (Q := Q) (fun φ' a' w' hD' => by
            refine ih r (j + 1) st1 (L.setIfInBounds j true) φ' a' w' hev hr (by omega) (by simp at hn; omega) t3 (by simpa using hs) (fun k hk => ?_) ?_ ?_
            · rw [set_getD (by omega)]
              unfold addS
              by_cases hkj : k = j
              · subst hkj; rw [if_pos rfl, decide_eq_true (by omega)]
              · rw [if_neg hkj]
                show L.getD k false = _
                rw [hL k hk, Bool.eq_iff_iff]
                simp only [decide_eq_true_eq]
                omega
            · have : ((List.range fes.length).filter fun k => !(L.setIfInBounds j true).getD k false) = ((List.range fes.length).filter fun k => !L.getD k false) := by
                apply List.filter_congr
                intro k hk
                have := List.mem_range.1 hk
                rw [set_getD (by omega), addS_ne (by omega)]
              rw [this]
              rw [List.length_cons] at hcount
              omega
            · refine hD'.add (fun k hk => ?_) fun k hk => ?_
              · rw [set_getD (by omega), addS_ne (by omega)]
              · rw [set_getD (by omega)]
                exact addS_of hk)
          split
          · rename_i hw
            rw [if_pos hw] at this
            exact .inl this
          · rename_i hw
            rw [if_neg hw] at this
            exact this
theorem Goes.undrew {lo : Nat} {φ φ' : Mp} {st st' : St} {a a' : Act} {w w' : World} {d : Nat} (h : Goes lo φ st a { w with drawn := d } φ' st' a' w') : Goes lo φ st a w φ' st' a' w' :=
  ⟨h.ext, h.rt, h.r, ⟨h.fr.os, h.fr.tape, h.fr.output, h.fr.size, h.fr.blk, h.fr.wr⟩, h.defers⟩

theorem Dy.to_go {fes : List Fe} {st : St} {nx : Nat} {lo : Nat} {φ φ' : Mp} {a a' : Act} {w1 w' : World} {S : Nat → Bool} (hR1 : R φ st.hp st.nx w1) (hnx : nx = finN fes st.nx) (hD : Dy fes st.tm st.hp st.nx nx φ a w1 S φ' a' w') (hall : ∀ (k : Nat) (fe : Fe), fes[k]? = some fe → S k = true) : Goes lo φ st a w1 φ' ⟨finT fes st.tm, finH fes st.hp, finN fes st.nx⟩ a' w' := by
  subst hnx
  have hsub : ∀ b ∈ finH fes st.hp, b ∈ hpF S 0 fes st.hp := fun b hb => by
    rcases finH_mem hb with hb | ⟨i, fe, h1, h2⟩
    · exact hpF_mem.2 (.inl hb)
    · exact hpF_mem.2 (.inr ⟨i, fe, h1, by rw [Nat.zero_add]; exact hall i fe h1, h2⟩)
  refine ⟨hD.ext, ⟨?_, ?_⟩, hD.r.drop hsub, ⟨hD.below.os, hD.below.tape, hD.below.output, hD.below.size, fun g hg _ => hD.below.block g hg, ?_⟩, hD.defers⟩
  · rw [finT_length]
    have := hD.size
    simp
    omega
  · intro t y v hy hv
    rw [← tmp_eval hv]
    rcases finT_get hy with ⟨k, fe, h1, h2, rfl⟩ | ⟨h1, h2⟩
    · exact hD.wr k fe t h1 (hall k fe h1) h2
    · exact hD.nwr t (fun k fe hk _ => h1 fe (List.mem_of_getElem? hk)) y h2
  · rintro g ⟨b, hb, hlo, κ, hg⟩
    rcases finH_mem hb with hb | ⟨i, fe, h1, h2⟩
    · obtain ⟨g', κ', arr, e1, _⟩ := hR1.blk b hb
      have e2 := hD.ext.sub _ _ e1
      rw [e2] at hg
      injection hg with hg
      injection hg with hg hg'
      subst hg; subst hg'
      exact .inr ⟨b, hb, hlo, _, e1⟩
    · exact .inl ((hD.new i fe h1 (hall i fe h1) b h2).2.2 g κ hg)
theorem Dy.to_dz {ok : Nat → Bool} {call : Call} {ops : List Oper} {bo : Nat → List Nat} {fes : List Fe} {st : St} {lo m : Nat} {W : List Nat} {φ φ' : Mp} {a a' : Act} {w1 w' : World} {S : Nat → Bool} (hF : FS P ok call ops st.tm st.hp bo st.nx fes (finN fes st.nx)) (hlt : lateOk m fes 0 fes = true) (hR1 : R φ st.hp st.nx w1) (hD : Dy fes st.tm st.hp st.nx (finN fes st.nx) φ a w1 S φ' a' w') (hm : ∀ (k : Nat) (fe : Fe), fes[k]? = some fe → m.testBit k = true → S k = true) :
    Dz fes st.tm st.hp st.nx lo m W ⟨finT fes st.tm, finH fes st.hp, finN fes st.nx⟩ φ a w1 S φ' a' w' := by
  have hlate : ∀ (k : Nat) (fe : Fe), fes[k]? = some fe → S k = false → fe.dl = [] := fun k fe hk hS => by
    have : m.testBit k = false := by
      cases hq : m.testBit k with
      | false => rfl
      | true => rw [hm k fe hk hq] at hS; cases hS
    exact (lateOk_spec hlt k fe hk (by rw [Nat.zero_add]; exact this)).2.1
  have hsub : ∀ b ∈ finH fes st.hp, b ∈ hpF S 0 fes st.hp := fun b hb => by
    rcases finH_mem hb with hb | ⟨i, fe, h1, h2⟩
    · exact hpF_mem.2 (.inl hb)
    · cases hq : S i with
      | true => exact hpF_mem.2 (.inr ⟨i, fe, h1, by rw [Nat.zero_add]; exact hq, h2⟩)
      | false => rw [hlate i fe h1 hq] at h2; cases h2
  refine ⟨hD.ext, ?_, by rw [finT_length]; exact hD.size, finT_length _ _, hD.r.drop hsub, ⟨hD.below.os, hD.below.tape, hD.below.output, hD.below.size, fun g hg _ => hD.below.block g hg, ?_⟩, fun b hb _ => hb, hD.cl, hm, ?_, fun _ _ _ _ _ _ => rfl, hD.defers⟩
  · intro t y hy hno
    rcases finT_get hy with ⟨k, fe, h1, h2, rfl⟩ | ⟨h1, h2⟩
    · cases hq : S k with
      | true => exact hD.wr k fe t h1 hq h2
      | false => exact absurd h2 (hno k fe h1 hq)
    · exact hD.nwr t (fun k fe hk _ => h1 fe (List.mem_of_getElem? hk)) y h2
  · rintro g ⟨b, hb, hlo, κ, hg⟩
    rcases finH_mem hb with hb | ⟨i, fe, h1, h2⟩
    · obtain ⟨g', κ', arr, e1, _⟩ := hR1.blk b hb
      have e2 := hD.ext.sub _ _ e1
      rw [e2] at hg
      injection hg with hg
      injection hg with hg hg'
      subst hg; subst hg'
      exact .inr ⟨b, hb, hlo, _, e1⟩
    · cases hq : S i with
      | true => exact .inl ((hD.new i fe h1 hq b h2).2.2 g κ hg)
      | false => rw [hlate i fe h1 hq] at h2; cases h2
  · intro k fe t y hk _ hd hy
    rcases finT_get hy with ⟨k', fe', h1, h2, h3⟩ | ⟨h1, _⟩
    · have := hF.dst_ne hk h1 hd h2
      subst this
      rw [hk] at h1
      injection h1 with h1
      subst h1
      exact h3
    · exact absurd hd (h1 fe (List.mem_of_getElem? hk))
theorem Dz.to_go {fes : List Fe} {st st' : St} {lo m : Nat} {W : List Nat} {φ φ' : Mp} {a a' : Act} {w1 w' : World} {S : Nat → Bool} (hD : Dz fes st.tm st.hp st.nx lo m W st' φ a w1 S φ' a' w') (hall : ∀ k, k < fes.length → S k = true) : Goes lo φ st a w1 φ' st' a' w' := by
  refine ⟨hD.ext, ⟨?_, ?_⟩, hD.r, hD.fr, hD.defers⟩
  · have := hD.size
    simp
    omega
  · intro t y v hy hv
    rw [← tmp_eval hv]
    exact hD.tm t y hy fun k fe hk hS => by
      rw [hall k (List.getElem?_eq_some_iff.1 hk).1] at hS
      cases hS
/-- how a drawn region begins -/
theorem dy_start {fes : List Fe} {st : St} {nx n' : Nat} {φ : Mp} {a : Act} {w1 : World} {ok : Nat → Bool} {call : Call} {ops : List Oper} {bo : Nat → List Nat} (hF : FS P ok call ops st.tm st.hp bo st.nx fes nx) (hT : RT φ st.tm a) (hR1 : R φ st.hp st.nx w1) (hf : Fresh φ st.nx n') (hle : nx ≤ n') (N : Nat) :
    Dy fes st.tm st.hp st.nx nx φ a w1 (fun k => (Array.replicate N false).getD k false) φ a w1 := by
  have hrep : ∀ k, (Array.replicate N false).getD k false = false := fun k => by
    simp only [Array.getD_eq_getD_getElem?, Array.getElem?_replicate]
    split <;> rfl
  refine ⟨⟨fun _ _ h => h, fun _ _ => rfl, hF.le⟩, ?_, ?_, ?_, ?_, ?_, hR1.lo, ?_, .refl _ _, ?_, rfl⟩
  · intro i fe hi _
    have := hF.rng i fe hi
    exact fun q h1 h2 => hf q (by omega) (by omega)
  · intro k fe t _ hS
    simp only [hrep] at hS
    cases hS
  · intro t _ y hy
    obtain ⟨v, h1, h2⟩ := hT.get hy
    rw [tmp_eval h1]
    exact h2
  · have := hT.len
    simp at this
    exact this.symm
  · have hsub : ∀ b ∈ hpF (fun k => (Array.replicate N false).getD k false) 0 fes st.hp, b ∈ st.hp := fun b hb => by
      rcases hpF_mem.1 hb with hb | ⟨i, fe, _, h2, _⟩
      · exact hb
      · simp only [hrep] at h2
        cases h2
    have := hR1.drop hsub
    exact ⟨this.blk, fun b hb => by have := this.lo b hb; have := hF.le; omega, this.inj⟩
  · intro i fe _ hS
    simp only [hrep] at hS
    cases hS
  · intro i fe _ hS
    simp only [hrep] at hS
    cases hS
theorem rep_pend (s N : Nat) : ((List.range s).filter fun k => !(Array.replicate N false).getD k false).length = s := by
  rw [List.filter_eq_self.2]
  · simp
  · intro k _
    simp only [Array.getD_eq_getD_getElem?, Array.getElem?_replicate]
    split <;> rfl
theorem rep_out (N k : Nat) : (Array.replicate N false).getD k false = false := by
  simp only [Array.getD_eq_getD_getElem?, Array.getElem?_replicate]
  split <;> rfl
theorem tails_out {ops tl : List Oper} {s : Nat} (hdrop : ops.drop s = tl) (htok : tailsOk s tl = true) : ∀ i o, s < i → ops[i]? = some o → ∃ j ∈ afters o, s ≤ j := fun i o hi ho => by
  have hq : tl[i - s]? = some o := by
    rw [← hdrop, List.getElem?_drop, show s + (i - s) = i by omega]
    exact ho
  cases htl' : tl with
  | nil => rw [htl'] at hq; simp at hq
  | cons o0 r =>
    rw [htl'] at htok hq
    simp only [tailsOk, Bool.and_eq_true] at htok
    obtain ⟨k, hk⟩ : ∃ k, i - s = k + 1 := ⟨i - s - 1, by omega⟩
    rw [hk] at hq
    have hmem : o ∈ r := List.mem_of_getElem? hq
    obtain ⟨j, h1, h2⟩ := List.any_eq_true.1 (List.all_eq_true.1 htok.1.2 o hmem)
    exact ⟨j, h1, Nat.le_of_ble_eq_true h2⟩
theorem evLate_sound {ok : Nat → Bool} {call : Call} (hO : OkP P ok call) {ops : List Oper} {lo : Nat} {st st' : St} {m : Nat} {W : List Nat} (h : evLate P ok call ops lo st m W = some st') {φ : Mp} {a : Act} {w1 : World} (hT : RT φ st.tm a) (hR1 : R φ st.hp st.nx w1) (hf : Fresh φ st.nx st'.nx)
    {Q : Exit → Act → World → Prop} (hQ : ∀ φ' a' w', Goes lo φ st a w1 φ' st' a' w' → Q .normal a' w') : wpAny P .any ops.toArray Q ops.toArray.size (Array.replicate ops.toArray.size false) a w1 := by
  unfold evLate at h
  obtain ⟨fes, tl, he⟩ : ∃ fes tl, evFront P ok call ops st.tm st.hp (boW m W) ops [] st.nx = (fes, tl) := ⟨_, _, rfl⟩
  rw [he] at h
  obtain ⟨r0, q1, q2, q3⟩ := finN_le he
  rw [List.nil_append] at q1
  subst q1
  have hF := q3 st.nx ⟨fun i fe h => by simp at h, fun i fe h => by simp at h, fun i j fi fj h => by simp at h, Nat.le_refl _⟩ (by simp) (by simp)
  obtain ⟨pre, _, p1, p2, _⟩ := evFront_spec (nx0 := st.nx) (pre := []) he rfl rfl ⟨fun i fe h => by simp at h, fun i fe h => by simp at h, fun i j fi fj h => by simp at h, Nat.le_refl _⟩
  have hlen : ops.length = fes.length + tl.length := by rw [p1, List.length_append, p2]
  have hdrop : ops.drop fes.length = tl := by rw [p1, p2]; simp
  cases tl with
  | nil => cases h
  | cons o r =>
    simp only at h
    split at h
    case h_2 => cases h
    rename_i m' hm'
    split at h
    case h_2 => cases h
    rename_i hb
    simp only [Bool.and_eq_true] at hb
    obtain ⟨⟨b1, htok⟩, hlt⟩ := hb
    obtain rfl := Nat.eq_of_beq_eq_true b1
    have hnx := evTailL_nx h
    simp only at hnx
    have hsz : ops.toArray.size = ops.length := by simp
    have ho : ops[fes.length]? = some o := by
      have : (ops.drop fes.length)[0]? = some o := by rw [hdrop]; rfl
      rwa [List.getElem?_drop, Nat.add_zero] at this
    have hbo : ∀ k, m'.testBit k = false → boW m' W k = W := fun k hk => by unfold boW; rw [hk]
    have late : ∀ (n : Nat) (L : Array Bool) (φ' : Mp) (a' : Act) (w' : World), ((List.range fes.length).filter fun k => !L.getD k false).length = n → L.size = ops.length → (∀ k, fes.length ≤ k → L.getD k false = false) → Dy fes st.tm st.hp st.nx (finN fes st.nx) φ a w1 (fun k => L.getD k false) φ' a' w' →
        (∀ (k : Nat) (fe : Fe), fes[k]? = some fe → m'.testBit k = true → L.getD k false = true) → wpAny P .any ops.toArray Q ((o :: r).length + n) L a' w' := by
      intro n L φ' a' w' hn hs hout hD hm
      refine late_any hO hF hbo hlt hD.ids (fun k f hk b hb => ?_) (fun S φ'' a'' w'' hz hall => hQ φ'' a'' w'' (hz.to_go hall)) _ (o :: r) fes.length _ L φ' a' w' h hdrop (Nat.le_refl _) hlen.symm htok hs (fun k hk => by rw [hout k hk, decide_eq_false (by omega)]) (by rw [hn]) (hD.to_dz hF hlt hR1 hm)
      -- blocks of the front
      have hlk : ∃ S : Nat → Bool, True := ⟨fun _ => true, trivial⟩
      cases hq : L.getD k false with
      | true => exact (hD.new k f hk hq b hb).2.1
      | false =>
        have hmk : m'.testBit k = false := by
          cases hq2 : m'.testBit k with
          | false => rfl
          | true => rw [hm k f hk hq2] at hq; cases hq
        have := (lateOk_spec hlt k f hk (by rw [Nat.zero_add]; exact hmk)).2.1
        rw [this] at hb; cases hb
    have := front_any hO hF (by omega) (tails_out hdrop htok) (φ0 := φ) (a0 := a) (w0 := w1) (fuel := (o :: r).length) (Q := Q) (fun n L φ' a' w' hn hs hout hD _ hrd => ?_) (fun L φ' a' w' hL1 hL2 hD => ?_) fes.length (Array.replicate ops.toArray.size false) φ a w1 (rep_pend _ _) (by simp) (fun k _ => rep_out _ k) (dy_start hF hT hR1 hf (by omega) _)
    · have e : ops.toArray.size = (o :: r).length + fes.length := by rw [hsz, hlen, Nat.add_comm]
      rw [e] at this ⊢
      exact this
    · refine late n L φ' a' w' hn hs hout hD fun k fe hk hmk => ?_
      obtain ⟨o2, ho2, _, haf⟩ := ready_iff.1 hrd
      rw [ho] at ho2
      injection ho2 with ho2
      subst ho2
      obtain ⟨j, h1, h2⟩ := maskOf_down hm' k hmk
      rcases h2 with rfl | ⟨f, h3, h4⟩
      · exact haf k h1
      · exact hD.cl j f h3 (haf j h1) k h4
    · refine late 0 L φ' a' w' ?_ hL1 (fun k hk => by rw [hL2 k, decide_eq_false (by omega)]) hD fun k fe hk _ => by rw [hL2 k]; exact decide_eq_true (List.getElem?_eq_some_iff.1 hk).1
      rw [List.length_eq_zero_iff, List.filter_eq_nil_iff]
      intro k hk
      rw [hL2 k, decide_eq_true (List.mem_range.1 hk)]
      simp
theorem evDraw_sound (hm : P.follows .mixedOrders = true) {ok : Nat → Bool} {call : Call} (hO : OkP P ok call) {ops : List Oper} {lo : Nat} {st st' : St} (h : evDraw P ok call ops lo st = some st') {φ : Mp} {a : Act} {w : World} (hT : RT φ st.tm a) (hR : R φ st.hp st.nx w) (hf : Fresh φ st.nx st'.nx)
    {Q : Exit → Act → World → Prop} {id : Nat} (hQ : ∀ φ' a' w', Goes lo φ st a w φ' st' a' w' → Q .normal a' w') : (Code.region id ops.toArray true).wp P Q a w := by
  refine wp_region_any hm ?_
  obtain ⟨w1, hw1⟩ : ∃ w1, w1 = ({ w with drawn := w.drawn + 1 } : World) := ⟨_, rfl⟩
  have hR1 : R φ st.hp st.nx w1 := by subst hw1; exact ⟨fun b hb => hR.blk b hb, hR.lo, hR.inj⟩
  have hQ1 : ∀ φ' a' w', Goes lo φ st a w1 φ' st' a' w' → Q .normal a' w' := fun φ' a' w' hg => by subst hw1; exact hQ φ' a' w' hg.undrew
  rw [← hw1]
  clear hw1 hQ hR
  unfold evDraw at h
  obtain ⟨fes, tl, he⟩ : ∃ fes tl, evFront P ok call ops st.tm st.hp (fun _ => []) ops [] st.nx = (fes, tl) := ⟨_, _, rfl⟩
  rw [he] at h
  obtain ⟨r0, q1, q2, q3⟩ := finN_le he
  rw [List.nil_append] at q1
  subst q1
  have hF := q3 st.nx ⟨fun i fe h => by simp at h, fun i fe h => by simp at h, fun i j fi fj h => by simp at h, Nat.le_refl _⟩ (by simp) (by simp)
  obtain ⟨pre, _, p1, p2, _⟩ := evFront_spec (nx0 := st.nx) (pre := []) he rfl rfl ⟨fun i fe h => by simp at h, fun i fe h => by simp at h, fun i j fi fj h => by simp at h, Nat.le_refl _⟩
  have hlen : ops.length = fes.length + tl.length := by rw [p1, List.length_append, p2]
  have hdrop : ops.drop fes.length = tl := by rw [p1, p2]; simp
  have hsz : ops.toArray.size = ops.length := by simp
  have main : evOps P ok call ops lo tl ⟨finT fes st.tm, finH fes st.hp, finN fes st.nx⟩ = some st' → (∀ o, ops[fes.length]? = some o → ∀ k, k < fes.length → ∃ m, maskOf fes (afters o) = some m ∧ m.testBit k = true) → tailsOk fes.length tl = true → wpAny P .any ops.toArray Q ops.toArray.size (Array.replicate ops.toArray.size false) a w1 := by
    intro hev htl htok
    have hle2 := evOps_le hev
    simp only at hle2
    have := front_any hO hF (by omega) (tails_out hdrop htok) (φ0 := φ) (a0 := a) (w0 := w1) (fuel := tl.length) (Q := Q) (fun n L φ' a' w' hn hs hout hD hpos hrd => ?_) (fun L φ' a' w' hL1 hL2 hD => ?_) fes.length (Array.replicate ops.toArray.size false) φ a w1 (rep_pend _ _) (by simp) (fun k _ => rep_out _ k) (dy_start hF hT hR1 hf (by omega) _)
    · have e : ops.toArray.size = tl.length + fes.length := by rw [hsz, hlen, Nat.add_comm]
      rw [e] at this ⊢
      exact this
    · exfalso
      obtain ⟨o2, ho2, _, haf⟩ := ready_iff.1 hrd
      cases hq : (List.range fes.length).filter fun k => !L.getD k false with
      | nil => rw [hq] at hn; simp at hn; omega
      | cons k rr =>
        have : k ∈ (List.range fes.length).filter fun k => !L.getD k false := by rw [hq]; exact List.mem_cons_self
        rw [List.mem_filter, List.mem_range] at this
        obtain ⟨m, h1, h2⟩ := htl o2 ho2 k this.1
        have h3 : L.getD k false = true := by
          obtain ⟨j, g1, g2⟩ := maskOf_down h1 k h2
          rcases g2 with rfl | ⟨f, g3, g4⟩
          · exact haf k g1
          · exact hD.cl j f g3 (haf j g1) k g4
        rw [h3] at this
        cases this.2
    · have hg : Goes lo φ st a w1 φ' ⟨finT fes st.tm, finH fes st.hp, finN fes st.nx⟩ a' w' := hD.to_go hR1 rfl fun k fe hk => by
        show L.getD k false = true
        rw [hL2 k]
        exact decide_eq_true (List.getElem?_eq_some_iff.1 hk).1
      exact tail_any hO hev hdrop (by omega) htok hL1 hL2 hg.rt hg.r (hf.right hg.ext) fun φ'' a'' w'' hg' => hQ1 φ'' a'' w'' (hg.trans hg')
  cases tl with
  | nil =>
    refine main h (fun o ho => ?_) rfl
    rw [List.getElem?_eq_none (by simp at hlen; omega)] at ho
    cases ho
  | cons o r =>
    simp only at h
    split at h
    case h_2 => cases h
    rename_i m hmk
    split at h
    case h_2 => cases h
    rename_i htok
    split at h
    · rename_i hb
      refine main h (fun o' ho' k hk => ?_) htok
      have : (ops.drop fes.length)[0]? = some o' := by rw [List.getElem?_drop]; exact ho'
      rw [hdrop] at this
      injection this with this
      subst this
      refine ⟨m, hmk, ?_⟩
      rw [Nat.eq_of_beq_eq_true hb, Nat.testBit_two_pow_sub_one]
      exact decide_eq_true hk
    · exact evLate_sound hO h hT hR1 hf hQ1
end
end Go.Proofs.YthiblfkmcdnalaaGreat.Ae
