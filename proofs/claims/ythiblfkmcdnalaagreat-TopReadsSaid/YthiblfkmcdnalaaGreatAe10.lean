/- The abstract evaluator, part 10: a drawn region whole. -/
import Derived.Test.YthiblfkmcdnalaaGreatAe9
namespace Go.Proofs.YthiblfkmcdnalaaGreat.Ae
open Go.RowKit

noncomputable def finT : List Fe → List AV → List AV
  | [], tm => tm
  | fe :: r, tm => finT r (setT tm fe.dst fe.x)
theorem setT_get {tm : List AV} {d : Option Tmp} {x y : AV} {t : Nat} (h : (setT tm d x)[t]? = some y) : (d = some t ∧ y = x) ∨ (d ≠ some t ∧ tm[t]? = some y) := by
  cases d with
  | none => exact .inr ⟨by simp, h⟩
  | some d =>
    rw [show setT tm (some d) x = setN tm d x from rfl, setN_eq, List.getElem?_set] at h
    by_cases hd : d = t
    · subst hd
      rw [if_pos rfl] at h
      split at h
      · injection h with h; exact .inl ⟨rfl, h.symm⟩
      · cases h
    · rw [if_neg hd] at h
      exact .inr ⟨fun e => hd (by injection e), h⟩
theorem setT_length (tm : List AV) (d : Option Tmp) (x : AV) : (setT tm d x).length = tm.length := by cases d <;> simp [setT, setN_eq]
theorem finT_length : ∀ (l : List Fe) (tm : List AV), (finT l tm).length = tm.length
  | [], tm => rfl
  | fe :: r, tm => by unfold finT; rw [finT_length r, setT_length]
theorem finT_get {t : Nat} {y : AV} : ∀ {l : List Fe} {tm : List AV}, (finT l tm)[t]? = some y → (∃ (k : Nat) (fe : Fe), l[k]? = some fe ∧ fe.dst = some t ∧ y = fe.x) ∨ ((∀ fe ∈ l, fe.dst ≠ some t) ∧ tm[t]? = some y)
  | [], tm, h => .inr ⟨(fun _ h => by cases h), h⟩
  | fe :: r, tm, h => by
    unfold finT at h
    rcases finT_get h with ⟨k, f, h1, h2⟩ | ⟨h1, h2⟩
    · exact .inl ⟨k + 1, f, h1, h2⟩
    · rcases setT_get h2 with ⟨h3, h4⟩ | ⟨h3, h4⟩
      · exact .inl ⟨0, fe, rfl, h3, h4⟩
      · refine .inr ⟨fun f hf => ?_, h4⟩
        rcases List.mem_cons.1 hf with rfl | hf
        · exact h3
        · exact h1 f hf
noncomputable def finN : List Fe → Nat → Nat
  | [], n => n
  | fe :: r, _ => finN r fe.n1
noncomputable def finH : List Fe → Hp → Hp
  | [], h => h
  | fe :: r, h => finH r (fe.dl ++ h)
theorem finH_mem {b : Blk} : ∀ {l : List Fe} {h : Hp}, b ∈ finH l h → b ∈ h ∨ ∃ (i : Nat) (fe : Fe), l[i]? = some fe ∧ b ∈ fe.dl
  | [], h, hb => .inl hb
  | fe :: r, h, hb => by
    unfold finH at hb
    rcases finH_mem hb with hb | ⟨i, f, h1, h2⟩
    · rcases List.mem_append.1 hb with hb | hb
      · exact .inr ⟨0, fe, rfl, hb⟩
      · exact .inl hb
    · exact .inr ⟨i + 1, f, h1, h2⟩
noncomputable def tailsOk : Nat → List Oper → Bool
  | _, [] => true
  | i, o :: r => (afters o).all (fun j => Nat.blt j i) && r.all (fun o' => (afters o').any fun j => Nat.ble i j) && tailsOk (i + 1) r
section
variable {P : Program}
theorem finN_le {ok : Nat → Bool} {call : Call} {ops : List Oper} {tm : List AV} {hp0 : Hp} {bo : Nat → List Nat} : ∀ {l : List Oper} {acc : List Fe} {nx : Nat} {fes : List Fe} {tl : List Oper}, evFront P ok call ops tm hp0 bo l acc nx = (fes, tl) → ∃ r, fes = acc ++ r ∧ nx ≤ finN r nx ∧ ∀ nx0, FS P ok call ops tm hp0 bo nx0 acc nx → ops = ops.take acc.length ++ l → acc.length ≤ ops.length → FS P ok call ops tm hp0 bo nx0 fes (finN r nx)
  | [], acc, nx, fes, tl, h => by
    simp only [evFront, Prod.mk.injEq] at h
    obtain ⟨rfl, rfl⟩ := h
    exact ⟨[], by simp, Nat.le_refl _, fun _ hF _ _ => hF⟩
  | o :: r, acc, nx, fes, tl, h => by
    unfold evFront at h
    split at h
    · rename_i fe hfe
      obtain ⟨r', h1, h2, h3⟩ := finN_le h
      obtain ⟨n1, n2⟩ := feOf_n hfe
      refine ⟨fe :: r', by rw [h1]; simp, by unfold finN; omega, fun nx0 hF hops hle => ?_⟩
      have ho : ops[acc.length]? = some o := by
        rw [hops, List.getElem?_append_right (by rw [List.length_take]; omega), List.length_take, Nat.min_eq_left hle, Nat.sub_self]
        rfl
      have hlt := (List.getElem?_eq_some_iff.1 ho).1
      refine h3 nx0 (hF.snoc ho hfe) ?_ (by simp; omega)
      rw [List.length_append, List.length_singleton, List.take_succ_eq_append_getElem hlt]
      have : ops[acc.length] = o := by rw [List.getElem?_eq_getElem hlt] at ho; injection ho
      rw [this, List.append_assoc]
      exact hops
    · simp only [Prod.mk.injEq] at h
      obtain ⟨rfl, rfl⟩ := h
      exact ⟨[], by simp, Nat.le_refl _, fun _ hF _ _ => hF⟩
/-- the front comes to its end -/
theorem front_any {ok : Nat → Bool} {call : Call} (hO : OkP P ok call) {ops : List Oper} {fes : List Fe} {tm : List AV} {hp0 : Hp} {nx0 nx : Nat} {φ0 : Mp} {a0 : Act} {w0 : World} {bo : Nat → List Nat} (hF : FS P ok call ops tm hp0 bo nx0 fes nx) (hle : fes.length ≤ ops.length)
    (htl2 : ∀ i o, fes.length < i → ops[i]? = some o → ∃ j ∈ afters o, fes.length ≤ j)
    {Q : Exit → Act → World → Prop} {fuel : Nat}
    (hB : ∀ (n : Nat) (L : Array Bool) (φ : Mp) (a : Act) (w : World), ((List.range fes.length).filter fun k => !L.getD k false).length = n → L.size = ops.length → (∀ k, fes.length ≤ k → L.getD k false = false) → Dy fes tm hp0 nx0 nx φ0 a0 w0 (fun k => L.getD k false) φ a w → 0 < n → fes.length ∈ Region.ready .any ops.toArray L → wpAny P .any ops.toArray Q (fuel + n) L a w)
    (hEnd : ∀ (L : Array Bool) (φ : Mp) (a : Act) (w : World), L.size = ops.length → (∀ k, L.getD k false = decide (k < fes.length)) → Dy fes tm hp0 nx0 nx φ0 a0 w0 (fun k => L.getD k false) φ a w → wpAny P .any ops.toArray Q fuel L a w) :
    ∀ (n : Nat) (L : Array Bool) (φ : Mp) (a : Act) (w : World), ((List.range fes.length).filter fun k => !L.getD k false).length = n → L.size = ops.length → (∀ k, fes.length ≤ k → L.getD k false = false) → Dy fes tm hp0 nx0 nx φ0 a0 w0 (fun k => L.getD k false) φ a w → wpAny P .any ops.toArray Q (fuel + n) L a w := by
  intro n
  induction n with
  | zero =>
    intro L φ a w hn hs hout hD
    refine hEnd L φ a w hs (fun k => ?_) hD
    by_cases hk : k < fes.length
    · have hnil := List.eq_nil_of_length_eq_zero hn
      have : k ∉ (List.range fes.length).filter fun k => !L.getD k false := by rw [hnil]; simp
      rw [List.mem_filter, List.mem_range] at this
      rw [decide_eq_true hk]
      cases hq : L.getD k false with
      | true => rfl
      | false => exact absurd ⟨hk, by rw [hq]; rfl⟩ this
    · rw [decide_eq_false hk]
      exact hout k (by omega)
  | succ n ih =>
    intro L φ a w hn hs hout hD
    by_cases hrd : fes.length ∈ Region.ready .any ops.toArray L
    · exact hB _ L φ a w hn hs hout hD (Nat.succ_pos n) hrd
    -- an operation of the front that is not done yet
    have hex : ∃ k, k < fes.length ∧ L.getD k false = false ∧ ∀ i, i < k → L.getD i false = true := by
      have : ∃ k, k < fes.length ∧ L.getD k false = false := by
        cases hq : (List.range fes.length).filter fun k => !L.getD k false with
        | nil => rw [hq] at hn; simp at hn
        | cons k r =>
          have : k ∈ (List.range fes.length).filter fun k => !L.getD k false := by rw [hq]; exact List.mem_cons_self
          rw [List.mem_filter, List.mem_range] at this
          exact ⟨k, this.1, by simpa using this.2⟩
      obtain ⟨k, hk1, hk2⟩ := this
      have key : ∀ m k, k ≤ m → k < fes.length → L.getD k false = false → ∃ k, k < fes.length ∧ L.getD k false = false ∧ ∀ i, i < k → L.getD i false = true := by
        intro m
        induction m with
        | zero => intro k hm h1 h2; exact ⟨k, h1, h2, fun i hi => by omega⟩
        | succ m ihm =>
          intro k hm h1 h2
          by_cases hall : ∀ i, i < k → L.getD i false = true
          · exact ⟨k, h1, h2, hall⟩
          · obtain ⟨i, hi⟩ := Classical.not_forall.1 hall
            have hik : i < k := Classical.byContradiction fun h => hi fun h' => absurd h' h
            have : L.getD i false = false := by
              cases hq : L.getD i false with
              | false => rfl
              | true => exact absurd (fun _ => hq) hi
            exact ihm i (by omega) (by omega) this
      exact key k k (Nat.le_refl _) hk1 hk2
    have maskAft : ∀ {j : Nat} {fe : Fe} {o : Oper}, fes[j]? = some fe → ops[j]? = some o → ∃ m, maskOf (fes.take j) (afters o) = some m := fun {j fe o} hj ho => by
      obtain ⟨o', ho', hfe⟩ := hF.ev j fe hj
      rw [ho] at ho'
      injection ho' with ho'
      subst ho'
      unfold feOf at hfe
      split at hfe
      case h_2 => cases hfe
      rename_i m hm
      exact ⟨m, hm⟩
    refine ⟨fun hnil => ?_, fun i hi => ?_⟩
    · exfalso
      obtain ⟨k, hk1, hk2, hk3⟩ := hex
      have hfe : fes[k]? = some fes[k] := List.getElem?_eq_getElem hk1
      obtain ⟨o, ho, _⟩ := hF.ev k _ hfe
      obtain ⟨m, hm⟩ := maskAft hfe ho
      have : k ∈ Region.ready .any ops.toArray L := ready_iff.2 ⟨o, ho, by
        simp only [Array.getD_eq_getD_getElem?] at hk2 ⊢
        cases hq : L[k]? with
        | none =>
          have := Array.getElem?_eq_none_iff.1 hq
          omega
        | some b => rw [hq] at hk2; exact hk2, fun j hj => by
        obtain ⟨fe, h1, _⟩ := maskOf_up hm j hj
        rw [List.getElem?_take] at h1
        split at h1
        · exact hk3 j (by omega)
        · cases h1⟩
      rw [hnil] at this
      cases this
    · obtain ⟨o, ho, hun, haf⟩ := ready_iff.1 hi
      have hun' : L.getD i false = false := by
        simp only [Array.getD_eq_getD_getElem?] at hun ⊢
        cases hq : L[i]? with
        | none => rfl
        | some b => rw [hq] at hun; exact hun
      have hilt : i < fes.length := by
        rcases Nat.lt_trichotomy i fes.length with h | h | h
        · exact h
        · exact absurd (h ▸ hi) hrd
        · exfalso
          obtain ⟨j, h1, h2⟩ := htl2 i o h ho
          have := haf j h1
          rw [hout j h2] at this; cases this
      have hfe : fes[i]? = some fes[i] := List.getElem?_eq_getElem hilt
      unfold wpOp
      have ho' : ops.toArray[i]? = some o := by simpa using ho
      rw [ho']
      simp only
      have hset : ∀ k, (L.setIfInBounds i true).getD k false = addS (fun k => L.getD k false) i k := fun k => by
        unfold addS
        simp only [Array.getD_eq_getD_getElem?]
        by_cases hk : k = i
        · subst hk
          rw [if_pos rfl, Array.getElem?_setIfInBounds_self, if_pos (by omega)]
          rfl
        · rw [if_neg hk, Array.getElem?_setIfInBounds_ne (Ne.symm hk)]
      have := dy_step hO hF hD hfe ho hun' haf (K := fun a' w' => wpAny P .any ops.toArray Q (fuel + n) (L.setIfInBounds i true) a' w') (Q := Q) (fun φ' a' w' hD' => by
        refine ih (L.setIfInBounds i true) φ' a' w' ?_ (by simpa using hs) (fun k hk => ?_) ?_
        · -- one less
          have hnd : (List.range fes.length).Nodup := List.nodup_range
          have e : ((List.range fes.length).filter fun k => !(L.setIfInBounds i true).getD k false) = ((List.range fes.length).filter fun k => !L.getD k false).erase i := by
            rw [List.Nodup.erase_eq_filter (List.Pairwise.filter _ hnd), List.filter_filter]
            apply List.filter_congr
            intro k _
            rw [hset]
            unfold addS
            by_cases hk : k = i
            · subst hk; simp
            · simp [hk]
          rw [e, List.length_erase_of_mem (List.mem_filter.2 ⟨List.mem_range.2 hilt, by rw [hun']; rfl⟩), hn]
          rfl
        · rw [hset, addS_ne (by omega)]; exact hout k hk
        · have : (fun k => (L.setIfInBounds i true).getD k false) = addS (fun k => L.getD k false) i := funext hset
          rw [this]
          exact hD')
      split
      · rename_i hw
        rw [if_pos hw] at this
        exact .inl this
      · rename_i hw
        rw [if_neg hw] at this
        exact this
/-- the tail, one behind the other -/
theorem tail_any {ok : Nat → Bool} {call : Call} (hO : OkP P ok call) {ops : List Oper} {lo : Nat} {Q : Exit → Act → World → Prop} : ∀ {l : List Oper} {i : Nat} {st st' : St} {L : Array Bool}, evOps P ok call ops lo l st = some st' → ops.drop i = l → i + l.length = ops.length → tailsOk i l = true → L.size = ops.length → (∀ k, L.getD k false = decide (k < i)) →
    ∀ {φ : Mp} {a : Act} {w : World}, RT φ st.tm a → R φ st.hp st.nx w → Fresh φ st.nx st'.nx → (∀ φ' a' w', Goes lo φ st a w φ' st' a' w' → Q .normal a' w') → wpAny P .any ops.toArray Q l.length L a w
  | [], i, st, st', L, h, hl, hn, _, hs, hL, φ, a, w, hT, hR, hf, hQ => by
    injection h with h
    subst h
    refine ⟨?_, hQ φ a w (.refl hT hR)⟩
    cases hq : Region.ready .any ops.toArray L with
    | nil => rfl
    | cons k r =>
      have : k ∈ Region.ready .any ops.toArray L := by rw [hq]; exact List.mem_cons_self
      obtain ⟨o, ho, h1, _⟩ := ready_iff.1 this
      have hk := (List.getElem?_eq_some_iff.1 ho).1
      simp at hn
      have h2 := hL k
      rw [decide_eq_true (by omega)] at h2
      simp only [Array.getD_eq_getD_getElem?] at h1 h2
      cases hq2 : L[k]? with
      | none => have := Array.getElem?_eq_none_iff.1 hq2; omega
      | some b => rw [hq2] at h1 h2; simp at h1 h2; rw [h1] at h2; cases h2
  | o :: r, i, st, st', L, h, hl, hn, ht, hs, hL, φ, a, w, hT, hR, hf, hQ => by
    rw [evOps_cons] at h
    split at h
    case h_2 => cases h
    rename_i st1 h1
    have ho : ops[i]? = some o := by
      have : (ops.drop i)[0]? = some o := by rw [hl]; rfl
      rwa [List.getElem?_drop, Nat.add_zero] at this
    have hr : ops.drop (i + 1) = r := by
      have : (ops.drop i).drop 1 = r := by rw [hl]; rfl
      rwa [List.drop_drop] at this
    have hil := (List.getElem?_eq_some_iff.1 ho).1
    simp only [tailsOk, Bool.and_eq_true] at ht
    obtain ⟨⟨t1, t2⟩, t3⟩ := ht
    have hun : ∀ {k}, L.getD k true = false → k < ops.length → i ≤ k := fun {k} h hk => by
      rcases Nat.lt_or_ge k i with hki | hki
      · have h2 := hL k
        rw [decide_eq_true hki] at h2
        simp only [Array.getD_eq_getD_getElem?] at h h2
        cases hq2 : L[k]? with
        | none => have := Array.getElem?_eq_none_iff.1 hq2; omega
        | some b => rw [hq2] at h h2; simp at h h2; rw [h] at h2; cases h2
      · exact hki
    have hready : ∀ k ∈ Region.ready .any ops.toArray L, k = i := fun k hk => by
      obtain ⟨ok', ho', h2, h3⟩ := ready_iff.1 hk
      have hkl := (List.getElem?_eq_some_iff.1 ho').1
      have hik := hun h2 hkl
      rcases Nat.eq_or_lt_of_le hik with e | hlt
      · exact e.symm
      · exfalso
        have hmem : ok' ∈ r := by
          have : r[k - (i + 1)]? = some ok' := by
            rw [← hr, List.getElem?_drop]
            rwa [show i + 1 + (k - (i + 1)) = k by omega]
          exact List.mem_of_getElem? this
        have := List.all_eq_true.1 t2 ok' hmem
        obtain ⟨j, hj1, hj2⟩ := List.any_eq_true.1 this
        have := h3 j hj1
        rw [hL j] at this
        have h5 := Nat.le_of_ble_eq_true hj2
        have h6 : j < i := of_decide_eq_true this
        omega
    have himem : i ∈ Region.ready .any ops.toArray L := ready_iff.2 ⟨o, ho, by
      have h2 := hL i
      rw [decide_eq_false (by omega)] at h2
      simp only [Array.getD_eq_getD_getElem?] at h2 ⊢
      cases hq2 : L[i]? with
      | none => have := Array.getElem?_eq_none_iff.1 hq2; omega
      | some b => rw [hq2] at h2; simpa using h2, fun j hj => by
      rw [hL j]
      exact decide_eq_true (Nat.le_of_ble_eq_true (List.all_eq_true.1 t1 j hj))⟩
    have l1 := stepS_le h1
    have l2 := evOps_le h
    refine ⟨fun hnil => (by rw [hnil] at himem; cases himem), fun k hk => ?_⟩
    obtain rfl := hready k hk
    have ho' : ops.toArray[k]? = some o := by simpa using ho
    unfold wpOp
    rw [ho']
    simp only
    have hset : ∀ q, (L.setIfInBounds k true).getD q false = decide (q < k + 1) := fun q => by
      have h2 := hL q
      simp only [Array.getD_eq_getD_getElem?] at h2 ⊢
      by_cases hq : q = k
      · subst hq
        rw [Array.getElem?_setIfInBounds_self, if_pos (by omega), decide_eq_true (by omega)]
        rfl
      · rw [Array.getElem?_setIfInBounds_ne (Ne.symm hq), h2]
        rw [Bool.eq_iff_iff]
        simp only [decide_eq_true_eq]
        omega
    have := stepS_sound hO h1 hT hR (hf.left l2) (K := fun a' w' => wpAny P .any ops.toArray Q r.length (L.setIfInBounds k true) a' w') (Q := Q) (fun φ' a' w' hg =>
      tail_any hO h hr (by simp at hn; omega) t3 (by simpa using hs) hset hg.rt hg.r (hf.right hg.ext) fun φ'' a'' w'' hg' => hQ φ'' a'' w'' (hg.trans hg'))
    split
    · rename_i hw
      rw [if_pos hw] at this
      exact .inl this
    · rename_i hw
      rw [if_neg hw] at this
      exact this
end
end Go.Proofs.YthiblfkmcdnalaaGreat.Ae
