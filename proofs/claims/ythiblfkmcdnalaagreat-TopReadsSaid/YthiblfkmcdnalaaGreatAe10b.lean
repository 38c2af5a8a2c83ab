/- The abstract evaluator, part 10b: the tail of a drawn region, while operations of the front that it does not wait for come late. -/
import Derived.Test.YthiblfkmcdnalaaGreatAe10
namespace Go.Proofs.YthiblfkmcdnalaaGreat.Ae
open Go.RowKit

theorem put1_keep {nb b : Blk} : ∀ {h : Hp}, b ∈ h → b.id ≠ nb.id → b ∈ put1 nb h
  | c :: r, hb, hne => by
    have putD_keep : ∀ {h : Hp}, b ∈ h → b ∈ putD nb h := fun {h} => by
      induction h with
      | nil => intro h; cases h
      | cons c r ih =>
        intro h
        rw [putD_cons]
        rcases List.mem_cons.1 h with rfl | h
        · rw [if_neg (fun e => hne (Nat.eq_of_beq_eq_true e))]
          exact List.mem_cons_self
        · split
          · exact ih h
          · exact List.mem_cons_of_mem _ (ih h)
    rw [put1_cons]
    split
    · rename_i hc
      rcases List.mem_cons.1 hb with rfl | hb
      · exact absurd (Nat.eq_of_beq_eq_true hc) hne
      · exact List.mem_cons_of_mem _ (putD_keep hb)
    · rcases List.mem_cons.1 hb with rfl | hb
      · exact List.mem_cons_self
      · exact List.mem_cons_of_mem _ (put1_keep hb hne)
theorem finH_up {b : Blk} : ∀ {l : List Fe} {h : Hp}, (b ∈ h ∨ ∃ (i : Nat) (fe : Fe), l[i]? = some fe ∧ b ∈ fe.dl) → b ∈ finH l h
  | [], h, hb => hb.elim id fun ⟨i, fe, h1, _⟩ => by simp at h1
  | fe :: r, h, hb => by
    unfold finH
    refine finH_up ?_
    rcases hb with hb | ⟨i, f, h1, h2⟩
    · exact .inl (List.mem_append_right _ hb)
    · cases i with
      | zero => injection h1 with h1; subst h1; exact .inl (List.mem_append_left _ h2)
      | succ i => exact .inr ⟨i, f, h1, h2⟩
noncomputable def rhoR (tm : List AV) (lk : List Tmp) : Operand → Option AV
  | .tmp t => match memT lk t with
    | true => nth tm t
    | false => none
  | .const v => some (ofVal v)
  | .global _ => none
  | .func f => some (.e (.l (.c (.func (.func f) #[] #[]))))
noncomputable def below (s : Nat) : List Nat → List Nat
  | [] => []
  | j :: r => match Nat.blt j s with
    | true => j :: below s r
    | false => below s r
theorem below_mem {s j : Nat} : ∀ {l : List Nat}, j ∈ below s l → j ∈ l ∧ j < s
  | x :: r, h => by
    unfold below at h
    split at h
    · rename_i hb
      rcases List.mem_cons.1 h with rfl | h
      · exact ⟨List.mem_cons_self, Nat.le_of_ble_eq_true hb⟩
      · have := below_mem h
        exact ⟨List.mem_cons_of_mem _ this.1, this.2⟩
    · have := below_mem h
      exact ⟨List.mem_cons_of_mem _ this.1, this.2⟩
/-- what is asked of the operations that may come late -/
noncomputable def lateOk (m : Nat) (all : List Fe) : Nat → List Fe → Bool
  | _, [] => true
  | k, fe :: r => match m.testBit k with
    | true => lateOk m all (k + 1) r
    | false => match Nat.beq fe.n0 fe.n1 && fe.dl.isEmpty && !inD fe.lk fe.dst && lateIn m fe 0 all with
      | true => lateOk m all (k + 1) r
      | false => false
  where lateIn (m : Nat) (fe : Fe) : Nat → List Fe → Bool
  | _, [] => true
  | k, f :: r => match m.testBit k with
    | true => lateIn m fe (k + 1) r
    | false => match inD fe.lk f.dst with
      | false => lateIn m fe (k + 1) r
      | true => match fe.m.testBit k with
        | true => lateIn m fe (k + 1) r
        | false => false
theorem lateIn_spec {m : Nat} {fe : Fe} : ∀ {l : List Fe} {k : Nat}, lateOk.lateIn m fe k l = true → ∀ i f, l[i]? = some f → m.testBit (k + i) = false → inD fe.lk f.dst = true → fe.m.testBit (k + i) = true
  | g :: r, k, h, i, f, hi, hm, hin => by
    unfold lateOk.lateIn at h
    have rec_ : lateOk.lateIn m fe (k + 1) r = true → i ≠ 0 → fe.m.testBit (k + i) = true := fun h h0 => by
      obtain ⟨i, rfl⟩ : ∃ j, i = j + 1 := ⟨i - 1, by omega⟩
      have := lateIn_spec h i f hi (by rwa [show k + 1 + i = k + (i + 1) by omega]) hin
      rwa [show k + 1 + i = k + (i + 1) by omega] at this
    split at h
    · rename_i hq
      exact rec_ h fun h0 => by subst h0; rw [Nat.add_zero, hq] at hm; cases hm
    · split at h
      · rename_i hq
        exact rec_ h fun h0 => by subst h0; injection hi with hi; subst hi; rw [hq] at hin; cases hin
      · split at h
        · rename_i hq
          by_cases h0 : i = 0
          · subst h0; exact hq
          · exact rec_ h h0
        · cases h
theorem lateOk_spec {m : Nat} {all : List Fe} : ∀ {l : List Fe} {k : Nat}, lateOk m all k l = true → ∀ i fe, l[i]? = some fe → m.testBit (k + i) = false → fe.n0 = fe.n1 ∧ fe.dl = [] ∧ inD fe.lk fe.dst = false ∧ lateOk.lateIn m fe 0 all = true
  | g :: r, k, h, i, fe, hi, hm => by
    unfold lateOk at h
    have rec_ : lateOk m all (k + 1) r = true → i ≠ 0 → fe.n0 = fe.n1 ∧ fe.dl = [] ∧ inD fe.lk fe.dst = false ∧ lateOk.lateIn m fe 0 all = true := fun h h0 => by
      obtain ⟨i, rfl⟩ : ∃ j, i = j + 1 := ⟨i - 1, by omega⟩
      exact lateOk_spec h i fe hi (by rwa [show k + 1 + i = k + (i + 1) by omega])
    split at h
    · rename_i hq
      exact rec_ h fun h0 => by subst h0; rw [Nat.add_zero, hq] at hm; cases hm
    · split at h
      · rename_i hq
        by_cases h0 : i = 0
        · subst h0
          injection hi with hi
          subst hi
          simp only [Bool.and_eq_true, Bool.not_eq_true'] at hq
          exact ⟨Nat.eq_of_beq_eq_true hq.1.1.1, by simpa using hq.1.1.2, hq.1.2, hq.2⟩
        · exact rec_ h h0
      · cases h
/-- a tail's operation and those that may come late -/
noncomputable def ckL (m mo : Nat) (lk : List Tmp) (dst : Option Tmp) : Nat → List Fe → Bool
  | _, [] => true
  | k, fe :: r => match m.testBit k with
    | true => ckL m mo lk dst (k + 1) r
    | false => match sameD fe.dst dst with
      | true => false
      | false => match inD fe.lk dst with
        | true => false
        | false => match inD lk fe.dst with
          | false => ckL m mo lk dst (k + 1) r
          | true => match mo.testBit k with
            | true => ckL m mo lk dst (k + 1) r
            | false => false
theorem ckL_spec {m mo : Nat} {lk : List Tmp} {dst : Option Tmp} : ∀ {l : List Fe} {k : Nat}, ckL m mo lk dst k l = true → ∀ i fe, l[i]? = some fe → m.testBit (k + i) = false → sameD fe.dst dst = false ∧ inD fe.lk dst = false ∧ (inD lk fe.dst = true → mo.testBit (k + i) = true)
  | g :: r, k, h, i, fe, hi, hm => by
    unfold ckL at h
    have rec_ : ckL m mo lk dst (k + 1) r = true → i ≠ 0 → sameD fe.dst dst = false ∧ inD fe.lk dst = false ∧ (inD lk fe.dst = true → mo.testBit (k + i) = true) := fun h h0 => by
      obtain ⟨i, rfl⟩ : ∃ j, i = j + 1 := ⟨i - 1, by omega⟩
      have := ckL_spec h i fe hi (by rwa [show k + 1 + i = k + (i + 1) by omega])
      rwa [show k + 1 + i = k + (i + 1) by omega] at this
    split at h
    · rename_i hq
      exact rec_ h fun h0 => by subst h0; rw [Nat.add_zero, hq] at hm; cases hm
    · split at h
      · cases h
      · rename_i h1
        split at h
        · cases h
        · rename_i h2
          split at h
          · rename_i h3
            by_cases h0 : i = 0
            · subst h0; injection hi with hi; subst hi; exact ⟨h1, h2, fun h => by rw [h3] at h; cases h⟩
            · exact rec_ h h0
          · split at h
            · rename_i h4
              by_cases h0 : i = 0
              · subst h0; injection hi with hi; subst hi; exact ⟨h1, h2, fun _ => h4⟩
              · exact rec_ h h0
            · cases h
section
variable {P : Program}
/-- one operation of the tail -/
noncomputable def stepL (P : Program) (ok : Nat → Bool) (call : Call) (ops : List Oper) (lo : Nat) (fes : List Fe) (m : Nat) (W : List Nat) (o : Oper) (st : St) : Option St :=
  match maskOf fes (below fes.length (afters o)) with
  | some mo => match ckL m mo (looksL ops o) o.dst 0 fes && dstOk st.tm.length o.dst with
    | true => match wantA ops (rhoR st.tm (looksL ops o)) o with
      | some true => match evOne P ok call lo (rhoR st.tm (looksL ops o)) st.hp st.nx o with
        | some (x, hp', nx') => match Nat.beq nx' st.nx with
          | true => match o.op with
            | .store _ a _ => match rhoR st.tm (looksL ops o) a with
              | some (.e (.l (.p b _))) => match memN W b with
                | true => some ⟨setT st.tm o.dst x, hp', st.nx⟩
                | false => none
              | _ => none
            | .assign _ => some ⟨setT st.tm o.dst x, hp', st.nx⟩
            | .move _ => some ⟨setT st.tm o.dst x, hp', st.nx⟩
            | _ => none
          | false => none
        | none => none
      | some false => some ⟨setT st.tm o.dst vUnd, st.hp, st.nx⟩
      | none => none
    | false => none
  | none => none
/-- the memory behind a store, or a move -/
theorem evOne_keep {ok : Nat → Bool} {call : Call} {lo : Nat} {ρ : Operand → Option AV} {hp hp' : Hp} {nx nx' : Nat} {o : Oper} {x : AV} (h : evOne P ok call lo ρ hp nx o = some (x, hp', nx')) {W : List Nat} (hW : (∃ t a y b off, o.op = .store t a y ∧ ρ a = some (.e (.l (.p b off))) ∧ memN W b = true) ∨ (∃ y, o.op = .assign y) ∨ ∃ y, o.op = .move y) :
    ∀ b ∈ hp, memN W b.id = false → b ∈ hp' := by
  intro bk hbk hno
  have key : ∀ {y : AV} {hp1 : Hp} {nx1 : Nat}, evOp P ok lo ρ hp nx o = some (.val y hp1 nx1) → bk ∈ hp1 := by
    intro y hp1 nx1 he
    have mv : ∀ {z : Option AV}, oR hp nx z = some (.val y hp1 nx1) → bk ∈ hp1 := fun {z} he => by
      unfold oR at he
      split at he
      · injection he with he; injection he with _ he _; subst he; exact hbk
      · cases he
    rcases hW with ⟨t, a, z, b, off, ho, ha, hb⟩ | ⟨z, ho⟩ | ⟨z, ho⟩
    · unfold evOp at he
      rw [ho] at he
      simp only [ha] at he
      unfold bStore at he
      split at he
      case h_2 => cases he
      rename_i a' x' e1 e2
      injection e1 with e1
      subst e1
      unfold hpR at he
      split at he
      case h_2 => cases he
      rename_i hp2 hs
      injection he with he
      injection he with _ he _
      subst he
      unfold opStore at hs
      simp only at hs
      split at hs
      case h_2 => cases hs
      split at hs
      case h_2 => cases hs
      split at hs
      case h_2 => cases hs
      split at hs
      case h_2 => cases hs
      injection hs with hs
      subst hs
      exact put1_keep hbk fun e => by
        have e' : bk.id = b := e
        rw [e'] at hno
        rw [hno] at hb; cases hb
    · unfold evOp at he
      rw [ho] at he
      exact mv he
    · unfold evOp at he
      rw [ho] at he
      exact mv he
  unfold evOne at h
  split at h
  · rename_i y hp1 nx1 he
    split at h
    case h_2 => cases h
    simp only [Option.some.injEq, Prod.mk.injEq] at h
    obtain ⟨_, rfl, _⟩ := h
    exact key he
  · rename_i f args he
    exfalso
    have mv : ∀ {z : Option AV}, oR hp nx z = some (.enter f args) → False := fun {z} he => by
      unfold oR at he
      split at he
      · injection he with he; cases he
      · cases he
    rcases hW with ⟨t, a, z, b, off, ho, ha, hb⟩ | ⟨z, ho⟩ | ⟨z, ho⟩
    · unfold evOp at he
      rw [ho] at he
      simp only at he
      unfold bStore hpR at he
      split at he
      · split at he
        · injection he with he; cases he
        · cases he
      · cases he
    · unfold evOp at he
      rw [ho] at he
      exact mv he
    · unfold evOp at he
      rw [ho] at he
      exact mv he
  · cases h
/-- all of the front that the tail waits for is done; the tail stands at st -/
structure Dz (fes : List Fe) (tm0 : List AV) (hp0 : Hp) (nx0 lo m : Nat) (W : List Nat) (st : St) (φ0 : Mp) (a0 : Act) (w0 : World) (S : Nat → Bool) (φ : Mp) (a : Act) (w : World) : Prop where
  ext : Ext φ0 φ nx0 st.nx
  tm : ∀ (t : Nat) (y : AV), st.tm[t]? = some y → (∀ (k : Nat) (fe : Fe), fes[k]? = some fe → S k = false → fe.dst ≠ some t) → y.rel φ (a.eval (.tmp t))
  size : a.tmps.size = st.tm.length
  len : st.tm.length = tm0.length
  r : R φ st.hp st.nx w
  fr : Fr lo φ0 hp0 w0 φ st.hp w
  keep : ∀ b ∈ finH fes hp0, memN W b.id = false → b ∈ st.hp
  cl : ∀ (i : Nat) (fe : Fe), fes[i]? = some fe → S i = true → ∀ k, fe.m.testBit k = true → S k = true
  done : ∀ (k : Nat) (fe : Fe), fes[k]? = some fe → m.testBit k = true → S k = true
  ltm : ∀ (k : Nat) (fe : Fe) (t : Nat) (y : AV), fes[k]? = some fe → m.testBit k = false → fe.dst = some t → st.tm[t]? = some y → y = fe.x
  llk : ∀ (k : Nat) (fe : Fe) (t : Nat), fes[k]? = some fe → m.testBit k = false → inD fe.lk (some t) = true → st.tm[t]? = (finT fes tm0)[t]?
  defers : a.defers = a0.defers
theorem memT_inD {lk : List Tmp} {t : Tmp} : inD lk (some t) = memT lk t := rfl
/-- two operations of a front: what is known of them -/
theorem FS.pair {ok : Nat → Bool} {call : Call} {ops : List Oper} {tm : List AV} {hp0 : Hp} {bo : Nat → List Nat} {nx0 nx : Nat} {fes : List Fe} (hF : FS P ok call ops tm hp0 bo nx0 fes nx) {i k : Nat} {f g : Fe} (hi : fes[i]? = some f) (hk : fes[k]? = some g) (hik : i < k) :
    sameD f.dst g.dst = false ∧ (g.m.testBit i = true ∨ (inD f.lk g.dst = false ∧ inD g.lk f.dst = false)) := by
  obtain ⟨ok', hok, hfk⟩ := hF.ev k g hk
  unfold feOf at hfk
  split at hfk
  case h_2 => cases hfk
  rename_i m2 hm2
  split at hfk
  case h_2 => cases hfk
  rename_i hc2
  simp only [Bool.and_eq_true] at hc2
  have hq : g.lk = looksL ops ok' ∧ g.dst = ok'.dst ∧ g.m = m2 := by
    split at hfk
    · split at hfk
      case h_2 => cases hfk
      injection hfk with hfk; rw [← hfk]; exact ⟨rfl, rfl, rfl⟩
    · injection hfk with hfk; rw [← hfk]; exact ⟨rfl, rfl, rfl⟩
    · cases hfk
  have := ckAll_spec hc2.1 i f (by rw [List.getElem?_take, if_pos hik]; exact hi)
  rw [Nat.zero_add] at this
  rw [hq.1, hq.2.1, hq.2.2]
  exact this
theorem sameD_symm {a b : Option Tmp} (h : sameD a b = false) : ∀ t, a = some t → b ≠ some t := by
  rintro t rfl rfl
  simp [sameD] at h
theorem FS.dst_ne {ok : Nat → Bool} {call : Call} {ops : List Oper} {tm : List AV} {hp0 : Hp} {bo : Nat → List Nat} {nx0 nx : Nat} {fes : List Fe} (hF : FS P ok call ops tm hp0 bo nx0 fes nx) {i k : Nat} {f g : Fe} (hi : fes[i]? = some f) (hk : fes[k]? = some g) {t : Tmp} (h1 : f.dst = some t) (h2 : g.dst = some t) : i = k := by
  rcases Nat.lt_trichotomy i k with h | h | h
  · exact absurd h2 (sameD_symm (hF.pair hi hk h).1 t h1)
  · exact h
  · exact absurd h1 (sameD_symm (hF.pair hk hi h).1 t h2)
theorem dz_late {ok : Nat → Bool} {call : Call} (hO : OkP P ok call) {ops : List Oper} {fes : List Fe} {tm0 : List AV} {hp0 : Hp} {nx0 nx lo m : Nat} {W : List Nat} {st : St} {φ0 φ : Mp} {a0 a : Act} {w0 w : World} {S : Nat → Bool} {bo : Nat → List Nat} (hF : FS P ok call ops tm0 hp0 bo nx0 fes nx) (hbo : ∀ k, m.testBit k = false → bo k = W)
    (hlt : lateOk m fes 0 fes = true) (hids0 : ∀ b ∈ hp0, b.id < nx0) (hidsd : ∀ (k : Nat) (f : Fe), fes[k]? = some f → ∀ b ∈ f.dl, b.id < f.n1) (hD : Dz fes tm0 hp0 nx0 lo m W st φ0 a0 w0 S φ a w)
    {j : Nat} {o : Oper} {fe : Fe} (hj : fes[j]? = some fe) (ho : ops[j]? = some o) (hS : S j = false) (haf : ∀ k ∈ afters o, S k = true) {K : Act → World → Prop} {Q : Exit → Act → World → Prop}
    (hK : ∀ φ' a' w', Dz fes tm0 hp0 nx0 lo m W st φ0 a0 w0 (addS S j) φ' a' w' → K a' w') : if Region.wanted o (yielded ops.toArray a.tmps) then o.wp P a w K Q else K (a.put o.dst undef) w := by
  have hmj : m.testBit j = false := by
    cases hq : m.testBit j with
    | false => rfl
    | true => rw [hD.done j fe hj hq] at hS; cases hS
  obtain ⟨l1, l2, l3, l4⟩ := lateOk_spec hlt j fe hj (by rw [Nat.zero_add]; exact hmj)
  have l4 := fun i f hi h => lateIn_spec l4 i f hi (by rw [Nat.zero_add]; exact h)
  simp only [Nat.zero_add] at l4
  obtain ⟨o', ho', hfe⟩ := hF.ev j fe hj
  rw [ho] at ho'
  injection ho' with ho'
  subst ho'
  rw [hbo j hmj] at hfe
  have hfe0 := hfe
  unfold feOf at hfe
  split at hfe
  case h_2 => cases hfe
  rename_i m2 hm2
  split at hfe
  case h_2 => cases hfe
  rename_i hck
  simp only [Bool.and_eq_true] at hck
  obtain ⟨hck, hdst⟩ := hck
  have hlk : fe.lk = looksL ops o ∧ fe.dst = o.dst ∧ fe.m = m2 := by
    split at hfe
    · split at hfe
      case h_2 => cases hfe
      injection hfe with hfe; rw [← hfe]; exact ⟨rfl, rfl, rfl⟩
    · injection hfe with hfe; rw [← hfe]; exact ⟨rfl, rfl, rfl⟩
    · cases hfe
  have take_get : ∀ {i : Nat} {f : Fe}, (fes.take j)[i]? = some f → i < j ∧ fes[i]? = some f := fun h => by
    rw [List.getElem?_take] at h
    split at h
    · rename_i hlt; exact ⟨hlt, h⟩
    · cases h
  have hmS : ∀ k, m2.testBit k = true → S k = true := fun k hk => by
    obtain ⟨i, h1, h2⟩ := maskOf_down hm2 k hk
    rcases h2 with rfl | ⟨f, h3, h4⟩
    · exact haf k h1
    · exact hD.cl i f (take_get h3).2 (haf i h1) k h4
  -- an operation that writes what this one looks at lies in its mask
  have hwm : ∀ (k : Nat) (f : Fe) (t : Tmp), fes[k]? = some f → f.dst = some t → memT (looksL ops o) t = true → m2.testBit k = true := fun k f t hk hd hin => by
    have hin' : inD fe.lk (some t) = true := by rw [hlk.1]; exact hin
    rw [← hlk.2.2]
    rcases Nat.lt_trichotomy k j with h | h | h
    · rcases (hF.pair hk hj h).2 with h1 | ⟨_, h1⟩
      · exact h1
      · rw [hd, hin'] at h1; cases h1
    · subst h
      rw [hj] at hk
      injection hk with hk
      subst hk
      rw [hd, hin'] at l3; cases l3
    · cases hmk : m.testBit k with
      | false => exact l4 k f hk hmk (by rw [hd]; exact hin')
      | true =>
        rcases (hF.pair hj hk h).2 with h1 | ⟨h1, _⟩
        · have := hD.cl k f hk (hD.done k f hk hmk) j h1
          rw [hS] at this; cases this
        · rw [hd, hin'] at h1; cases h1
  have hρ : ∀ x y, rhoF tm0 (fes.take j) m2 (looksL ops o) x = some y → y.rel φ (a.eval x) := by
    intro x y hx
    cases x with
    | tmp t =>
      simp only [rhoF] at hx
      split at hx
      case h_2 => cases hx
      rename_i hin
      have hin' : inD fe.lk (some t) = true := by rw [hlk.1]; exact hin
      have hst := hD.llk j fe t hj hmj hin'
      have hpend : ∀ (k : Nat) (f : Fe), fes[k]? = some f → S k = false → f.dst ≠ some t := fun k f hk hSk hd => by
        have := hmS k (hwm k f t hk hd hin)
        rw [hSk] at this; cases this
      split at hx
      · rename_i x' hfw
        injection hx with hx
        subst hx
        obtain ⟨i, f, h1, h2, h3, h4⟩ := findW_some hfw
        have hi := take_get h1
        have htl : t < (finT fes tm0).length := by
          rw [finT_length]
          obtain ⟨oi, _, hfi⟩ := hF.ev i f hi.2
          unfold feOf at hfi
          split at hfi
          case h_2 => cases hfi
          split at hfi
          case h_2 => cases hfi
          rename_i hc
          simp only [Bool.and_eq_true] at hc
          have hq : f.dst = oi.dst := by
            split at hfi
            · split at hfi
              case h_2 => cases hfi
              injection hfi with hfi; rw [← hfi]
            · injection hfi with hfi; rw [← hfi]
            · cases hfi
          have hc2 := hc.2
          rw [← hq, h3] at hc2
          exact Nat.le_of_ble_eq_true hc2
        have hfin : (finT fes tm0)[t]? = some x' := by
          rw [List.getElem?_eq_getElem htl]
          rcases finT_get (List.getElem?_eq_getElem htl) with ⟨k, g, g1, g2, g3⟩ | ⟨g1, _⟩
          · have := hF.dst_ne hi.2 g1 h3 g2
            subst this
            rw [hi.2] at g1
            injection g1 with g1
            subst g1
            rw [g3, h4]
          · exact absurd h3 (g1 f (List.mem_of_getElem? hi.2))
        exact hD.tm t x' (by rw [hst]; exact hfin) hpend
      · rename_i hfw
        have hno : ∀ (k : Nat) (f : Fe), fes[k]? = some f → f.dst ≠ some t := fun k f hk hd => by
          have hm := hwm k f t hk hd hin
          obtain ⟨i, h1, h2⟩ := maskOf_down hm2 k hm
          have hkj : k < j := by
            rcases Nat.lt_or_ge k j with h | h
            · exact h
            · exfalso
              have hSk := hmS k hm
              rcases Nat.eq_or_lt_of_le h with h | h
              · subst h; rw [hS] at hSk; cases hSk
              · rcases (hF.pair hj hk h).2 with h3 | ⟨h3, _⟩
                · have := hD.cl k f hk hSk j h3
                  rw [hS] at this; cases this
                · rw [hd] at h3
                  rw [hlk.1, memT_inD, hin] at h3; cases h3
          exact findW_none hfw k f (by rw [List.getElem?_take, if_pos hkj]; exact hk) (by rw [Nat.zero_add]; exact hm) hd
        have hy := nth_get hx
        have htl : t < (finT fes tm0).length := by rw [finT_length]; exact (List.getElem?_eq_some_iff.1 hy).1
        have hfin : (finT fes tm0)[t]? = some y := by
          rw [List.getElem?_eq_getElem htl]
          rcases finT_get (List.getElem?_eq_getElem htl) with ⟨k, g, g1, g2, g3⟩ | ⟨_, g2⟩
          · exact absurd g2 (hno k g g1)
          · rw [g2] at hy; exact hy
        exact hD.tm t y (by rw [hst]; exact hfin) hpend
    | const v => injection hx with hx; subst hx; exact ofVal_rel φ v
    | global g => cases hx
    | func f => injection hx with hx; subst hx; rfl
  have hwant : ∀ {b}, wantA ops (rhoF tm0 (fes.take j) m2 (looksL ops o)) o = some b → Region.wanted o (yielded ops.toArray a.tmps) = b := fun hw => wantA_spec (φ := φ) (a := a) (fun _ _ d _ _ _ y hy => hρ _ y hy) hw
  have hsub : ∀ b ∈ filt W (hpF (fun k => m2.testBit k) 0 (fes.take j) hp0), b ∈ st.hp := fun b hb => by
    obtain ⟨hb1, hb2⟩ := filt_mem hb
    refine hD.keep b (finH_up ?_) hb2
    rcases hpF_mem.1 hb1 with hb | ⟨i, f, h1, h2, h3⟩
    · exact .inl hb
    · exact .inr ⟨i, f, (take_get h1).2, h3⟩
  have hids : ∀ b ∈ filt W (hpF (fun k => m2.testBit k) 0 (fes.take j) hp0), b.id < fe.n0 := fun b hb => by
    rcases hpF_mem.1 (filt_mem hb).1 with hb | ⟨i, f, h1, h2, h3⟩
    · have := hids0 b hb; have := (hF.rng j fe hj).1; omega
    · have hi := take_get h1
      have h4 := hidsd i f hi.2 b h3
      have h5 := hF.ord i j f fe hi.2 hj hi.1
      omega
  have hRj : R φ (filt W (hpF (fun k => m2.testBit k) 0 (fes.take j) hp0)) fe.n0 w := ⟨(hD.r.drop hsub).blk, hids, (hD.r.drop hsub).inj⟩
  have fin_ : ∀ {x : AV} {v : Value} {φ' : Mp} {w' : World}, fe.x = x → Sub φ φ' → (∀ i, φ' i = φ i) → x.rel φ' v → (∀ g, g < w.heap.size → w'.heap[g]? = w.heap[g]?) → w.heap.size ≤ w'.heap.size → w'.os = w.os → w'.tape = w.tape → w'.output = w.output → K (a.put o.dst v) w' := by
    intro x v φ' w' hx hsubφ heq hxv hblk hsz h1 h2 h3
    have hφ : φ' = φ := funext heq
    subst hφ
    refine hK φ' _ w' ⟨hD.ext, ?_, by rw [put_size]; exact hD.size, hD.len, ⟨fun b hb => (hD.r.blk b hb).mono hsubφ fun g κ hg => hblk g ((hD.r.blk b hb).lt hg), hD.r.lo, hD.r.inj⟩, ?_, hD.keep, ?_, fun k f hk h => addS_of (hD.done k f hk h), hD.ltm, hD.llk, by rw [put_defers]; exact hD.defers⟩
    · intro t y hy hno
      by_cases hd : o.dst = some t
      · rw [hd, put_eval_self]
        · have := hD.ltm j fe t y hj hmj (by rw [hlk.2.1]; exact hd) hy
          rw [this, hx]
          exact hxv
        · rw [hD.size]
          exact (List.getElem?_eq_some_iff.1 hy).1
      · rw [put_eval_ne hd]
        refine hD.tm t y hy fun k f hk hSk hd' => ?_
        by_cases hkj : k = j
        · subst hkj
          rw [hj] at hk
          injection hk with hk
          subst hk
          rw [hlk.2.1] at hd'
          exact hd hd'
        · exact hno k f hk (by rw [addS_ne hkj]; exact hSk) hd'
    · exact hD.fr.trans ⟨h1, h2, h3, hsz, fun g hg _ => hblk g hg, fun g h => .inr h⟩
    · intro i f hi hSi k hk
      rcases addS_inv hSi with rfl | hSi
      · rw [hj] at hi
        injection hi with hi
        subst hi
        rw [hlk.2.2] at hk
        exact addS_of (hmS k hk)
      · exact addS_of (hD.cl i f hi hSi k hk)
  split at hfe
  · rename_i hw
    rw [hwant hw, if_pos rfl]
    split at hfe
    case h_2 => cases hfe
    rename_i x hp' nx' hev
    injection hfe with hfe
    have e0 : fe.x = x := by rw [← hfe]
    have e1 : fe.n1 = nx' := by rw [← hfe]
    rw [← e1] at hev
    refine (evOne_does hO hev hRj hρ (fun i h1 h2 => by omega)).wp fun v w' ⟨φ', hE, hxv, hR', hFr⟩ => ?_
    refine fin_ e0 hE.sub (fun i => hE.off i (by omega)) hxv (fun g hg => hFr.blk g hg ?_) hFr.size hFr.os hFr.tape hFr.output
    rintro ⟨b, hb, hlo, _⟩
    have := hids b hb
    omega
  · rename_i hw
    rw [hwant hw, if_neg (by simp)]
    injection hfe with hfe
    have e0 : fe.x = vUnd := by rw [← hfe]
    exact fin_ e0 (fun _ _ h => h) (fun _ => rfl) (vUnd_rel φ) (fun _ _ => rfl) (Nat.le_refl _) rfl rfl rfl
  · cases hfe
theorem dz_tail {ok : Nat → Bool} {call : Call} (hO : OkP P ok call) {ops : List Oper} {fes : List Fe} {tm0 : List AV} {hp0 : Hp} {nx0 nx lo m : Nat} {W : List Nat} {st st' : St} {φ0 φ : Mp} {a0 a : Act} {w0 w : World} {S : Nat → Bool} {bo : Nat → List Nat} (hF : FS P ok call ops tm0 hp0 bo nx0 fes nx) (hD : Dz fes tm0 hp0 nx0 lo m W st φ0 a0 w0 S φ a w)
    {o : Oper} (h : stepL P ok call ops lo fes m W o st = some st') (haf : ∀ k ∈ below fes.length (afters o), S k = true) {K : Act → World → Prop} {Q : Exit → Act → World → Prop}
    (hK : ∀ φ' a' w', Dz fes tm0 hp0 nx0 lo m W st' φ0 a0 w0 S φ' a' w' → K a' w') : if Region.wanted o (yielded ops.toArray a.tmps) then o.wp P a w K Q else K (a.put o.dst undef) w := by
  unfold stepL at h
  split at h
  case h_2 => cases h
  rename_i mo hmo
  split at h
  case h_2 => cases h
  rename_i hck
  simp only [Bool.and_eq_true] at hck
  obtain ⟨hck, hdst⟩ := hck
  have hck := fun i f hi h => ckL_spec hck i f hi (by rw [Nat.zero_add]; exact h)
  simp only [Nat.zero_add] at hck
  have hmS : ∀ k, mo.testBit k = true → S k = true := fun k hk => by
    obtain ⟨i, h1, h2⟩ := maskOf_down hmo k hk
    rcases h2 with rfl | ⟨f, h3, h4⟩
    · exact haf k h1
    · exact hD.cl i f h3 (haf i h1) k h4
  have hpendm : ∀ (k : Nat) (f : Fe), fes[k]? = some f → S k = false → m.testBit k = false := fun k f hk hSk => by
    cases hq : m.testBit k with
    | false => rfl
    | true => rw [hD.done k f hk hq] at hSk; cases hSk
  have hρ : ∀ x y, rhoR st.tm (looksL ops o) x = some y → y.rel φ (a.eval x) := by
    intro x y hx
    cases x with
    | tmp t =>
      simp only [rhoR] at hx
      split at hx
      case h_2 => cases hx
      rename_i hin
      refine hD.tm t y (nth_get hx) fun k f hk hSk hd => ?_
      have := (hck k f hk (hpendm k f hk hSk)).2.2 (by rw [hd]; exact hin)
      rw [hmS k this] at hSk; cases hSk
    | const v => injection hx with hx; subst hx; exact ofVal_rel φ v
    | global g => cases hx
    | func f => injection hx with hx; subst hx; rfl
  have hwant : ∀ {b}, wantA ops (rhoR st.tm (looksL ops o)) o = some b → Region.wanted o (yielded ops.toArray a.tmps) = b := fun hw => wantA_spec (φ := φ) (a := a) (fun _ _ d _ _ _ y hy => hρ _ y hy) hw
  -- the frame behind it
  have hset : ∀ {x : AV} {v : Value} {φ' : Mp}, Sub φ φ' → x.rel φ' v → ∀ (t : Nat) (y : AV), (setT st.tm o.dst x)[t]? = some y → (∀ (k : Nat) (fe : Fe), fes[k]? = some fe → S k = false → fe.dst ≠ some t) → y.rel φ' ((a.put o.dst v).eval (.tmp t)) := by
    intro x v φ' hs hxv t y hy hno
    rcases setT_get hy with ⟨h1, rfl⟩ | ⟨h1, h2⟩
    · rw [h1, put_eval_self]
      · exact hxv
      · rw [hD.size]
        rw [h1] at hdst
        exact Nat.le_of_ble_eq_true hdst
    · rw [put_eval_ne h1]
      exact AV.rel_mono hs (hD.tm t y h2 hno)
  have hltm : ∀ {x : AV} (k : Nat) (fe : Fe) (t : Nat) (y : AV), fes[k]? = some fe → m.testBit k = false → fe.dst = some t → (setT st.tm o.dst x)[t]? = some y → y = fe.x := by
    intro x k fe t y hk hm hd hy
    rcases setT_get hy with ⟨h1, rfl⟩ | ⟨_, h2⟩
    · exact absurd h1 (sameD_symm (hck k fe hk hm).1 t hd)
    · exact hD.ltm k fe t y hk hm hd h2
  have hllk : ∀ {x : AV} (k : Nat) (fe : Fe) (t : Nat), fes[k]? = some fe → m.testBit k = false → inD fe.lk (some t) = true → (setT st.tm o.dst x)[t]? = (finT fes tm0)[t]? := by
    intro x k fe t hk hm hin
    rw [← hD.llk k fe t hk hm hin]
    have h1 := (hck k fe hk hm).2.1
    cases hd : o.dst with
    | none => rfl
    | some d =>
      have hne : d ≠ t := fun e => by
        rw [hd, e, hin] at h1; cases h1
      show (setN st.tm d x)[t]? = _
      rw [setN_eq, List.getElem?_set, if_neg hne]
  split at h
  · rename_i hw
    rw [hwant hw, if_pos rfl]
    split at h
    case h_2 => cases h
    rename_i x hp' nx' hev
    split at h
    case h_2 => cases h
    rename_i hnx
    obtain rfl := Nat.eq_of_beq_eq_true hnx
    have hW : (∃ t a y b off, o.op = .store t a y ∧ rhoR st.tm (looksL ops o) a = some (.e (.l (.p b off))) ∧ memN W b = true) ∨ (∃ y, o.op = .assign y) ∨ ∃ y, o.op = .move y := by
      split at h
      · rename_i t a' y hop
        split at h
        case h_2 => cases h
        rename_i b off hb
        split at h
        case h_2 => cases h
        rename_i hmem
        exact .inl ⟨t, a', y, b, off, hop, hb, hmem⟩
      · rename_i y hop; exact .inr (.inl ⟨y, hop⟩)
      · rename_i y hop; exact .inr (.inr ⟨y, hop⟩)
      · cases h
    have hst' : st' = ⟨setT st.tm o.dst x, hp', st.nx⟩ := by
      split at h
      · split at h
        case h_2 => cases h
        split at h
        case h_2 => cases h
        injection h with h; exact h.symm
      · injection h with h; exact h.symm
      · injection h with h; exact h.symm
      · cases h
    subst hst'
    refine (evOne_does hO hev hD.r hρ (fun i h1 h2 => by omega)).wp fun v w' ⟨φ', hE, hxv, hR', hFr⟩ => ?_
    refine hK φ' _ w' ⟨hD.ext.trans hE, hset hE.sub hxv, by rw [put_size, hD.size, setT_length], by rw [setT_length]; exact hD.len, hR', hD.fr.trans hFr, fun b hb hno => evOne_keep hev hW b (hD.keep b hb hno) hno, hD.cl, hD.done, hltm, hllk, by rw [put_defers]; exact hD.defers⟩
  · rename_i hw
    rw [hwant hw, if_neg (by simp)]
    injection h with h
    subst h
    exact hK φ _ w ⟨hD.ext, hset (fun _ _ h => h) (vUnd_rel φ), by rw [put_size, hD.size, setT_length], by rw [setT_length]; exact hD.len, hD.r, hD.fr, hD.keep, hD.cl, hD.done, hltm, hllk, by rw [put_defers]; exact hD.defers⟩
  · cases h
end
end Go.Proofs.YthiblfkmcdnalaaGreat.Ae
