/- The abstract evaluator, part 6: one operation: what it comes to, and that the model does so. -/
import Derived.Test.YthiblfkmcdnalaaGreatAe5
namespace Go.Proofs.YthiblfkmcdnalaaGreat.Ae
open Go.RowKit

section
variable {P : Program}
noncomputable def bytesEq : List UInt8 → List UInt8 → Bool
  | [], [] => true
  | a :: x, b :: y => match Nat.beq a.toNat b.toNat with
    | true => bytesEq x y
    | false => false
  | _, _ => false
theorem bytesEq_eq : ∀ (x y : List UInt8), bytesEq x y = (x == y)
  | [], [] => rfl
  | [], _ :: _ => rfl
  | _ :: _, [] => rfl
  | a :: x, b :: y => by
    simp only [bytesEq]
    have hb : Nat.beq a.toNat b.toNat = (a == b) := by
      rw [Bool.eq_iff_iff]
      simp only [beq_iff_eq]
      exact ⟨fun h => UInt8.toNat_inj.1 (Nat.eq_of_beq_eq_true h), fun h => by rw [h]; exact Nat.beq_refl _⟩
    rw [hb, bytesEq_eq x y, List.cons_beq_cons]
    cases a == b <;> rfl
noncomputable def strS (op : BinOp) (a b : ByteArray) : Option Value :=
  match op with
  | .add => match Nat.ble (a.data.toList.length + b.data.toList.length) 65536 with
    | true => some (.string ⟨⟨a.data.toList ++ b.data.toList⟩⟩)
    | false => none
  | .eql => some (.bool (bytesEq a.data.toList b.data.toList))
  | .neq => some (.bool (!bytesEq a.data.toList b.data.toList))
  | _ => none
theorem strS_sound {op : BinOp} {a b : ByteArray} {v : Value} (h : strS op a b = some v) (t : TypeId) (w : World) : (binOp op t (.string a) (.string b)).run P w = .ok v w := by
  have hl : ∀ s : ByteArray, s.toList = s.data.toList := by intro s; rw [ByteArray.toList_eq]
  unfold strS at h
  split at h
  · split at h
    case h_2 => cases h
    rename_i hle
    have hle := Nat.le_of_ble_eq_true hle
    injection h with h
    subst h
    have hs : ∀ s : ByteArray, s.size = s.data.toList.length := fun s => by rw [Array.length_toList]; rfl
    have h2 : ¬ (9223372036854775807 < (a.size : Int) + (b.size : Int)) := by rw [hs a, hs b]; omega
    have happ : a ++ b = ⟨⟨a.data.toList ++ b.data.toList⟩⟩ := by
      apply ByteArray.ext
      simp
    simp [binOp, Op.stringOp, h2, happ]
  · injection h with h
    subst h
    simp [binOp, Op.stringOp, hl, bytesEq_eq]
  · injection h with h
    subst h
    simp [binOp, Op.stringOp, hl, bytesEq_eq]
  · cases h
/-- two operands -/
noncomputable def evBin (P : Program) (ρ : Operand → Option AV) (o : Oper) (op : BinOp) (t : TypeId) (x y : Operand) : Option AV :=
  match ρ x, ρ y with
  | some (.e (.l (.c (.int k a)))), some (.e (.l (.c (.int k' b)))) => match decide (k = k') with
    | true => match binI op k a b with
      | some v => some (.e (.l (.c v)))
      | none => evPure P ρ o
    | false => evPure P ρ o
  | some (.e (.l (.c (.string a)))), some (.e (.l (.c (.string b)))) => match strS op a b with
    | some v => some (.e (.l (.c v)))
    | none => none
  | some a, some b => match cmpNil P op t a b with
    | some v => some (.e (.l (.c v)))
    | none => evPure P ρ o
  | _, _ => none
theorem execOp_bin {ρc : Operand → Value} {o : Oper} {op : BinOp} {t yt : TypeId} {x y : Operand} (ho : o.op = .binOp op t x y yt) {v : Value} {w : World} (h : ((do eqGuard op t x y (ρc x) (ρc y); binOp op t (ρc x) (ρc y)) : Sem Value).run P w = .ok v w) : (execOp ρc o).run P w = .ok (.value v) w := by
  unfold execOp
  rw [ho]
  rw [Sem.run_bind, h]
  rfl
theorem evBin_sound {φ : Mp} {ρ : Operand → Option AV} {ρc : Operand → Value} (hρ : ∀ x a, ρ x = some a → a.rel φ (ρc x)) {o : Oper} {op : BinOp} {t yt : TypeId} {x y : Operand} (ho : o.op = .binOp op t x y yt) {r : AV} (h : evBin P ρ o op t x y = some r) (w : World) :
    ∃ v, (execOp ρc o).run P w = .ok (.value v) w ∧ r.rel φ v := by
  unfold evBin at h
  split at h
  · rename_i k a k' b hx hy
    split at h
    case h_2 => exact evPure_sound hρ h w
    rename_i hk
    obtain rfl : k = k' := by simpa using hk
    split at h
    case h_2 => exact evPure_sound hρ h w
    rename_i v hv
    injection h with h
    subst h
    have hx : ρc x = .int k a := hρ x _ hx
    have hy : ρc y = .int k b := hρ y _ hy
    refine ⟨v, execOp_bin ho ?_, rfl⟩
    rw [hx, hy, Sem.run_bind, run_eqGuard (by simp) (by simp)]
    exact binI_sound hv t w
  · rename_i a b hx hy
    split at h
    case h_2 => cases h
    rename_i v hv
    injection h with h
    subst h
    have hx : ρc x = .string a := hρ x _ hx
    have hy : ρc y = .string b := hρ y _ hy
    refine ⟨v, execOp_bin ho ?_, rfl⟩
    rw [hx, hy, Sem.run_bind, run_eqGuard (by simp) (by simp)]
    exact strS_sound hv t w
  · rename_i a b _ _ hx hy
    split at h
    case h_2 => exact evPure_sound hρ h w
    rename_i v hv
    injection h with h
    subst h
    exact ⟨v, execOp_bin ho (cmpNil_sound hv (hρ x _ hx) (hρ y _ hy) x y w), rfl⟩
  · cases h
noncomputable def vUnd : AV := .e (.l (.c undef))
noncomputable def vR (x : AV) (hp : Hp) (nx : Nat) : Option OR := some (.val x hp nx)
noncomputable def oR (hp : Hp) (nx : Nat) : Option AV → Option OR
  | some a => some (.val a hp nx)
  | none => none
noncomputable def tR : Option (AV × Hp × Nat) → Option OR
  | some (y, hp', nx') => some (.val y hp' nx')
  | none => none
noncomputable def hpR (x : AV) (nx : Nat) : Option Hp → Option OR
  | some hp' => some (.val x hp' nx)
  | none => none
noncomputable def pureR (P : Program) (ρ : Operand → Option AV) (hp : Hp) (nx : Nat) (o : Oper) : Option OR := oR hp nx (evPure P ρ o)
noncomputable def bPick (hp : Hp) (nx : Nat) (ρ : Operand → Option AV) (a b : Operand) : Option AV → Option OR
  | some (.e (.l (.c (.bool true)))) => oR hp nx (ρ a)
  | some (.e (.l (.c (.bool false)))) => oR hp nx (ρ b)
  | _ => none
noncomputable def bAlloc (P : Program) (hp : Hp) (nx : Nat) (t : TypeId) : Option OR :=
  match tinfo P t with
  | some ti => some (.val (.e (.l (.p nx 0))) (⟨nx, consts ti.zero, t, 0⟩ :: hp) (nx + 1))
  | none => none
noncomputable def bBox (hp : Hp) (nx : Nat) (t : TypeId) : Option AV → Option OR
  | some a => match a.cells with
    | some cs => some (.val (.e (.l (.p nx 0))) (⟨nx, cs, t, 0⟩ :: hp) (nx + 1))
    | none => none
  | none => none
noncomputable def bBuild (P : Program) (hp : Hp) (nx : Nat) (t : TypeId) : Option (List (Nat × List LV)) → Option OR
  | some l => oR hp nx (opBuild P t l)
  | none => none
noncomputable def bBuildSlice (P : Program) (hp : Hp) (nx : Nat) (t : TypeId) (len : Nat) : Option (List (Nat × List LV)) → Option OR
  | some l => tR (opBuildSlice P hp nx t len l)
  | none => none
noncomputable def bLoad (P : Program) (hp : Hp) (nx : Nat) (t : TypeId) : Option AV → Option OR
  | some a => oR hp nx (opLoad P hp t a)
  | none => none
noncomputable def bStore (P : Program) (lo : Nat) (hp : Hp) (nx : Nat) (t : TypeId) : Option AV → Option AV → Option OR
  | some a, some x => hpR vUnd nx (opStore P lo hp t a x)
  | _, _ => none
noncomputable def bNil (P : Program) (ρ : Operand → Option AV) (hp : Hp) (nx : Nat) (o : Oper) : Option AV → Option OR
  | some (.e (.l (.p b off))) => some (.val (.e (.l (.p b off))) hp nx)
  | _ => pureR P ρ hp nx o
noncomputable def bNot (hp : Hp) (nx : Nat) : Option AV → Option OR
  | some (.e (.l (.c (.bool b)))) => some (.val (.e (.l (.c (.bool (!b))))) hp nx)
  | _ => none
noncomputable def bMake (P : Program) (hp : Hp) (nx : Nat) (t : TypeId) : Option AV → Option AV → Option OR
  | some l, some c => tR (opMake P hp nx t l c)
  | _, _ => none
noncomputable def bSlice (P : Program) (ρ : Operand → Option AV) (hp : Hp) (nx : Nat) (o : Oper) (t : TypeId) : Option AV → Option (Option AV) → Option (Option AV) → Option (Option AV) → Option OR
  | some a, some l, some h, some m => match opSlice P t a l h m with
    | some y => some (.val y hp nx)
    | none => pureR P ρ hp nx o
  | _, _, _, _ => none
noncomputable def bFieldAddr (P : Program) (hp : Hp) (nx : Nat) (t : TypeId) (f : Nat) : Option AV → Option OR
  | some a => oR hp nx (opFieldAddr P t a f)
  | none => none
noncomputable def bField (P : Program) (hp : Hp) (nx : Nat) (t : TypeId) (f : Nat) : Option AV → Option OR
  | some a => oR hp nx (opField P t a f)
  | none => none
noncomputable def bIndexAddr (P : Program) (hp : Hp) (nx : Nat) (t : TypeId) : Option AV → Option AV → Option OR
  | some a, some b => oR hp nx (opIndexAddr P t a b)
  | _, _ => none
noncomputable def bExtract (hp : Hp) (nx : Nat) (ix : Nat) : Option AV → Option OR
  | some (.t xs) => match nth xs ix with
    | some y => some (.val (.e y) hp nx)
    | none => none
  | _ => none
noncomputable def bFunc (P : Program) (ρ : Operand → Option AV) (hp : Hp) (nx : Nat) (o : Oper) (fn : Fn) : List Operand → List Operand → Option OR
  | [], [] => pureR P ρ hp nx o
  | [], cs => match argsA ρ cs with
    | some l => match capsA l with
      | some l => some (.val (.e (.l (.f fn l))) hp nx)
      | none => none
    | none => none
  | _, _ => none
noncomputable def bCallV (ok : Nat → Bool) : Option (List AV) → Option AV → Option OR
  | some args, some (.e (.l (.c (.func (.func g) first cap)))) => match first.toList, cap.toList, ok g with
    | [], [], true => some (.enter g args)
    | _, _, _ => none
  | some args, some (.e (.l (.f (.func g) caps))) => match ok g with
    | true => some (.enter g (args ++ capsV caps))
    | false => none
  | _, _ => none
noncomputable def bAppend (P : Program) (lo : Nat) (ρ : Operand → Option AV) (hp : Hp) (nx : Nat) : List Operand → List TypeId → Option OR
  | [s, x], [t, tx] => match ρ s, ρ x with
    | some s, some x => tR (opAppend P lo hp nx t tx s x)
    | _, _ => none
  | _, _ => none
noncomputable def bLen (P : Program) (ρ : Operand → Option AV) (hp : Hp) (nx : Nat) (o : Oper) : List Operand → List TypeId → Option OR
  | [x], [t] => match P.underlying t, ρ x with
    | some (.slice _), some a => oR hp nx (opLen a)
    | _, _ => pureR P ρ hp nx o
  | _, _ => none
noncomputable def bClear (P : Program) (lo : Nat) (ρ : Operand → Option AV) (hp : Hp) (nx : Nat) : List Operand → List TypeId → Option OR
  | [x], [t] => match ρ x with
    | some a => hpR (.e (.l (.c (.tuple #[])))) nx (opClear P lo hp t a)
    | none => none
  | _, _ => none
noncomputable def bCall (P : Program) (ok : Nat → Bool) (lo : Nat) (ρ : Operand → Option AV) (hp : Hp) (nx : Nat) (o : Oper) (c : Go.Call) : Option OR :=
  match c.callee with
  | .value f => bCallV ok (argsA ρ c.args.toList) (ρ f)
  | .builtin .append => bAppend P lo ρ hp nx c.args.toList c.argTypes.toList
  | .builtin .len => bLen P ρ hp nx o c.args.toList c.argTypes.toList
  | .builtin .clear => bClear P lo ρ hp nx c.args.toList c.argTypes.toList
  | _ => pureR P ρ hp nx o
/-- one operation -/
noncomputable def evOp (P : Program) (ok : Nat → Bool) (lo : Nat) (ρ : Operand → Option AV) (hp : Hp) (nx : Nat) (o : Oper) : Option OR :=
  match o.op with
  | .move x => oR hp nx (ρ x)
  | .assign x => oR hp nx (ρ x)
  | .pick c a b => bPick hp nx ρ a b (ρ c)
  | .alloc t => bAlloc P hp nx t
  | .box t x => bBox hp nx t (ρ x)
  | .build t parts => bBuild P hp nx t (partsA ρ parts.toList)
  | .buildSlice t len parts => bBuildSlice P hp nx t len (partsA ρ parts.toList)
  | .load t a => bLoad P hp nx t (ρ a)
  | .store t a x => bStore P lo hp nx t (ρ a) (ρ x)
  | .nilCheck x => bNil P ρ hp nx o (ρ x)
  | .binOp op t x y _ => oR hp nx (evBin P ρ o op t x y)
  | .unOp .not _ x => bNot hp nx (ρ x)
  | .makeSlice t l c => bMake P hp nx t (ρ l) (ρ c)
  | .slice t x lo' hi mx => bSlice P ρ hp nx o t (ρ x) (noneOr lo' ρ) (noneOr hi ρ) (noneOr mx ρ)
  | .fieldAddr t x f => bFieldAddr P hp nx t f (ρ x)
  | .field t x f => bField P hp nx t f (ρ x)
  | .indexAddr t x i => bIndexAddr P hp nx t (ρ x) (ρ i)
  | .extract x ix => bExtract hp nx ix (ρ x)
  | .makeFunc fn first captured => bFunc P ρ hp nx o fn first.toList captured.toList
  | .call c => bCall P ok lo ρ hp nx o c
  | _ => pureR P ρ hp nx o
/-- what the model does at an operation -/
noncomputable def DoesVal (P : Program) (ρc : Operand → Value) (o : Oper) (w : World) (v : Value) (w' : World) : Prop :=
  (execOp ρc o).run P w = .ok (.value v) w' ∨ ((execOp ρc o).run P w = .ok .skip w' ∧ v = undef)
noncomputable def OpSound (P : Program) (lo : Nat) (φ : Mp) (hp : Hp) (nx : Nat) (ρc : Operand → Value) (o : Oper) (w : World) : OR → Prop
  | .val y hp' nx' => Fresh φ nx nx' → ∃ v w', DoesVal P ρc o w v w' ∧ Out lo φ hp nx w y hp' nx' v w'
  | .enter f args => ∃ args', (execOp ρc o).run P w = .ok (.enter f args') w ∧ All2 (AV.rel φ) args args'.toList
theorem execOp_val {ρc : Operand → Value} {o : Oper} {m : Sem Value} {w w' : World} {v : Value} (he : execOp ρc o = (do pure (Next.value (← m)))) (h : m.run P w = .ok v w') : DoesVal P ρc o w v w' := by
  left
  rw [he, Sem.run_bind, h]
  rfl
theorem execOp_skip {ρc : Operand → Value} {o : Oper} {m : Sem Unit} {w w' : World} (he : execOp ρc o = (do m; pure Next.skip)) (h : m.run P w = .ok () w') : DoesVal P ρc o w undef w' := by
  right
  rw [he, Sem.run_bind, h]
  exact ⟨rfl, rfl⟩
theorem out_same {lo : Nat} {φ : Mp} {hp : Hp} {nx : Nat} {ρc : Operand → Value} {o : Oper} {w : World} (hR : R φ hp nx w) {y : AV} {v : Value} (hd : DoesVal P ρc o w v w) (hy : y.rel φ v) : OpSound P lo φ hp nx ρc o w (.val y hp nx) :=
  fun _ => ⟨v, w, hd, Out.same hR hy⟩
theorem pureR_sound {lo : Nat} {φ : Mp} {hp : Hp} {nx : Nat} {w : World} (hR : R φ hp nx w) {ρ : Operand → Option AV} {ρc : Operand → Value} (hρ : ∀ x a, ρ x = some a → a.rel φ (ρc x)) {o : Oper} {r : OR} (h : pureR P ρ hp nx o = some r) : OpSound P lo φ hp nx ρc o w r := by
  unfold pureR oR at h
  split at h
  case h_2 => cases h
  rename_i y hy
  injection h with h
  subst h
  obtain ⟨v, h1, h2⟩ := evPure_sound hρ hy w
  exact out_same hR (.inl h1) h2
theorem evOp_sound {ok : Nat → Bool} (hok : ∀ g, ok g = true → ∀ args w, (callFunc g args).run P w = .ok (.enter g args) w) {lo : Nat} {φ : Mp} {hp : Hp} {nx : Nat} {w : World} (hR : R φ hp nx w) {ρ : Operand → Option AV} {ρc : Operand → Value} (hρ : ∀ x a, ρ x = some a → a.rel φ (ρc x)) {o : Oper} {r : OR} (h : evOp P ok lo ρ hp nx o = some r) : OpSound P lo φ hp nx ρc o w r := by
  obtain ⟨dst, op, type, pos, after, guard⟩ := o
  unfold evOp at h
  split at h
  · -- move
    rename_i x ho
    simp only at ho; subst ho
    unfold oR at h
    (first | split at h | (unfold oR at h; split at h) | (unfold tR at h; split at h) | (unfold hpR at h; split at h))
    case h_2 => cases h
    rename_i a ha
    injection h with h
    subst h
    exact out_same hR (.inl rfl) (hρ _ _ ha)
  · -- assign
    rename_i x ho
    simp only at ho; subst ho
    unfold oR at h
    (first | split at h | (unfold oR at h; split at h) | (unfold tR at h; split at h) | (unfold hpR at h; split at h))
    case h_2 => cases h
    rename_i a ha
    injection h with h
    subst h
    exact out_same hR (.inl rfl) (hρ _ _ ha)
  · -- pick
    rename_i c a b ho
    simp only at ho; subst ho
    unfold bPick at h
    (first | split at h | (unfold oR at h; split at h) | (unfold tR at h; split at h) | (unfold hpR at h; split at h))
    · rename_i hc
      have hc : ρc c = .bool true := hρ _ _ hc
      (first | split at h | (unfold oR at h; split at h) | (unfold tR at h; split at h) | (unfold hpR at h; split at h))
      case h_2 => cases h
      rename_i a' ha
      injection h with h
      subst h
      exact out_same hR (.inl (by simp [execOp, hc, asBool])) (hρ _ _ ha)
    · rename_i hc
      have hc : ρc c = .bool false := hρ _ _ hc
      (first | split at h | (unfold oR at h; split at h) | (unfold tR at h; split at h) | (unfold hpR at h; split at h))
      case h_2 => cases h
      rename_i a' ha
      injection h with h
      subst h
      exact out_same hR (.inl (by simp [execOp, hc, asBool])) (hρ _ _ ha)
    · cases h
  · -- alloc
    rename_i t ho
    simp only at ho; subst ho
    unfold bAlloc at h
    (first | split at h | (unfold oR at h; split at h) | (unfold tR at h; split at h) | (unfold hpR at h; split at h))
    case h_2 => cases h
    rename_i ti hti
    obtain ⟨i, z, hi, hu, hz, hz2, hs, _⟩ := tinfo_spec hti
    injection h with h
    subst h
    intro hf
    have hn := new_out (lo := lo) (cs := consts ti.zero) (arr := z.cells) hR hf t (by rw [hz2]; exact consts_rel φ _)
    exact ⟨_, _, execOp_val rfl (by simp [Instr.alloc, zeroValue, typeInfo, hi, hz, newVar, run_newRow]), hn⟩
  · -- box
    rename_i t x ho
    simp only at ho; subst ho
    unfold bBox at h
    (first | split at h | (unfold oR at h; split at h) | (unfold tR at h; split at h) | (unfold hpR at h; split at h))
    case h_2 => cases h
    rename_i a ha
    (first | split at h | (unfold oR at h; split at h) | (unfold tR at h; split at h) | (unfold hpR at h; split at h))
    case h_2 => cases h
    rename_i cs hcs
    injection h with h
    subst h
    intro hf
    exact ⟨_, _, execOp_val rfl (run_box w t _), new_out hR hf t (AV.cells_spec hcs (hρ _ _ ha))⟩
  · -- build
    rename_i t parts ho
    simp only at ho; subst ho
    unfold bBuild at h
    (first | split at h | (unfold oR at h; split at h) | (unfold tR at h; split at h) | (unfold hpR at h; split at h))
    case h_2 => cases h
    rename_i l hl
    (first | split at h | (unfold oR at h; split at h) | (unfold tR at h; split at h) | (unfold hpR at h; split at h))
    case h_2 => cases h
    rename_i y hy
    injection h with h
    subst h
    have hp := partsA_spec hρ hl
    obtain ⟨v, h1, h2⟩ := opBuild_sound (P := P) (pv := parts.map fun p => (p.1, ρc p.2)) (by simpa using hp) hy w
    exact out_same hR (execOp_val rfl h1) h2
  · -- buildSlice
    rename_i t len parts ho
    simp only at ho; subst ho
    unfold bBuildSlice at h
    (first | split at h | (unfold oR at h; split at h) | (unfold tR at h; split at h) | (unfold hpR at h; split at h))
    case h_2 => cases h
    rename_i l hl
    (first | split at h | (unfold oR at h; split at h) | (unfold tR at h; split at h) | (unfold hpR at h; split at h))
    case h_2 => cases h
    rename_i y hp' nx' hy
    injection h with h
    subst h
    have hp := partsA_spec hρ hl
    intro hf
    obtain ⟨v, w', h1, h2⟩ := opBuildSlice_sound (P := P) (lo := lo) hR (pv := parts.map fun p => (p.1, ρc p.2)) (by simpa using hp) hy hf
    exact ⟨v, w', execOp_val rfl h1, h2⟩
  · -- load
    rename_i t a ho
    simp only at ho; subst ho
    unfold bLoad at h
    (first | split at h | (unfold oR at h; split at h) | (unfold tR at h; split at h) | (unfold hpR at h; split at h))
    case h_2 => cases h
    rename_i a' ha
    (first | split at h | (unfold oR at h; split at h) | (unfold tR at h; split at h) | (unfold hpR at h; split at h))
    case h_2 => cases h
    rename_i y hy
    injection h with h
    subst h
    obtain ⟨ad, v', h1, h2, h3⟩ := opLoad_var (P := P) hR hy (hρ _ _ ha)
    exact out_same hR (execOp_val rfl (by rw [h1]; simpa [Instr.loadAt, Instr.sureAddr] using h2)) h3
  · -- store
    rename_i t a x ho
    simp only at ho; subst ho
    unfold bStore at h
    (first | split at h | (unfold oR at h; split at h) | (unfold tR at h; split at h) | (unfold hpR at h; split at h))
    case h_2 => cases h
    rename_i a' x' ha hx
    (first | split at h | (unfold oR at h; split at h) | (unfold tR at h; split at h) | (unfold hpR at h; split at h))
    case h_2 => cases h
    rename_i hp' hs
    injection h with h
    subst h
    intro _
    have har := hρ _ _ ha
    unfold opStore at hs
    split at hs
    case h_2 => cases hs
    rename_i b off
    obtain ⟨g, κ, hg, hv⟩ := rel_p har
    split at hs
    case h_2 => cases hs
    rename_i k hk
    split at hs
    case h_2 => cases hs
    rename_i ti hti
    obtain ⟨i, z, hi, hu, hz, hz2, hsz, _⟩ := tinfo_spec hti
    split at hs
    case h_2 => cases hs
    rename_i cs hcs
    split at hs
    case h_2 => cases hs
    rename_i hb
    simp only [Bool.and_eq_true] at hb
    have b1 := Nat.eq_of_beq_eq_true hb.1.1.1
    have b2 : off + cs.length ≤ k.cs.length := by rw [b1]; exact lenGe_spec hb.1.1.2
    have b3 := Nat.le_of_ble_eq_true hb.1.2
    rw [spl_eq _ _ _ b2] at hs
    injection hs with hs
    subst hs
    have hc := AV.cells_spec hcs (hρ _ _ hx)
    obtain ⟨hk1, hk2, arr, hw, hca, hf0, hf1⟩ := hR.block hk hg
    have hcl := hca.len
    rw [List.length_take] at hcl
    simp at hcl
    obtain ⟨w', h1, h2, h3⟩ := write_step (P := P) hR hk hg b3 hc (all_one hc hb.2) hw (off := off) (by omega) (by omega) (fun _ => b2)
    have hcl2 := hc.len
    simp at hcl2
    refine ⟨_, w', execOp_skip rfl (m := Instr.storeAt t (ρc a) (ρc x)) ?_, φ, .refl _ _, rfl, h2, h3⟩
    rw [hv]
    have hsize : ¬ ((ρc x).cells.size ≠ i.size) := by omega
    simp [Instr.storeAt, Instr.sureAddr, storeVar, sizeOf, typeInfo, hi, show (ρc x).cells.size = i.size by omega, h1]
  · -- nilCheck
    rename_i x ho
    simp only at ho; subst ho
    unfold bNil at h
    (first | split at h | (unfold oR at h; split at h) | (unfold tR at h; split at h) | (unfold hpR at h; split at h))
    · rename_i b off hx
      obtain ⟨g, κ, hg, hv⟩ := rel_p (hρ _ _ hx)
      injection h with h
      subst h
      exact out_same hR (v := .pointer (some ⟨g, off, none⟩)) (.inl (by simp [execOp, hv])) ⟨g, κ, hg, rfl⟩
    · exact pureR_sound hR hρ h
  · -- binOp
    rename_i op t x y yt ho
    simp only at ho; subst ho
    unfold oR at h
    (first | split at h | (unfold oR at h; split at h) | (unfold tR at h; split at h) | (unfold hpR at h; split at h))
    case h_2 => cases h
    rename_i r' hr
    injection h with h
    subst h
    obtain ⟨v, h1, h2⟩ := evBin_sound hρ rfl hr w
    exact out_same hR (.inl h1) h2
  · -- not
    rename_i t x ho
    simp only at ho; subst ho
    unfold bNot at h
    (first | split at h | (unfold oR at h; split at h) | (unfold tR at h; split at h) | (unfold hpR at h; split at h))
    case h_2 => cases h
    rename_i b hb
    have hb : ρc x = .bool b := hρ _ _ hb
    injection h with h
    subst h
    exact out_same hR (.inl (by simp [execOp, hb, Op.unary])) rfl
  · -- makeSlice
    rename_i t l c ho
    simp only at ho; subst ho
    unfold bMake at h
    (first | split at h | (unfold oR at h; split at h) | (unfold tR at h; split at h) | (unfold hpR at h; split at h))
    case h_2 => cases h
    rename_i l' c' hl hc
    (first | split at h | (unfold oR at h; split at h) | (unfold tR at h; split at h) | (unfold hpR at h; split at h))
    case h_2 => cases h
    rename_i y hp' nx' hy
    injection h with h
    subst h
    intro hf
    obtain ⟨v, w', h1, h2⟩ := opMake_sound (P := P) (lo := lo) hR hy hf (hρ _ _ hl) (hρ _ _ hc)
    exact ⟨v, w', execOp_val rfl h1, h2⟩
  · -- slice
    rename_i t x l hi mx ho
    simp only at ho; subst ho
    unfold bSlice at h
    (first | split at h | (unfold oR at h; split at h) | (unfold tR at h; split at h) | (unfold hpR at h; split at h))
    case h_2 => cases h
    rename_i a l' h' m' ha hl hh hm
    (first | split at h | (unfold oR at h; split at h) | (unfold tR at h; split at h) | (unfold hpR at h; split at h))
    · rename_i y hy
      injection h with h
      subst h
      obtain ⟨v, h1, h2⟩ := opSlice_sound (P := P) hy (hρ _ _ ha) (noneOr_spec hρ hl) (noneOr_spec hρ hh) (noneOr_spec hρ hm) w
      exact out_same hR (execOp_val rfl h1) h2
    · exact pureR_sound hR hρ h
  · -- fieldAddr
    rename_i t x f ho
    simp only at ho; subst ho
    unfold bFieldAddr at h
    (first | split at h | (unfold oR at h; split at h) | (unfold tR at h; split at h) | (unfold hpR at h; split at h))
    case h_2 => cases h
    rename_i a ha
    (first | split at h | (unfold oR at h; split at h) | (unfold tR at h; split at h) | (unfold hpR at h; split at h))
    case h_2 => cases h
    rename_i y hy
    injection h with h
    subst h
    obtain ⟨v, h1, h2⟩ := opFieldAddr_sound (P := P) hy (hρ _ _ ha) w
    exact out_same hR (execOp_val rfl h1) h2
  · -- field
    rename_i t x f ho
    simp only at ho; subst ho
    unfold bField at h
    (first | split at h | (unfold oR at h; split at h) | (unfold tR at h; split at h) | (unfold hpR at h; split at h))
    case h_2 => cases h
    rename_i a ha
    (first | split at h | (unfold oR at h; split at h) | (unfold tR at h; split at h) | (unfold hpR at h; split at h))
    case h_2 => cases h
    rename_i y hy
    injection h with h
    subst h
    obtain ⟨v, h1, h2⟩ := opField_sound (P := P) hy (hρ _ _ ha) w
    exact out_same hR (execOp_val rfl h1) h2
  · -- indexAddr
    rename_i t x i ho
    simp only at ho; subst ho
    unfold bIndexAddr at h
    (first | split at h | (unfold oR at h; split at h) | (unfold tR at h; split at h) | (unfold hpR at h; split at h))
    case h_2 => cases h
    rename_i a b ha hb
    (first | split at h | (unfold oR at h; split at h) | (unfold tR at h; split at h) | (unfold hpR at h; split at h))
    case h_2 => cases h
    rename_i y hy
    injection h with h
    subst h
    obtain ⟨v, h1, h2⟩ := opIndexAddr_sound (P := P) hy (hρ _ _ ha) (hρ _ _ hb) w
    exact out_same hR (execOp_val rfl h1) h2
  · -- extract
    rename_i x ix ho
    simp only at ho; subst ho
    unfold bExtract at h
    (first | split at h | (unfold oR at h; split at h) | (unfold tR at h; split at h) | (unfold hpR at h; split at h))
    case h_2 => cases h
    rename_i xs hx
    (first | split at h | (unfold oR at h; split at h) | (unfold tR at h; split at h) | (unfold hpR at h; split at h))
    case h_2 => cases h
    rename_i y hy
    injection h with h
    subst h
    obtain ⟨vs, h1, h2⟩ : ∃ vs, All2 (EV.rel φ) xs vs ∧ ρc x = .tuple vs.toArray := hρ _ _ hx
    obtain ⟨v, h3, h4⟩ := h1.get (nth_get hy)
    exact out_same hR (.inl (by simp [execOp, Instr.extract, h2, h3])) h4
  · -- makeFunc
    rename_i fn first captured ho
    simp only at ho; subst ho
    unfold bFunc at h
    (first | split at h | (unfold oR at h; split at h) | (unfold tR at h; split at h) | (unfold hpR at h; split at h))
    · exact pureR_sound hR hρ h
    · rename_i hfi _
      (first | split at h | (unfold oR at h; split at h) | (unfold tR at h; split at h) | (unfold hpR at h; split at h))
      case h_2 => cases h
      rename_i l hl
      (first | split at h | (unfold oR at h; split at h) | (unfold tR at h; split at h) | (unfold hpR at h; split at h))
      case h_2 => cases h
      rename_i l2 hl2
      injection h with h
      subst h
      have h1 := capsA_spec hl2 (argsA_spec hρ hl)
      refine out_same hR (v := .func fn #[] (captured.toList.map ρc).toArray) (.inl ?_) ⟨_, h1, rfl⟩
      have hf0 : first = #[] := by apply Array.ext'; exact hfi
      subst hf0
      have hcap : (captured.toList.map ρc).toArray = captured.map ρc := by apply Array.ext'; simp
      rw [hcap]
      simp [execOp, Instr.makeFunc]
    · cases h
  · -- call
    rename_i c ho
    simp only at ho; subst ho
    unfold bCall at h
    (first | split at h | (unfold oR at h; split at h) | (unfold tR at h; split at h) | (unfold hpR at h; split at h))
    · -- a function value
      rename_i f hcal
      unfold bCallV at h
      have hmap : (c.args.map ρc).toList = c.args.toList.map ρc := by simp
      split at h
      · rename_i args g first cap hargs hf
        have hA := argsA_spec hρ hargs
        have hf : ρc f = .func (.func g) first cap := hρ _ _ hf
        split at h
        case h_2 => cases h
        rename_i h1 h2 h3
        injection h with h
        subst h
        obtain rfl : first = #[] := by apply Array.ext'; exact h1
        obtain rfl : cap = #[] := by apply Array.ext'; exact h2
        refine ⟨c.args.map ρc, ?_, by rw [hmap]; exact hA⟩
        simp [execOp, resolve, hcal, hf, Deferred.ofValue, invoke, hok g h3]
      · rename_i args g caps hargs hf
        have hA := argsA_spec hρ hargs
        obtain ⟨vs, h1, hf⟩ : ∃ vs, All2 (ptrRel φ) caps vs ∧ ρc f = .func (.func g) #[] vs.toArray := hρ _ _ hf
        split at h
        case h_2 => cases h
        rename_i h3
        injection h with h
        subst h
        refine ⟨c.args.map ρc ++ vs.toArray, ?_, by rw [Array.toList_append, hmap]; exact hA.append (capsV_rel h1)⟩
        simp [execOp, resolve, hcal, hf, Deferred.ofValue, invoke, hok g h3]
      · cases h
    · -- append
      rename_i hcal
      unfold bAppend at h
      split at h
      case h_2 => cases h
      rename_i s x t tx hargs htys
      split at h
      case h_2 => cases h
      rename_i s' x' hs hx
      unfold tR at h
      split at h
      case h_2 => cases h
      rename_i y hp' nx' hy
      injection h with h
      subst h
      intro hf
      obtain ⟨callee, args, argTypes⟩ := c
      obtain rfl : callee = .builtin .append := hcal
      obtain rfl : args = #[s, x] := by apply Array.ext'; exact hargs
      obtain rfl : argTypes = #[t, tx] := by apply Array.ext'; exact htys
      obtain ⟨v, w', h1, h2⟩ := opAppend_sound (P := P) (lo := lo) (ty := type) hR hy hf (hρ _ _ hs) (hρ _ _ hx)
      exact ⟨v, w', .inl (by simp [execOp, resolve, invoke, builtin, h1]), h2⟩
    · -- len
      rename_i hcal
      unfold bLen at h
      split at h
      case h_2 => cases h
      rename_i x t hargs htys
      split at h
      · rename_i e a hu ha
        unfold oR at h
        split at h
        case h_2 => cases h
        rename_i y hy
        injection h with h
        subst h
        obtain ⟨callee, args, argTypes⟩ := c
        obtain rfl : callee = .builtin .len := hcal
        obtain rfl : args = #[x] := by apply Array.ext'; exact hargs
        obtain rfl : argTypes = #[t] := by apply Array.ext'; exact htys
        obtain ⟨v, h1, h2⟩ := opLen_sound (P := P) (ty := type) hy hu (hρ _ _ ha) w
        exact out_same hR (.inl (by simp [execOp, resolve, invoke, builtin, h1])) h2
      · exact pureR_sound hR hρ h
    · -- clear
      rename_i hcal
      unfold bClear at h
      split at h
      case h_2 => cases h
      rename_i x t hargs htys
      split at h
      case h_2 => cases h
      rename_i a ha
      unfold hpR at h
      split at h
      case h_2 => cases h
      rename_i hp' hy
      injection h with h
      subst h
      intro _
      obtain ⟨callee, args, argTypes⟩ := c
      obtain rfl : callee = .builtin .clear := hcal
      obtain rfl : args = #[x] := by apply Array.ext'; exact hargs
      obtain rfl : argTypes = #[t] := by apply Array.ext'; exact htys
      have har := hρ _ _ ha
      unfold opClear at hy
      split at hy
      · rename_i b off len cap
        obtain ⟨g, κ, hg, hv⟩ : ∃ g κ, φ b = some (g, κ) ∧ ρc x = .slice (some ⟨g, off, none⟩) len cap := har
        obtain ⟨w', h1, h2, h3⟩ := clr_sound (P := P) (ty := type) (c := cap) hR hy hg
        exact ⟨_, w', .inl (by simp [execOp, resolve, invoke, builtin, hv, h1]), φ, .refl _ _, rfl, h2, h3⟩
      · rename_i b off len d
        obtain ⟨g, κ, hg, _, hv⟩ : ∃ g κ, φ b = some (g, κ) ∧ len + d ≤ κ ∧ ρc x = .slice (some ⟨g, off, none⟩) len (κ - d) := har
        obtain ⟨w', h1, h2, h3⟩ := clr_sound (P := P) (ty := type) (c := κ - d) hR hy hg
        exact ⟨_, w', .inl (by simp [execOp, resolve, invoke, builtin, hv, h1]), φ, .refl _ _, rfl, h2, h3⟩
      · obtain ⟨a0, cap, hv⟩ : ∃ a cap, ρc x = .slice (some a) 0 cap := har
        split at hy
        case h_2 => cases hy
        rename_i e hu
        injection hy with hy
        subst hy
        exact ⟨_, w, .inl (by simp [execOp, resolve, invoke, builtin, hv, run_clear_zero hu]), φ, .refl _ _, rfl, hR, .refl _ _ _ _⟩
      · cases hy
    · exact pureR_sound hR hρ h
  · exact pureR_sound hR hρ h
end
end Go.Proofs.YthiblfkmcdnalaaGreat.Ae
