/- Regions that draw their order: threads. Each thread is a list of operations, proved by itself to go well from whatever world the other threads have made meanwhile; then every merging of the threads goes well. -/
import Derived.Test.YthiblfkmcdnalaaGreatRegS
namespace Go.Proofs.YthiblfkmcdnalaaGreat
set_option maxRecDepth 1000000
open Go.RowKit
set_option maxRecDepth 1000000

section
variable {P : Program} {md : Region.Mode} {ops : Array Oper} {s : Nat} {C : World → Prop} {Q : Exit → Act → World → Prop}
/-- temporaries written one behind the other -/
def putsL (a : Act) (p : List (Option Tmp × Value)) : Act := p.foldl (fun a x => a.put x.1 x.2) a
theorem putsL_append (a : Act) (p q : List (Option Tmp × Value)) : putsL a (p ++ q) = putsL (putsL a p) q := by simp [putsL]
theorem putsL_comm {d : Option Tmp} {v : Value} : ∀ (p : List (Option Tmp × Value)) (a : Act), (∀ x ∈ p, ∀ e, d = some e → x.1 ≠ some e) → (putsL a p).put d v = putsL (a.put d v) p
  | [], a, _ => rfl
  | x :: p, a, h => by
    show (putsL (a.put x.1 x.2) p).put d v = putsL ((a.put d v).put x.1 x.2) p
    rw [putsL_comm p _ fun y hy => h y (List.mem_cons_of_mem _ hy), Act.put_comm a v x.2 (h x List.mem_cons_self)]
theorem execOp_puts {o : Oper} (hs : ∀ cs b, o.op ≠ .select cs b) : ∀ (p : List (Option Tmp × Value)) (a : Act), (∀ x ∈ p, ∀ d, x.1 = some d → d ∉ o.looksAt ops) → execOp (putsL a p).eval o = execOp a.eval o
  | [], a, _ => rfl
  | x :: p, a, h => by
    show execOp (putsL (a.put x.1 x.2) p).eval o = _
    rw [execOp_puts hs p _ fun y hy => h y (List.mem_cons_of_mem _ hy), execOp_put o hs a x.1 x.2 (h x List.mem_cons_self)]

theorem putsL_size : ∀ (p : List (Option Tmp × Value)) (a : Act), (putsL a p).tmps.size = a.tmps.size
  | [], _ => rfl
  | (none, v) :: p, a => putsL_size p a
  | (some d, v) :: p, a => by
    show (putsL (a.put (some d) v) p).tmps.size = _
    rw [putsL_size p]
    simp [Act.put]
theorem putsL_eval {y : Operand} : ∀ (p : List (Option Tmp × Value)) (b c : Act), b.eval y = c.eval y → b.tmps.size = c.tmps.size → (putsL b p).eval y = (putsL c p).eval y
  | [], _, _, h, _ => h
  | (none, v) :: p, b, c, h, hs => putsL_eval p b c h hs
  | (some e, v) :: p, b, c, h, hs => by
    refine putsL_eval p (b.put (some e) v) (c.put (some e) v) ?_ (by simp [Act.put, hs])
    cases y with
    | tmp d =>
      simp only [Act.put, Act.eval, Array.getD_eq_getD_getElem?] at h ⊢
      by_cases hde : e = d
      · subst hde
        simp only [Array.getElem?_setIfInBounds_self]
        rw [hs]
      · rw [Array.getElem?_setIfInBounds_ne hde, Array.getElem?_setIfInBounds_ne hde]
        exact h
    | _ => first | (simp [Act.put, Act.eval]; done) | (simp [Act.put, Act.eval] at h ⊢; exact h) | simpa [Act.put, Act.eval] using h
theorem putsL_eval_off {y : Operand} : ∀ (q : List (Option Tmp × Value)) (a : Act), (∀ z ∈ q, ∀ d, z.1 = some d → y ≠ .tmp d) → (putsL a q).eval y = a.eval y
  | [], _, _ => rfl
  | z :: q, a, h => (putsL_eval_off q (a.put z.1 z.2) fun z' hz' => h z' (List.mem_cons_of_mem _ hz')).trans (Act.eval_put (h z List.mem_cons_self))
theorem execOp_puts_mid {o : Oper} (hs : ∀ cs b, o.op ≠ .select cs b) (q p : List (Option Tmp × Value)) (a : Act) (h : ∀ x ∈ q, ∀ d, x.1 = some d → d ∉ o.looksAt ops) : execOp (putsL (putsL a q) p).eval o = execOp (putsL a p).eval o := by
  refine execOp_congr o hs fun y hy => putsL_eval p _ _ (putsL_eval_off q a fun z hz d hd hyd => h z hz d hd ?_) (putsL_size q a)
  subst hyd
  exact List.mem_append_left _ (List.mem_filterMap.2 ⟨.tmp d, by simpa using hy, rfl⟩)
/-- each thread has come to its end -/
def AllT : List (List (Option Tmp × Value) → World → Prop) → List (List (Option Tmp × Value)) → World → Prop
  | [], [], _ => True
  | φ :: r, p :: q, w => φ p w ∧ AllT r q w
  | _, _, _ => False

/-- the operations go well, one behind the other, whatever other threads do in between -/
def Rob (P : Program) (C : World → Prop) : List Oper → Act → List (Option Tmp × Value) → World → (List (Option Tmp × Value) → World → Prop) → Prop
  | [], _, p, w, φ => ∀ w', C w' → Below w.heap.size w w' → φ p w'
  | o :: r, a, p, w, φ => ∀ w', C w' → Below w.heap.size w w' → Gives P o a w' fun v w'' => Below w'.heap.size w' w'' ∧ Rob P C r (a.put o.dst v) (p ++ [(o.dst, v)]) w'' φ
theorem Rob.up {l : List Oper} {a : Act} {p : List (Option Tmp × Value)} {w w' : World} {φ : List (Option Tmp × Value) → World → Prop} (h : Rob P C l a p w φ) (hb : Below w.heap.size w w') : Rob P C l a p w' φ := by
  cases l with
  | nil => exact fun U hC hU => h U hC (hb.trans (hU.mono hb.size))
  | cons o r => exact fun U hC hU => h U hC (hb.trans (hU.mono hb.size))

theorem Rob_one {o : Oper} {a : Act} {w : World} {φ : List (Option Tmp × Value) → World → Prop} (st : ∀ p w w', φ p w → Below w.heap.size w w' → φ p w') (h : ∀ U, C U → Below w.heap.size w U → Gives P o a U fun v w'' => Below U.heap.size U w'' ∧ φ [(o.dst, v)] w'') : Rob P C [o] a [] w φ := by
  intro U hC hb
  have := h U hC hb
  unfold Gives at *
  cases hr : (execOp a.eval o).run P U with
  | halt x w' => rw [hr] at this; exact this.elim
  | ok n w' =>
    rw [hr] at this
    cases n with
    | value v => exact ⟨this.1, fun w2 _ hb2 => st _ _ _ this.2 hb2⟩
    | enter f args => exact Calls.mono this fun e w'' ⟨v, he, h1, h2⟩ => ⟨v, he, h1, fun w2 _ hb2 => st _ _ _ h2 hb2⟩
    | _ => exact this.elim
structure Th where
  rest : List (Nat × Oper)
  p : List (Option Tmp × Value)
  φ : List (Option Tmp × Value) → World → Prop
/-- two threads do not meet -/
def Th.apart (ops : Array Oper) (T T' : Th) : Prop :=
  (∀ o ∈ T.rest, ∀ x ∈ T'.p, (∀ d, x.1 = some d → d ∉ o.2.looksAt ops) ∧ ∀ d, o.2.dst = some d → x.1 ≠ some d) ∧
  (∀ o ∈ T'.rest, ∀ x ∈ T.p, (∀ d, x.1 = some d → d ∉ o.2.looksAt ops) ∧ ∀ d, o.2.dst = some d → x.1 ≠ some d) ∧
  (∀ o ∈ T.rest, ∀ o' ∈ T'.rest, o.2.apart ops o'.2 = true)
def splits {α : Type} : List α → List (List α × α × List α)
  | [] => []
  | x :: l => ([], x, l) :: (splits l).map fun y => (x :: y.1, y.2)
theorem mem_splits {α : Type} (x : α) (r : List α) : ∀ l : List α, (l, x, r) ∈ splits (l ++ x :: r)
  | [] => List.mem_cons_self
  | y :: l => List.mem_cons_of_mem _ (List.mem_map.2 ⟨(l, x, r), mem_splits x r l, rfl⟩)
/-- whatever order is picked, it is a merging of the threads -/
def thB (md : Region.Mode) (ops : Array Oper) : Nat → Array Bool → List (List Nat) → Array Bool → Bool
  | 0, listed, _, fin => listed == fin
  | n + 1, listed, ts, fin => !(Region.ready md ops listed).isEmpty && ((Region.ready md ops listed).all fun k => ts.any fun T => T.head? == some k) &&
    (splits ts).all fun x => match x.2.1 with
      | [] => true
      | k :: r => thB md ops n (listed.setIfInBounds k true) (x.1 ++ r :: x.2.2) fin
def restLen (ts : List Th) : Nat := (ts.map fun T => T.rest.length).sum

theorem restLen_zero : ∀ ts : List Th, restLen ts = 0 → ∀ T ∈ ts, T.rest = []
  | [], _, _, h => by cases h
  | T :: ts, h, T', hT' => by
    simp only [restLen, List.map_cons, List.sum_cons] at h
    rcases List.mem_cons.1 hT' with rfl | hT'
    · exact List.eq_nil_of_length_eq_zero (by omega)
    · exact restLen_zero ts (by unfold restLen; omega) T' hT'
theorem threads {a0 : Act} {w0 : World} {fuel : Nat} {fin : Array Bool} (hsel : Region.noSelect ops = true) (hCu : ∀ w w', C w → Below w.heap.size w w' → C w') :
    ∀ (n : Nat) (listed : Array Bool) (ts : List Th) (w : World), restLen ts = n → thB md ops n listed (ts.map fun T => T.rest.map Prod.fst) fin = true →
      (∀ T ∈ ts, ∀ x ∈ T.rest, ops[x.1]? = some x.2 ∧ x.1 < s ∧ x.2.guard = none) → ts.Pairwise (Th.apart ops) → C w → Below w0.heap.size w0 w →
      (∀ T ∈ ts, Rob P C (T.rest.map Prod.snd) (putsL a0 T.p) T.p w T.φ) →
      (∀ ps w', AllT (ts.map Th.φ) ps w' → C w' → Below w0.heap.size w0 w' → wpAnyS P md ops s C Q fuel fin (putsL a0 ps.flatten) w') →
      wpAnyS P md ops s C Q (fuel + n) listed (putsL a0 (ts.flatMap Th.p)) w := by
  intro n
  induction n with
  | zero =>
    intro listed ts w hn hB _ _ hC hb hR H
    have hlf : listed = fin := by simpa [thB] using hB
    subst hlf
    have hz := restLen_zero ts hn
    have := H (ts.map Th.p) w ?_ hC hb
    · simpa [List.flatMap] using this
    · have : ∀ l : List Th, (∀ T ∈ l, T.rest = []) → (∀ T ∈ l, Rob P C (T.rest.map Prod.snd) (putsL a0 T.p) T.p w T.φ) → AllT (l.map Th.φ) (l.map Th.p) w := by
        intro l
        induction l with
        | nil => intro _ _; trivial
        | cons T l ih =>
          intro h1 h2
          refine And.intro ?_ (ih (fun T hT => h1 T (List.mem_cons_of_mem _ hT)) fun T hT => h2 T (List.mem_cons_of_mem _ hT))
          have := h2 T List.mem_cons_self
          rw [h1 T List.mem_cons_self] at this
          exact this w hC (Below.refl _ _)
      exact this ts hz hR
  | succ n ih =>
    intro listed ts w hn hB hops hap hC hb hR H
    simp only [thB, Bool.and_eq_true] at hB
    obtain ⟨⟨hne, hrd⟩, hsp⟩ := hB
    refine ⟨fun h0 => (by rw [h0] at hne; cases hne), fun k hk => ?_⟩
    have h1 := List.all_eq_true.1 hrd k hk
    obtain ⟨Ti, hTi, hhd⟩ := List.any_eq_true.1 h1
    obtain ⟨T, hT, rfl⟩ := List.mem_map.1 hTi
    obtain ⟨ts1, ts2, rfl⟩ := List.append_of_mem hT
    cases hr : T.rest with
    | nil => rw [hr] at hhd; simp at hhd
    | cons x r =>
      rw [hr] at hhd
      obtain rfl : x.1 = k := by simpa using hhd
      obtain ⟨ho, hs, hg⟩ := hops T hT x (by rw [hr]; exact List.mem_cons_self)
      have hsx := fun cs b => Region.noSelect_spec hsel x.1 x.2 cs b ho
      rw [List.pairwise_append] at hap
      obtain ⟨hap1, hap2, hap12⟩ := hap
      rw [List.pairwise_cons] at hap2
      obtain ⟨hapT, hap22⟩ := hap2
      have hd2 : ∀ y ∈ ts2.flatMap Th.p, (∀ d, y.1 = some d → d ∉ x.2.looksAt ops) ∧ ∀ d, x.2.dst = some d → y.1 ≠ some d := fun y hy => by
        obtain ⟨T', hT', hy'⟩ := List.mem_flatMap.1 hy
        exact (hapT T' hT').1 x (by rw [hr]; exact List.mem_cons_self) y hy'
      have hd1 : ∀ y ∈ ts1.flatMap Th.p, (∀ d, y.1 = some d → d ∉ x.2.looksAt ops) ∧ ∀ d, x.2.dst = some d → y.1 ≠ some d := fun y hy => by
        obtain ⟨T', hT', hy'⟩ := List.mem_flatMap.1 hy
        exact (hap12 T' hT' T List.mem_cons_self).2.1 x (by rw [hr]; exact List.mem_cons_self) y hy'
      have hfl : (ts1 ++ T :: ts2).flatMap Th.p = ts1.flatMap Th.p ++ (T.p ++ ts2.flatMap Th.p) := by simp
      have hexec : execOp (putsL a0 ((ts1 ++ T :: ts2).flatMap Th.p)).eval x.2 = execOp (putsL a0 T.p).eval x.2 := by
        rw [hfl, putsL_append, putsL_append, execOp_puts (ops := ops) hsx _ _ fun y hy => (hd2 y hy).1]
        exact execOp_puts_mid (ops := ops) hsx _ _ _ fun y hy => (hd1 y hy).1
      have hwant : Region.wanted x.2 (yielded ops (putsL a0 ((ts1 ++ T :: ts2).flatMap Th.p)).tmps) = true := by simp [Region.wanted, hg]
      unfold wpOp
      simp only [ho, hwant, if_true]
      have hRT := hR T hT
      rw [hr] at hRT
      refine .inl ((hRT w hC (Below.refl _ _)).wp hexec fun v w1 ⟨hb1, hrob⟩ => ⟨fun _ => hCu _ _ hC hb1, ?_⟩)
      have hact : (putsL a0 ((ts1 ++ T :: ts2).flatMap Th.p)).put x.2.dst v = putsL a0 ((ts1 ++ ⟨r, T.p ++ [(x.2.dst, v)], T.φ⟩ :: ts2).flatMap Th.p) := by
        have hfl2 : (ts1 ++ (⟨r, T.p ++ [(x.2.dst, v)], T.φ⟩ : Th) :: ts2).flatMap Th.p = ts1.flatMap Th.p ++ (T.p ++ ([(x.2.dst, v)] ++ ts2.flatMap Th.p)) := by simp
        rw [hfl, hfl2, putsL_append, putsL_append, putsL_append, putsL_append, putsL_append]
        exact putsL_comm _ _ fun y hy => (hd2 y hy).2
      rw [hact]
      have hspl := List.all_eq_true.1 hsp (ts1.map (fun T => T.rest.map Prod.fst), T.rest.map Prod.fst, ts2.map fun T => T.rest.map Prod.fst) (by
        rw [List.map_append, List.map_cons]
        exact mem_splits _ _ _)
      rw [hr] at hspl
      simp only [List.map_cons] at hspl
      refine ih (listed.setIfInBounds x.1 true) (ts1 ++ ⟨r, T.p ++ [(x.2.dst, v)], T.φ⟩ :: ts2) w1 ?_ ?_ ?_ ?_ (hCu _ _ hC hb1) (hb.trans (hb1.mono hb.size)) ?_ ?_
      · unfold restLen at *
        simp only [List.map_append, List.map_cons, List.sum_append, List.sum_cons, hr, List.length_cons] at hn ⊢
        omega
      · simpa using hspl
      · intro T' hT' y hy
        rcases List.mem_append.1 hT' with h | h
        · exact hops T' (List.mem_append.2 (.inl h)) y hy
        · rcases List.mem_cons.1 h with rfl | h
          · exact hops T hT y (by rw [hr]; exact List.mem_cons_of_mem _ hy)
          · exact hops T' (List.mem_append.2 (.inr (List.mem_cons_of_mem _ h))) y hy
      · have hTn : ∀ T' : Th, Th.apart ops T T' → Th.apart ops ⟨r, T.p ++ [(x.2.dst, v)], T.φ⟩ T' := by
          rintro T' ⟨g1, g2, g3⟩
          rw [hr] at g1 g3
          refine ⟨fun o ho' => g1 o (List.mem_cons_of_mem _ ho'), fun o ho' y hy => ?_, fun o ho' => g3 o (List.mem_cons_of_mem _ ho')⟩
          rcases List.mem_append.1 hy with hy | hy
          · exact g2 o ho' y hy
          · obtain rfl : y = (x.2.dst, v) := by simpa using hy
            obtain ⟨q1, q2, q3⟩ := Oper.apart_spec (g3 x List.mem_cons_self o ho')
            exact ⟨q1, fun d hd hx => q2 d hx hd⟩
        have hTn' : ∀ T' : Th, Th.apart ops T' T → Th.apart ops T' ⟨r, T.p ++ [(x.2.dst, v)], T.φ⟩ := by
          rintro T' ⟨g1, g2, g3⟩
          rw [hr] at g2 g3
          refine ⟨fun o ho' y hy => ?_, fun o ho' => g2 o (List.mem_cons_of_mem _ ho'), fun o ho' o' ho'' => g3 o ho' o' (List.mem_cons_of_mem _ ho'')⟩
          rcases List.mem_append.1 hy with hy | hy
          · exact g1 o ho' y hy
          · obtain rfl : y = (x.2.dst, v) := by simpa using hy
            obtain ⟨q1, q2, q3⟩ := Oper.apart_spec (g3 o ho' x List.mem_cons_self)
            exact ⟨fun d hd => q3 d hd, fun d hd => q2 d hd⟩
        rw [List.pairwise_append, List.pairwise_cons]
        refine ⟨hap1, ⟨fun T' hT' => hTn T' (hapT T' hT'), hap22⟩, fun T1 hT1 T2 hT2 => ?_⟩
        rcases List.mem_cons.1 hT2 with rfl | h
        · exact hTn' T1 (hap12 T1 hT1 T List.mem_cons_self)
        · exact hap12 T1 hT1 T2 (List.mem_cons_of_mem _ h)
      · intro T' hT'
        rcases List.mem_append.1 hT' with h | h
        · exact (hR T' (List.mem_append.2 (.inl h))).up hb1
        · rcases List.mem_cons.1 h with rfl | h
          · show Rob P C (r.map Prod.snd) (putsL a0 (T.p ++ [(x.2.dst, v)])) (T.p ++ [(x.2.dst, v)]) w1 T.φ
            rw [putsL_append]
            exact hrob
          · exact (hR T' (List.mem_append.2 (.inr (List.mem_cons_of_mem _ h)))).up hb1
      · intro ps w' hps
        exact H ps w' (by simpa using hps)
/-- the operations of a thread -/
def pick (ops : Array Oper) : List Nat → Option (List Oper)
  | [] => some []
  | i :: r => match ops[i]?, pick ops r with
    | some o, some l => some (o :: l)
    | _, _ => none
def pickL (l : List Oper) : List Nat → Option (List Oper)
  | [] => some []
  | i :: r => match l[i]?, pickL l r with
    | some o, some l => some (o :: l)
    | _, _ => none
theorem pick_of {l : List Oper} : ∀ {I : List Nat} {O : List Oper}, pickL l I = some O → pick l.toArray I = some O
  | [], _, h => h
  | i :: r, O, h => by
    unfold pickL at h
    unfold pick
    rw [List.getElem?_toArray]
    cases h1 : l[i]? with
    | none => rw [h1] at h; cases h
    | some o =>
      rw [h1] at h
      cases h2 : pickL l r with
      | none => rw [h2] at h; cases h
      | some O' =>
        rw [h2] at h
        rw [pick_of h2]
        exact h
theorem pick_cons {i : Nat} {r : List Nat} {O : List Oper} (h : pick ops (i :: r) = some O) : ∃ o O', ops[i]? = some o ∧ pick ops r = some O' ∧ O = o :: O' := by
  unfold pick at h
  cases h1 : ops[i]? with
  | none => rw [h1] at h; cases h
  | some o =>
    rw [h1] at h
    cases h2 : pick ops r with
    | none => rw [h2] at h; cases h
    | some O' => rw [h2] at h; exact ⟨o, O', rfl, rfl, by simpa using h.symm⟩
theorem pick_len : ∀ {I : List Nat} {O : List Oper}, pick ops I = some O → O.length = I.length
  | [], O, h => by simp [pick] at h; subst h; rfl
  | i :: r, O, h => by
    obtain ⟨o, O', _, h2, rfl⟩ := pick_cons h
    simp [pick_len h2]
theorem pick_fst {I : List Nat} {O : List Oper} (h : pick ops I = some O) : (I.zip O).map Prod.fst = I := by
  rw [List.map_fst_zip]
  rw [pick_len h]
  exact Nat.le_refl _
theorem pick_snd {I : List Nat} {O : List Oper} (h : pick ops I = some O) : (I.zip O).map Prod.snd = O := by
  rw [List.map_snd_zip]
  rw [pick_len h]
  exact Nat.le_refl _
theorem pick_mem : ∀ {I : List Nat} {O : List Oper}, pick ops I = some O → ∀ x ∈ I.zip O, x.1 ∈ I ∧ ops[x.1]? = some x.2
  | [], _, _, x, hx => by simp at hx
  | i :: r, O, h, x, hx => by
    obtain ⟨o, O', h1, h2, rfl⟩ := pick_cons h
    rw [List.zip_cons_cons] at hx
    rcases List.mem_cons.1 hx with rfl | hx
    · exact ⟨List.mem_cons_self, h1⟩
    · obtain ⟨g1, g2⟩ := pick_mem h2 x hx
      exact ⟨List.mem_cons_of_mem _ g1, g2⟩
def okB (ops : Array Oper) (s i : Nat) : Bool := decide (i < s) && match ops[i]? with
  | some o => o.guard.isNone
  | none => false
def apB (ops : Array Oper) (i j : Nat) : Bool := match ops[i]?, ops[j]? with
  | some o, some o' => o.apart ops o'
  | _, _ => false
def pairB {α : Type} (f : α → α → Bool) : List α → Bool
  | [] => true
  | x :: l => l.all (f x) && pairB f l
/-- the threads do not meet -/
def stB (ops : Array Oper) (s : Nat) (ts : List (List Nat)) : Bool :=
  Region.noSelect ops && ts.all (fun T => T.all (okB ops s)) && pairB (fun T T' => T.all fun i => T'.all fun j => apB ops i j) ts
theorem stB_sel {ts : List (List Nat)} (h : stB ops s ts = true) : Region.noSelect ops = true := by
  simp only [stB, Bool.and_eq_true] at h
  exact h.1.1
theorem stB_mem {ts : List (List Nat)} (h : stB ops s ts = true) {I : List Nat} {O : List Oper} (hI : I ∈ ts) (hO : pick ops I = some O) {x : Nat × Oper} (hx : x ∈ I.zip O) : ops[x.1]? = some x.2 ∧ x.1 < s ∧ x.2.guard = none := by
  simp only [stB, Bool.and_eq_true] at h
  obtain ⟨g1, g2⟩ := pick_mem hO x hx
  have := List.all_eq_true.1 (List.all_eq_true.1 h.1.2 I hI) x.1 g1
  simp only [okB, g2, Bool.and_eq_true, decide_eq_true_eq] at this
  exact ⟨g2, this.1, by simpa using this.2⟩
theorem apart_of {I J : List Nat} {O O' : List Oper} {φ φ' : List (Option Tmp × Value) → World → Prop} (hO : pick ops I = some O) (hO' : pick ops J = some O') (h : (I.all fun i => J.all fun j => apB ops i j) = true) : Th.apart ops ⟨I.zip O, [], φ⟩ ⟨J.zip O', [], φ'⟩ := by
  refine ⟨fun o _ x hx => absurd hx (by simp), fun o _ x hx => absurd hx (by simp), fun o ho o' ho' => ?_⟩
  obtain ⟨g1, g2⟩ := pick_mem hO o ho
  obtain ⟨g3, g4⟩ := pick_mem hO' o' ho'
  have := List.all_eq_true.1 (List.all_eq_true.1 h o.1 g1) o'.1 g3
  simpa [apB, g2, g4] using this
theorem stB_apart212 {I1 I2 : List Nat} {O O' : List Oper} {φ φ' : List (Option Tmp × Value) → World → Prop} (h : stB ops s [I1, I2] = true) (hO : pick ops I1 = some O) (hO' : pick ops I2 = some O') : Th.apart ops ⟨I1.zip O, [], φ⟩ ⟨I2.zip O', [], φ'⟩ := by
  refine apart_of hO hO' ?_
  simp only [stB, pairB, Bool.and_eq_true, List.all_cons, List.all_nil, Bool.and_true] at h
  simp only [*]
theorem stB_apart312 {I1 I2 I3 : List Nat} {O O' : List Oper} {φ φ' : List (Option Tmp × Value) → World → Prop} (h : stB ops s [I1, I2, I3] = true) (hO : pick ops I1 = some O) (hO' : pick ops I2 = some O') : Th.apart ops ⟨I1.zip O, [], φ⟩ ⟨I2.zip O', [], φ'⟩ := by
  refine apart_of hO hO' ?_
  simp only [stB, pairB, Bool.and_eq_true, List.all_cons, List.all_nil, Bool.and_true] at h
  simp only [*]
theorem stB_apart313 {I1 I2 I3 : List Nat} {O O' : List Oper} {φ φ' : List (Option Tmp × Value) → World → Prop} (h : stB ops s [I1, I2, I3] = true) (hO : pick ops I1 = some O) (hO' : pick ops I3 = some O') : Th.apart ops ⟨I1.zip O, [], φ⟩ ⟨I3.zip O', [], φ'⟩ := by
  refine apart_of hO hO' ?_
  simp only [stB, pairB, Bool.and_eq_true, List.all_cons, List.all_nil, Bool.and_true] at h
  simp only [*]
theorem stB_apart323 {I1 I2 I3 : List Nat} {O O' : List Oper} {φ φ' : List (Option Tmp × Value) → World → Prop} (h : stB ops s [I1, I2, I3] = true) (hO : pick ops I2 = some O) (hO' : pick ops I3 = some O') : Th.apart ops ⟨I2.zip O, [], φ⟩ ⟨I3.zip O', [], φ'⟩ := by
  refine apart_of hO hO' ?_
  simp only [stB, pairB, Bool.and_eq_true, List.all_cons, List.all_nil, Bool.and_true] at h
  simp only [*]
theorem stB_apart412 {I1 I2 I3 I4 : List Nat} {O O' : List Oper} {φ φ' : List (Option Tmp × Value) → World → Prop} (h : stB ops s [I1, I2, I3, I4] = true) (hO : pick ops I1 = some O) (hO' : pick ops I2 = some O') : Th.apart ops ⟨I1.zip O, [], φ⟩ ⟨I2.zip O', [], φ'⟩ := by
  refine apart_of hO hO' ?_
  simp only [stB, pairB, Bool.and_eq_true, List.all_cons, List.all_nil, Bool.and_true] at h
  simp only [*]
theorem stB_apart413 {I1 I2 I3 I4 : List Nat} {O O' : List Oper} {φ φ' : List (Option Tmp × Value) → World → Prop} (h : stB ops s [I1, I2, I3, I4] = true) (hO : pick ops I1 = some O) (hO' : pick ops I3 = some O') : Th.apart ops ⟨I1.zip O, [], φ⟩ ⟨I3.zip O', [], φ'⟩ := by
  refine apart_of hO hO' ?_
  simp only [stB, pairB, Bool.and_eq_true, List.all_cons, List.all_nil, Bool.and_true] at h
  simp only [*]
theorem stB_apart414 {I1 I2 I3 I4 : List Nat} {O O' : List Oper} {φ φ' : List (Option Tmp × Value) → World → Prop} (h : stB ops s [I1, I2, I3, I4] = true) (hO : pick ops I1 = some O) (hO' : pick ops I4 = some O') : Th.apart ops ⟨I1.zip O, [], φ⟩ ⟨I4.zip O', [], φ'⟩ := by
  refine apart_of hO hO' ?_
  simp only [stB, pairB, Bool.and_eq_true, List.all_cons, List.all_nil, Bool.and_true] at h
  simp only [*]
theorem stB_apart423 {I1 I2 I3 I4 : List Nat} {O O' : List Oper} {φ φ' : List (Option Tmp × Value) → World → Prop} (h : stB ops s [I1, I2, I3, I4] = true) (hO : pick ops I2 = some O) (hO' : pick ops I3 = some O') : Th.apart ops ⟨I2.zip O, [], φ⟩ ⟨I3.zip O', [], φ'⟩ := by
  refine apart_of hO hO' ?_
  simp only [stB, pairB, Bool.and_eq_true, List.all_cons, List.all_nil, Bool.and_true] at h
  simp only [*]
theorem stB_apart424 {I1 I2 I3 I4 : List Nat} {O O' : List Oper} {φ φ' : List (Option Tmp × Value) → World → Prop} (h : stB ops s [I1, I2, I3, I4] = true) (hO : pick ops I2 = some O) (hO' : pick ops I4 = some O') : Th.apart ops ⟨I2.zip O, [], φ⟩ ⟨I4.zip O', [], φ'⟩ := by
  refine apart_of hO hO' ?_
  simp only [stB, pairB, Bool.and_eq_true, List.all_cons, List.all_nil, Bool.and_true] at h
  simp only [*]
theorem stB_apart434 {I1 I2 I3 I4 : List Nat} {O O' : List Oper} {φ φ' : List (Option Tmp × Value) → World → Prop} (h : stB ops s [I1, I2, I3, I4] = true) (hO : pick ops I3 = some O) (hO' : pick ops I4 = some O') : Th.apart ops ⟨I3.zip O, [], φ⟩ ⟨I4.zip O', [], φ'⟩ := by
  refine apart_of hO hO' ?_
  simp only [stB, pairB, Bool.and_eq_true, List.all_cons, List.all_nil, Bool.and_true] at h
  simp only [*]
/-- 2 threads are up -/
theorem thS2 {l : List Oper} (I1 : List Nat) (I2 : List Nat) {O1 O2 : List Oper} {fuel n : Nat} {listed fin : Array Bool} {a : Act} {w : World} (φ1 : List (Option Tmp × Value) → World → Prop) (φ2 : List (Option Tmp × Value) → World → Prop)
    (hQ1 : pickL l I1 = some O1) (hQ2 : pickL l I2 = some O2) (hst : stB l.toArray s [I1, I2] = true) (hn : I1.length + I2.length = n) (hf : (I1 ++ I2).foldl (fun li i => li.setIfInBounds i true) listed = fin) (hth : thB md l.toArray n listed [I1, I2] fin = true)
    (hCu : ∀ w w', C w → Below w.heap.size w w' → C w') (hC : C w) (r1 : Rob P C O1 a [] w φ1) (r2 : Rob P C O2 a [] w φ2)
    (h : ∀ K : Act → World → Prop, (∀ a' w', C w' → wpAnyS P md l.toArray s C Q fuel fin a' w' → K a' w') → ∀ p1 p2 w', φ1 p1 w' → φ2 p2 w' → C w' → Below w.heap.size w w' → K (putsL a (p1 ++ p2)) w') : wpAnyS P md l.toArray s C Q (fuel + n) listed a w := by
  have hO1 := pick_of hQ1
  have hO2 := pick_of hQ2
  have := threads (P := P) (md := md) (ops := l.toArray) (s := s) (C := C) (Q := Q) (a0 := a) (w0 := w) (fuel := fuel) (fin := fin) (stB_sel hst) hCu n listed [⟨I1.zip O1, [], φ1⟩, ⟨I2.zip O2, [], φ2⟩] w
    (by simp [restLen, List.length_zip, (pick_len hO1), List.length_zip, (pick_len hO2)] <;> omega)
    (by simpa [(pick_fst hO1), (pick_fst hO2)] using hth)
    (by
      intro T hT x hx
      simp only [List.mem_cons, List.mem_nil_iff, or_false] at hT
      rcases hT with rfl | rfl
      · exact stB_mem hst (by simp) hO1 hx
      · exact stB_mem hst (by simp) hO2 hx)
    (by
      simp only [List.pairwise_cons, List.mem_cons, List.mem_nil_iff, or_false, List.Pairwise.nil, and_true, false_imp_iff, implies_true, forall_eq_or_imp, forall_eq]
      exact stB_apart212 hst hO1 hO2)
    hC (Below.refl _ _)
    (by
      intro T hT
      simp only [List.mem_cons, List.mem_nil_iff, or_false] at hT
      rcases hT with rfl | rfl
      · simpa [pick_snd hO1, putsL] using r1
      · simpa [pick_snd hO2, putsL] using r2)
    (by
      intro ps w' hps hCw hbw
      match ps, hps with
      | [p1, p2], hps =>
        obtain ⟨f1, f2, _⟩ := hps
        have := h _ (fun a' w' _ h => h) p1 p2 w' f1 f2 hCw hbw
        simpa using this)
  simpa [putsL] using this
/-- 3 threads are up -/
theorem thS3 {l : List Oper} (I1 : List Nat) (I2 : List Nat) (I3 : List Nat) {O1 O2 O3 : List Oper} {fuel n : Nat} {listed fin : Array Bool} {a : Act} {w : World} (φ1 : List (Option Tmp × Value) → World → Prop) (φ2 : List (Option Tmp × Value) → World → Prop) (φ3 : List (Option Tmp × Value) → World → Prop)
    (hQ1 : pickL l I1 = some O1) (hQ2 : pickL l I2 = some O2) (hQ3 : pickL l I3 = some O3) (hst : stB l.toArray s [I1, I2, I3] = true) (hn : I1.length + I2.length + I3.length = n) (hf : (I1 ++ I2 ++ I3).foldl (fun li i => li.setIfInBounds i true) listed = fin) (hth : thB md l.toArray n listed [I1, I2, I3] fin = true)
    (hCu : ∀ w w', C w → Below w.heap.size w w' → C w') (hC : C w) (r1 : Rob P C O1 a [] w φ1) (r2 : Rob P C O2 a [] w φ2) (r3 : Rob P C O3 a [] w φ3)
    (h : ∀ K : Act → World → Prop, (∀ a' w', C w' → wpAnyS P md l.toArray s C Q fuel fin a' w' → K a' w') → ∀ p1 p2 p3 w', φ1 p1 w' → φ2 p2 w' → φ3 p3 w' → C w' → Below w.heap.size w w' → K (putsL a (p1 ++ p2 ++ p3)) w') : wpAnyS P md l.toArray s C Q (fuel + n) listed a w := by
  have hO1 := pick_of hQ1
  have hO2 := pick_of hQ2
  have hO3 := pick_of hQ3
  have := threads (P := P) (md := md) (ops := l.toArray) (s := s) (C := C) (Q := Q) (a0 := a) (w0 := w) (fuel := fuel) (fin := fin) (stB_sel hst) hCu n listed [⟨I1.zip O1, [], φ1⟩, ⟨I2.zip O2, [], φ2⟩, ⟨I3.zip O3, [], φ3⟩] w
    (by simp [restLen, List.length_zip, (pick_len hO1), List.length_zip, (pick_len hO2), List.length_zip, (pick_len hO3)] <;> omega)
    (by simpa [(pick_fst hO1), (pick_fst hO2), (pick_fst hO3)] using hth)
    (by
      intro T hT x hx
      simp only [List.mem_cons, List.mem_nil_iff, or_false] at hT
      rcases hT with rfl | rfl | rfl
      · exact stB_mem hst (by simp) hO1 hx
      · exact stB_mem hst (by simp) hO2 hx
      · exact stB_mem hst (by simp) hO3 hx)
    (by
      simp only [List.pairwise_cons, List.mem_cons, List.mem_nil_iff, or_false, List.Pairwise.nil, and_true, false_imp_iff, implies_true, forall_eq_or_imp, forall_eq]
      refine ⟨⟨stB_apart312 hst hO1 hO2, stB_apart313 hst hO1 hO3⟩, stB_apart323 hst hO2 hO3⟩)
    hC (Below.refl _ _)
    (by
      intro T hT
      simp only [List.mem_cons, List.mem_nil_iff, or_false] at hT
      rcases hT with rfl | rfl | rfl
      · simpa [pick_snd hO1, putsL] using r1
      · simpa [pick_snd hO2, putsL] using r2
      · simpa [pick_snd hO3, putsL] using r3)
    (by
      intro ps w' hps hCw hbw
      match ps, hps with
      | [p1, p2, p3], hps =>
        obtain ⟨f1, f2, f3, _⟩ := hps
        have := h _ (fun a' w' _ h => h) p1 p2 p3 w' f1 f2 f3 hCw hbw
        simpa using this)
  simpa [putsL] using this
/-- 4 threads are up -/
theorem thS4 {l : List Oper} (I1 : List Nat) (I2 : List Nat) (I3 : List Nat) (I4 : List Nat) {O1 O2 O3 O4 : List Oper} {fuel n : Nat} {listed fin : Array Bool} {a : Act} {w : World} (φ1 : List (Option Tmp × Value) → World → Prop) (φ2 : List (Option Tmp × Value) → World → Prop) (φ3 : List (Option Tmp × Value) → World → Prop) (φ4 : List (Option Tmp × Value) → World → Prop)
    (hQ1 : pickL l I1 = some O1) (hQ2 : pickL l I2 = some O2) (hQ3 : pickL l I3 = some O3) (hQ4 : pickL l I4 = some O4) (hst : stB l.toArray s [I1, I2, I3, I4] = true) (hn : I1.length + I2.length + I3.length + I4.length = n) (hf : (I1 ++ I2 ++ I3 ++ I4).foldl (fun li i => li.setIfInBounds i true) listed = fin) (hth : thB md l.toArray n listed [I1, I2, I3, I4] fin = true)
    (hCu : ∀ w w', C w → Below w.heap.size w w' → C w') (hC : C w) (r1 : Rob P C O1 a [] w φ1) (r2 : Rob P C O2 a [] w φ2) (r3 : Rob P C O3 a [] w φ3) (r4 : Rob P C O4 a [] w φ4)
    (h : ∀ K : Act → World → Prop, (∀ a' w', C w' → wpAnyS P md l.toArray s C Q fuel fin a' w' → K a' w') → ∀ p1 p2 p3 p4 w', φ1 p1 w' → φ2 p2 w' → φ3 p3 w' → φ4 p4 w' → C w' → Below w.heap.size w w' → K (putsL a (p1 ++ p2 ++ p3 ++ p4)) w') : wpAnyS P md l.toArray s C Q (fuel + n) listed a w := by
  have hO1 := pick_of hQ1
  have hO2 := pick_of hQ2
  have hO3 := pick_of hQ3
  have hO4 := pick_of hQ4
  have := threads (P := P) (md := md) (ops := l.toArray) (s := s) (C := C) (Q := Q) (a0 := a) (w0 := w) (fuel := fuel) (fin := fin) (stB_sel hst) hCu n listed [⟨I1.zip O1, [], φ1⟩, ⟨I2.zip O2, [], φ2⟩, ⟨I3.zip O3, [], φ3⟩, ⟨I4.zip O4, [], φ4⟩] w
    (by simp [restLen, List.length_zip, (pick_len hO1), List.length_zip, (pick_len hO2), List.length_zip, (pick_len hO3), List.length_zip, (pick_len hO4)] <;> omega)
    (by simpa [(pick_fst hO1), (pick_fst hO2), (pick_fst hO3), (pick_fst hO4)] using hth)
    (by
      intro T hT x hx
      simp only [List.mem_cons, List.mem_nil_iff, or_false] at hT
      rcases hT with rfl | rfl | rfl | rfl
      · exact stB_mem hst (by simp) hO1 hx
      · exact stB_mem hst (by simp) hO2 hx
      · exact stB_mem hst (by simp) hO3 hx
      · exact stB_mem hst (by simp) hO4 hx)
    (by
      simp only [List.pairwise_cons, List.mem_cons, List.mem_nil_iff, or_false, List.Pairwise.nil, and_true, false_imp_iff, implies_true, forall_eq_or_imp, forall_eq]
      refine ⟨⟨stB_apart412 hst hO1 hO2, stB_apart413 hst hO1 hO3, stB_apart414 hst hO1 hO4⟩, ⟨stB_apart423 hst hO2 hO3, stB_apart424 hst hO2 hO4⟩, stB_apart434 hst hO3 hO4⟩)
    hC (Below.refl _ _)
    (by
      intro T hT
      simp only [List.mem_cons, List.mem_nil_iff, or_false] at hT
      rcases hT with rfl | rfl | rfl | rfl
      · simpa [pick_snd hO1, putsL] using r1
      · simpa [pick_snd hO2, putsL] using r2
      · simpa [pick_snd hO3, putsL] using r3
      · simpa [pick_snd hO4, putsL] using r4)
    (by
      intro ps w' hps hCw hbw
      match ps, hps with
      | [p1, p2, p3, p4], hps =>
        obtain ⟨f1, f2, f3, f4, _⟩ := hps
        have := h _ (fun a' w' _ h => h) p1 p2 p3 p4 w' f1 f2 f3 f4 hCw hbw
        simpa using this)
  simpa [putsL] using this
end
end Go.Proofs.YthiblfkmcdnalaaGreat
