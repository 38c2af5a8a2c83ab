/- Regions that draw their order: threads whose operations are followed, at once, by pure ones. -/
import Derived.Test.YthiblfkmcdnalaaGreatRegT
namespace Go.Proofs.YthiblfkmcdnalaaGreat
set_option maxRecDepth 1000000
open Go.RowKit
set_option maxRecDepth 1000000

section
variable {P : Program} {md : Region.Mode} {ops : Array Oper} {s : Nat} {C : World → Prop} {Q : Exit → Act → World → Prop}
/-- as Rob; an operation that is marked is pure, and is taken at once -/
def RobU (P : Program) (C : World → Prop) : List (Oper × Bool) → Act → List (Option Tmp × Value) → World → (List (Option Tmp × Value) → World → Prop) → Prop
  | [], _, p, w, φ => ∀ w', C w' → Below w.heap.size w w' → φ p w'
  | (o, false) :: r, a, p, w, φ => ∀ w', C w' → Below w.heap.size w w' → Gives P o a w' fun v w'' => Below w'.heap.size w' w'' ∧ RobU P C r (a.put o.dst v) (p ++ [(o.dst, v)]) w'' φ
  | (o, true) :: r, a, p, w, φ => ∃ v, (∀ U, C U → (execOp a.eval o).run P U = .ok (.value v) U) ∧ RobU P C r (a.put o.dst v) (p ++ [(o.dst, v)]) w φ
theorem RobU.up {w w' : World} {φ : List (Option Tmp × Value) → World → Prop} (hb : Below w.heap.size w w') : ∀ {l : List (Oper × Bool)} {a : Act} {p : List (Option Tmp × Value)}, RobU P C l a p w φ → RobU P C l a p w' φ
  | [], _, _, h => fun U hC hU => h U hC (hb.trans (hU.mono hb.size))
  | (_, false) :: _, _, _, h => fun U hC hU => h U hC (hb.trans (hU.mono hb.size))
  | (_, true) :: _, _, _, ⟨v, h1, h2⟩ => ⟨v, h1, RobU.up hb h2⟩

structure ThU where
  rest : List (Nat × Oper × Bool)
  p : List (Option Tmp × Value)
  φ : List (Option Tmp × Value) → World → Prop
def ThU.apart (ops : Array Oper) (T T' : ThU) : Prop :=
  (∀ o ∈ T.rest, ∀ x ∈ T'.p, (∀ d, x.1 = some d → d ∉ o.2.1.looksAt ops) ∧ ∀ d, o.2.1.dst = some d → x.1 ≠ some d) ∧
  (∀ o ∈ T'.rest, ∀ x ∈ T.p, (∀ d, x.1 = some d → d ∉ o.2.1.looksAt ops) ∧ ∀ d, o.2.1.dst = some d → x.1 ≠ some d) ∧
  (∀ o ∈ T.rest, ∀ o' ∈ T'.rest, o.2.1.apart ops o'.2.1 = true)
def restLenU (ts : List ThU) : Nat := (ts.map fun T => T.rest.length).sum
theorem restLenU_zero : ∀ ts : List ThU, restLenU ts = 0 → ∀ T ∈ ts, T.rest = []
  | [], _, _, h => by cases h
  | T :: ts, h, T', hT' => by
    simp only [restLenU, List.map_cons, List.sum_cons] at h
    rcases List.mem_cons.1 hT' with rfl | hT'
    · exact List.eq_nil_of_length_eq_zero (by omega)
    · exact restLenU_zero ts (by unfold restLenU; omega) T' hT'
/-- the first thread whose next operation is marked -/
def markB : List (List (Nat × Bool)) → Option (List (List (Nat × Bool)) × Nat × List (Nat × Bool) × List (List (Nat × Bool)))
  | [] => none
  | ((k, true) :: r) :: ts => some ([], k, r, ts)
  | T :: ts => (markB ts).map fun x => (T :: x.1, x.2)
theorem markB_spec : ∀ {ts : List (List (Nat × Bool))} {a : List (List (Nat × Bool))} {k : Nat} {r : List (Nat × Bool)} {b : List (List (Nat × Bool))}, markB ts = some (a, k, r, b) → ts = a ++ ((k, true) :: r) :: b
  | [], _, _, _, _, h => by cases h
  | ((k', true) :: r') :: ts, a, k, r, b, h => by
    simp only [markB, Option.some.injEq, Prod.mk.injEq] at h
    obtain ⟨rfl, rfl, rfl, rfl⟩ := h
    rfl
  | ((k', false) :: r') :: ts, a, k, r, b, h => by
    simp only [markB, Option.map_eq_some_iff] at h
    obtain ⟨⟨a', k'', r'', b'⟩, h1, h2⟩ := h
    simp only [Prod.mk.injEq] at h2
    obtain ⟨rfl, rfl, rfl, rfl⟩ := h2
    rw [markB_spec h1]
    rfl
  | [] :: ts, a, k, r, b, h => by
    simp only [markB, Option.map_eq_some_iff] at h
    obtain ⟨⟨a', k'', r'', b'⟩, h1, h2⟩ := h
    simp only [Prod.mk.injEq] at h2
    obtain ⟨rfl, rfl, rfl, rfl⟩ := h2
    rw [markB_spec h1]
    rfl
/-- whatever order is picked, it is (marked operations taken at once) a merging of the threads -/
def thUB (md : Region.Mode) (ops : Array Oper) (s : Nat) : Nat → Array Bool → List (List (Nat × Bool)) → Array Bool → Bool
  | 0, listed, _, fin => listed == fin
  | n + 1, listed, ts, fin => match markB ts with
    | some (a, k, r, b) => frontB md ops s k listed && thUB md ops s n (listed.setIfInBounds k true) (a ++ r :: b) fin
    | none => !(Region.ready md ops listed).isEmpty && ((Region.ready md ops listed).all fun k => ts.any fun T => T.head? == some (k, false)) &&
      (splits ts).all fun x => match x.2.1 with
        | [] => true
        | k :: r => thUB md ops s n (listed.setIfInBounds k.1 true) (x.1 ++ r :: x.2.2) fin

theorem threadsU {a0 : Act} {w0 : World} {fuel : Nat} {fin : Array Bool} (hsel : Region.noSelect ops = true) (hCu : ∀ w w', C w → Below w.heap.size w w' → C w')
    (hQ : ∀ c a (d : Tmp) v w, Q (.panic c) (Act.put a (some d) v) w → Q (.panic c) a w) :
    ∀ (n : Nat) (listed : Array Bool) (ts : List ThU) (w : World), restLenU ts = n → thUB md ops s n listed (ts.map fun T => T.rest.map fun x => (x.1, x.2.2)) fin = true →
      (∀ T ∈ ts, ∀ x ∈ T.rest, ops[x.1]? = some x.2.1 ∧ x.1 < s ∧ x.2.1.guard = none) → ts.Pairwise (ThU.apart ops) → C w → Below w0.heap.size w0 w →
      (∀ T ∈ ts, RobU P C (T.rest.map Prod.snd) (putsL a0 T.p) T.p w T.φ) →
      (∀ ps w', AllT (ts.map ThU.φ) ps w' → C w' → Below w0.heap.size w0 w' → wpAnyS P md ops s C Q fuel fin (putsL a0 ps.flatten) w') →
      wpAnyS P md ops s C Q (fuel + n) listed (putsL a0 (ts.flatMap ThU.p)) w := by
  intro n
  induction n with
  | zero =>
    intro listed ts w hn hB _ _ hC hb hR H
    have hlf : listed = fin := by simpa [thUB] using hB
    subst hlf
    have hz := restLenU_zero ts hn
    have := H (ts.map ThU.p) w ?_ hC hb
    · simpa [List.flatMap] using this
    · have : ∀ l : List ThU, (∀ T ∈ l, T.rest = []) → (∀ T ∈ l, RobU P C (T.rest.map Prod.snd) (putsL a0 T.p) T.p w T.φ) → AllT (l.map ThU.φ) (l.map ThU.p) w := by
        intro l
        induction l with
        | nil => intro _ _; trivial
        | cons T l ih =>
          intro h1 h2
          refine And.intro ?_ (ih (fun T hT => h1 T (List.mem_cons_of_mem _ hT)) fun T hT => h2 T (List.mem_cons_of_mem _ hT))
          have := h2 T List.mem_cons_self
          rw [h1 T List.mem_cons_self] at this
          exact this w hC (Below.refl _ _)
      exact this ts hz hR
  | succ n ih =>
    -- what one step of one thread leaves behind
    have step : ∀ (listed : Array Bool) (ts1 ts2 : List ThU) (T : ThU) (x : Nat × Oper × Bool) (r : List (Nat × Oper × Bool)) (v : Value) (w1 : World), T.rest = x :: r → restLenU (ts1 ++ T :: ts2) = n + 1 →
        thUB md ops s n (listed.setIfInBounds x.1 true) (ts1.map (fun T => T.rest.map fun x => (x.1, x.2.2)) ++ r.map (fun x => (x.1, x.2.2)) :: ts2.map fun T => T.rest.map fun x => (x.1, x.2.2)) fin = true →
        (∀ T' ∈ ts1 ++ T :: ts2, ∀ x ∈ T'.rest, ops[x.1]? = some x.2.1 ∧ x.1 < s ∧ x.2.1.guard = none) → (ts1 ++ T :: ts2).Pairwise (ThU.apart ops) → C w1 → Below w0.heap.size w0 w1 →
        (∀ T' ∈ ts1, RobU P C (T'.rest.map Prod.snd) (putsL a0 T'.p) T'.p w1 T'.φ) → (∀ T' ∈ ts2, RobU P C (T'.rest.map Prod.snd) (putsL a0 T'.p) T'.p w1 T'.φ) →
        RobU P C (r.map Prod.snd) ((putsL a0 T.p).put x.2.1.dst v) (T.p ++ [(x.2.1.dst, v)]) w1 T.φ →
        (∀ ps w', AllT ((ts1 ++ T :: ts2).map ThU.φ) ps w' → C w' → Below w0.heap.size w0 w' → wpAnyS P md ops s C Q fuel fin (putsL a0 ps.flatten) w') →
        wpAnyS P md ops s C Q (fuel + n) (listed.setIfInBounds x.1 true) ((putsL a0 ((ts1 ++ T :: ts2).flatMap ThU.p)).put x.2.1.dst v) w1 := by
      intro listed ts1 ts2 T x r v w1 hr hn hB hops hap hC1 hb1 hR1 hR2 hRT H
      have hT : T ∈ ts1 ++ T :: ts2 := List.mem_append.2 (.inr List.mem_cons_self)
      rw [List.pairwise_append] at hap
      obtain ⟨hap1, hap2, hap12⟩ := hap
      rw [List.pairwise_cons] at hap2
      obtain ⟨hapT, hap22⟩ := hap2
      have hd2 : ∀ y ∈ ts2.flatMap ThU.p, (∀ d, y.1 = some d → d ∉ x.2.1.looksAt ops) ∧ ∀ d, x.2.1.dst = some d → y.1 ≠ some d := fun y hy => by
        obtain ⟨T', hT', hy'⟩ := List.mem_flatMap.1 hy
        exact (hapT T' hT').1 x (by rw [hr]; exact List.mem_cons_self) y hy'
      have hfl : (ts1 ++ T :: ts2).flatMap ThU.p = ts1.flatMap ThU.p ++ (T.p ++ ts2.flatMap ThU.p) := by simp
      have hact : (putsL a0 ((ts1 ++ T :: ts2).flatMap ThU.p)).put x.2.1.dst v = putsL a0 ((ts1 ++ ⟨r, T.p ++ [(x.2.1.dst, v)], T.φ⟩ :: ts2).flatMap ThU.p) := by
        have hfl2 : (ts1 ++ (⟨r, T.p ++ [(x.2.1.dst, v)], T.φ⟩ : ThU) :: ts2).flatMap ThU.p = ts1.flatMap ThU.p ++ (T.p ++ ([(x.2.1.dst, v)] ++ ts2.flatMap ThU.p)) := by simp
        rw [hfl, hfl2, putsL_append, putsL_append, putsL_append, putsL_append, putsL_append]
        exact putsL_comm _ _ fun y hy => (hd2 y hy).2
      rw [hact]
      refine ih (listed.setIfInBounds x.1 true) (ts1 ++ ⟨r, T.p ++ [(x.2.1.dst, v)], T.φ⟩ :: ts2) w1 ?_ ?_ ?_ ?_ hC1 hb1 ?_ ?_
      · unfold restLenU at *
        simp only [List.map_append, List.map_cons, List.sum_append, List.sum_cons, hr, List.length_cons] at hn ⊢
        omega
      · simpa using hB
      · intro T' hT' y hy
        rcases List.mem_append.1 hT' with h | h
        · exact hops T' (List.mem_append.2 (.inl h)) y hy
        · rcases List.mem_cons.1 h with rfl | h
          · exact hops T hT y (by rw [hr]; exact List.mem_cons_of_mem _ hy)
          · exact hops T' (List.mem_append.2 (.inr (List.mem_cons_of_mem _ h))) y hy
      · have hTn : ∀ T' : ThU, ThU.apart ops T T' → ThU.apart ops ⟨r, T.p ++ [(x.2.1.dst, v)], T.φ⟩ T' := by
          rintro T' ⟨g1, g2, g3⟩
          rw [hr] at g1 g3
          refine ⟨fun o ho' => g1 o (List.mem_cons_of_mem _ ho'), fun o ho' y hy => ?_, fun o ho' => g3 o (List.mem_cons_of_mem _ ho')⟩
          rcases List.mem_append.1 hy with hy | hy
          · exact g2 o ho' y hy
          · obtain rfl : y = (x.2.1.dst, v) := by simpa using hy
            obtain ⟨q1, q2, q3⟩ := Oper.apart_spec (g3 x List.mem_cons_self o ho')
            exact ⟨q1, fun d hd hx => q2 d hx hd⟩
        have hTn' : ∀ T' : ThU, ThU.apart ops T' T → ThU.apart ops T' ⟨r, T.p ++ [(x.2.1.dst, v)], T.φ⟩ := by
          rintro T' ⟨g1, g2, g3⟩
          rw [hr] at g2 g3
          refine ⟨fun o ho' y hy => ?_, fun o ho' => g2 o (List.mem_cons_of_mem _ ho'), fun o ho' o' ho'' => g3 o ho' o' (List.mem_cons_of_mem _ ho'')⟩
          rcases List.mem_append.1 hy with hy | hy
          · exact g1 o ho' y hy
          · obtain rfl : y = (x.2.1.dst, v) := by simpa using hy
            obtain ⟨q1, q2, q3⟩ := Oper.apart_spec (g3 o ho' x List.mem_cons_self)
            exact ⟨fun d hd => q3 d hd, fun d hd => q2 d hd⟩
        rw [List.pairwise_append, List.pairwise_cons]
        refine ⟨hap1, ⟨fun T' hT' => hTn T' (hapT T' hT'), hap22⟩, fun T1 hT1 T2 hT2 => ?_⟩
        rcases List.mem_cons.1 hT2 with rfl | h
        · exact hTn' T1 (hap12 T1 hT1 T List.mem_cons_self)
        · exact hap12 T1 hT1 T2 (List.mem_cons_of_mem _ h)
      · intro T' hT'
        rcases List.mem_append.1 hT' with h | h
        · exact hR1 T' h
        · rcases List.mem_cons.1 h with rfl | h
          · show RobU P C (r.map Prod.snd) (putsL a0 (T.p ++ [(x.2.1.dst, v)])) (T.p ++ [(x.2.1.dst, v)]) w1 T.φ
            rw [putsL_append]
            exact hRT
          · exact hR2 T' h
      · intro ps w' hps
        exact H ps w' (by simpa using hps)
    -- one operation of one thread is the same in the whole and in the thread
    have same : ∀ (ts1 ts2 : List ThU) (T : ThU) (x : Nat × Oper × Bool) (r : List (Nat × Oper × Bool)), T.rest = x :: r → (ts1 ++ T :: ts2).Pairwise (ThU.apart ops) → ops[x.1]? = some x.2.1 →
        execOp (putsL a0 ((ts1 ++ T :: ts2).flatMap ThU.p)).eval x.2.1 = execOp (putsL a0 T.p).eval x.2.1 := by
      intro ts1 ts2 T x r hr hap ho
      have hsx := fun cs b => Region.noSelect_spec hsel x.1 x.2.1 cs b ho
      rw [List.pairwise_append] at hap
      obtain ⟨hap1, hap2, hap12⟩ := hap
      rw [List.pairwise_cons] at hap2
      obtain ⟨hapT, hap22⟩ := hap2
      have hd2 : ∀ y ∈ ts2.flatMap ThU.p, (∀ d, y.1 = some d → d ∉ x.2.1.looksAt ops) ∧ ∀ d, x.2.1.dst = some d → y.1 ≠ some d := fun y hy => by
        obtain ⟨T', hT', hy'⟩ := List.mem_flatMap.1 hy
        exact (hapT T' hT').1 x (by rw [hr]; exact List.mem_cons_self) y hy'
      have hd1 : ∀ y ∈ ts1.flatMap ThU.p, (∀ d, y.1 = some d → d ∉ x.2.1.looksAt ops) ∧ ∀ d, x.2.1.dst = some d → y.1 ≠ some d := fun y hy => by
        obtain ⟨T', hT', hy'⟩ := List.mem_flatMap.1 hy
        exact (hap12 T' hT' T List.mem_cons_self).2.1 x (by rw [hr]; exact List.mem_cons_self) y hy'
      have hfl : (ts1 ++ T :: ts2).flatMap ThU.p = ts1.flatMap ThU.p ++ (T.p ++ ts2.flatMap ThU.p) := by simp
      rw [hfl, putsL_append, putsL_append, execOp_puts (ops := ops) hsx _ _ fun y hy => (hd2 y hy).1]
      exact execOp_puts_mid (ops := ops) hsx _ _ _ fun y hy => (hd1 y hy).1
    intro listed ts w hn hB hops hap hC hb hR H
    unfold thUB at hB
    cases hm : markB (ts.map fun T => T.rest.map fun x => (x.1, x.2.2)) with
    | some q =>
      obtain ⟨ma, k, mr, mb⟩ := q
      rw [hm] at hB
      simp only [Bool.and_eq_true] at hB
      obtain ⟨hfr, hB⟩ := hB
      have hsp := markB_spec hm
      rw [List.map_eq_append_iff] at hsp
      obtain ⟨ts1, tsr, rfl, hm1, hm2⟩ := hsp
      rw [List.map_eq_cons_iff] at hm2
      obtain ⟨T, ts2, rfl, hT1, hT2⟩ := hm2
      rw [List.map_eq_cons_iff] at hT1
      obtain ⟨⟨kx, ox, bx⟩, r, hr, hx, hrr⟩ := hT1
      simp only [Prod.mk.injEq] at hx
      obtain ⟨rfl, rfl⟩ := hx
      have hT : T ∈ ts1 ++ T :: ts2 := List.mem_append.2 (.inr List.mem_cons_self)
      obtain ⟨ho, hs, hg⟩ := hops T hT (kx, ox, true) (by rw [hr]; exact List.mem_cons_self)
      have hRT := hR T hT
      rw [hr] at hRT
      obtain ⟨v, hv, hrob⟩ := hRT
      have hexec := same ts1 ts2 T (kx, ox, true) r hr hap ho
      have hg' : ox.guard = none := hg
      simp only [frontB, Bool.and_eq_true] at hfr
      obtain ⟨⟨⟨⟨⟨⟨h1, h2⟩, h3⟩, h4⟩, h5⟩, h6⟩, h7⟩ := hfr
      refine wpAnyS_first (v := v) ho h2 hs (Region.noSelect_spec h4) hQ (fuel + n) listed _ w hC (closedL_of h1) (Region.free_spec ho h5) (by simpa using h6) (.inl ⟨by simp [Region.wanted, hg'], fun U hU => by rw [hexec]; exact hv U hU⟩) ?_
      refine step listed ts1 ts2 T (kx, ox, true) r v w hr hn ?_ hops hap hC hb (fun T' hT' => hR T' (List.mem_append.2 (.inl hT'))) (fun T' hT' => hR T' (List.mem_append.2 (.inr (List.mem_cons_of_mem _ hT')))) hrob H
      rw [hm1, hrr, hT2]
      exact hB
    | none =>
      rw [hm] at hB
      simp only [Bool.and_eq_true] at hB
      obtain ⟨⟨hne, hrd⟩, hsp⟩ := hB
      refine ⟨fun h0 => (by rw [h0] at hne; cases hne), fun k hk => ?_⟩
      have h1 := List.all_eq_true.1 hrd k hk
      obtain ⟨Ti, hTi, hhd⟩ := List.any_eq_true.1 h1
      obtain ⟨T, hT, rfl⟩ := List.mem_map.1 hTi
      obtain ⟨ts1, ts2, rfl⟩ := List.append_of_mem hT
      cases hr : T.rest with
      | nil => rw [hr] at hhd; simp at hhd
      | cons x r =>
        rw [hr] at hhd
        obtain ⟨kx, ox, bx⟩ := x
        simp only [List.map_cons, List.head?_cons, beq_iff_eq, Option.some.injEq, Prod.mk.injEq] at hhd
        obtain ⟨rfl, rfl⟩ := hhd
        obtain ⟨ho, hs, hg⟩ := hops T hT (kx, ox, false) (by rw [hr]; exact List.mem_cons_self)
        have hexec := same ts1 ts2 T (kx, ox, false) r hr hap ho
        have hg' : ox.guard = none := hg
        have hwant : Region.wanted ox (yielded ops (putsL a0 ((ts1 ++ T :: ts2).flatMap ThU.p)).tmps) = true := by simp [Region.wanted, hg']
        unfold wpOp
        simp only at ho
        simp only [ho, hwant, if_true]
        have hRT := hR T hT
        rw [hr] at hRT
        refine .inl ((hRT w hC (Below.refl _ _)).wp hexec fun v w1 ⟨hb1, hrob⟩ => ⟨fun _ => hCu _ _ hC hb1, ?_⟩)
        have hspl := List.all_eq_true.1 hsp (ts1.map (fun T => T.rest.map fun x => (x.1, x.2.2)), T.rest.map (fun x => (x.1, x.2.2)), ts2.map fun T => T.rest.map fun x => (x.1, x.2.2)) (by
          rw [List.map_append, List.map_cons]
          exact mem_splits _ _ _)
        rw [hr] at hspl
        simp only [List.map_cons] at hspl
        exact step listed ts1 ts2 T (kx, ox, false) r v w1 hr hn hspl hops hap (hCu _ _ hC hb1) (hb.trans (hb1.mono hb.size)) (fun T' hT' => (hR T' (List.mem_append.2 (.inl hT'))).up hb1) (fun T' hT' => (hR T' (List.mem_append.2 (.inr (List.mem_cons_of_mem _ hT')))).up hb1) hrob H
end
end Go.Proofs.YthiblfkmcdnalaaGreat
