/- The plain law of operations on maps of pages: a right list is known by what it tells of each Id. -/
import Derived.Test.YtbnegkkjgkignaaOps0
namespace Go.Proofs.Ytbnegkkjgkignaa

structure Op where
  kind : Int
  id : Int
  body : ByteArray
  deriving DecidableEq
structure Rs where
  e : Int
  pg : Pg
  deriving DecidableEq
def pg0 : Pg := ⟨0, 0, ⟨#[]⟩⟩
def Op.right (o : Op) : Bool := decide (1 ≤ o.kind) && decide (o.kind ≤ 4) && decide (1 ≤ o.id) && decide (o.id ≤ 16)
theorem opRight_iff {o : Op} : o.right = true ↔ 1 ≤ o.kind ∧ o.kind ≤ 4 ∧ 1 ≤ o.id ∧ o.id ≤ 16 := by simp [Op.right, and_assoc]

def pgNew (id : Int) : Pg := ⟨id, 1, ⟨#[]⟩⟩
def pgUp (p : Pg) (b : ByteArray) : Pg := ⟨p.id, p.ver + 1, b⟩
/-- what an operation does to the pages, and tells -/
def doM (l : List Pg) (o : Op) : List Pg × Rs :=
  if rightM l = false then (l, ⟨1, pg0⟩) else if o.right = false then (l, ⟨1, pg0⟩) else
  if o.kind = 1 then
    if (placeM l o.id).2 = true then (l, ⟨4, pg0⟩) else (l.take (placeM l o.id).1 ++ pgNew o.id :: l.drop (placeM l o.id).1, ⟨0, pgNew o.id⟩)
  else if (placeM l o.id).2 = false then (l, ⟨3, pg0⟩) else match l[(placeM l o.id).1]? with
  | none => (l, ⟨3, pg0⟩)
  | some p =>
    if o.kind = 2 then (l, ⟨0, p⟩) else if o.kind = 4 then (l.take (placeM l o.id).1 ++ l.drop ((placeM l o.id).1 + 1), ⟨0, pg0⟩) else
    if 16 < o.body.size then (l, ⟨5, pg0⟩) else if 2147483647 ≤ p.ver then (l, ⟨7, pg0⟩) else (l.set (placeM l o.id).1 (pgUp p o.body), ⟨0, pgUp p o.body⟩)

/-- the page of an Id -/
def getM (l : List Pg) (i : Int) : Option Pg := l.find? (fun p => decide (p.id = i))
def Sorted (l : List Pg) : Prop := l.Pairwise (fun p q => p.id < q.id)

theorem getM_nil (i : Int) : getM [] i = none := rfl
theorem getM_cons (p : Pg) (l : List Pg) (i : Int) : getM (p :: l) i = if p.id = i then some p else getM l i := by
  unfold getM
  rw [List.find?_cons]
  by_cases h : p.id = i <;> simp [h]
theorem getM_append (a b : List Pg) (i : Int) : getM (a ++ b) i = (getM a i).or (getM b i) := by simp [getM, List.find?_append]
theorem getM_none {l : List Pg} {i : Int} (h : ∀ q ∈ l, q.id ≠ i) : getM l i = none := by
  simp only [getM, List.find?_eq_none, decide_eq_true_eq]; exact h
theorem getM_some {l : List Pg} {i : Int} {p : Pg} (h : getM l i = some p) : p ∈ l ∧ p.id = i := by
  have h1 := List.find?_some h
  exact ⟨List.mem_of_find?_eq_some h, by simpa using h1⟩
theorem sorted_ext : ∀ {l m : List Pg}, Sorted l → Sorted m → (∀ i, getM l i = getM m i) → l = m
  | [], [], _, _, _ => rfl
  | [], q :: m, _, _, h => by have := h q.id; simp [getM_cons, getM_nil] at this
  | p :: l, [], _, _, h => by have := h p.id; simp [getM_cons, getM_nil] at this
  | p :: l, q :: m, hl, hm, h => by
    have hl1 := List.pairwise_cons.1 hl
    have hm1 := List.pairwise_cons.1 hm
    have hp := h p.id
    have hq := h q.id
    rw [getM_cons, getM_cons, if_pos rfl] at hp
    rw [getM_cons, getM_cons, if_pos rfl] at hq
    have e : p.id = q.id := by
      rcases Int.lt_trichotomy p.id q.id with h1 | h1 | h1
      · rw [if_neg (by omega), getM_none (fun r hr => by have := hm1.1 r hr; omega)] at hp; cases hp
      · exact h1
      · rw [if_neg (by omega), getM_none (fun r hr => by have := hl1.1 r hr; omega)] at hq; cases hq
    rw [if_pos e.symm] at hp
    injection hp with hp
    subst hp
    rw [sorted_ext hl1.2 hm1.2 fun i => ?_]
    by_cases hi : i = p.id
    · rw [getM_none (fun r hr => by have := hl1.1 r hr; omega), getM_none (fun r hr => by have := hm1.1 r hr; omega)]
    · have := h i
      rw [getM_cons, getM_cons, if_neg (by omega), if_neg (by omega)] at this
      exact this

theorem sorted_of_right {l : List Pg} (h : rightM l = true) : Sorted l := by
  have key : ∀ (d i : Nat) (p q : Pg), l[i]? = some p → l[i + d + 1]? = some q → p.id < q.id := by
    intro d
    induction d with
    | zero => intro i p q hp hq; exact rises h hq hp
    | succ d ih =>
      intro i p q hp hq
      have hlt : i + d + 1 < l.length := by have := (List.getElem?_eq_some_iff.1 hq).1; omega
      have h1 := ih i p _ hp (List.getElem?_eq_getElem hlt)
      have h2 := rises h (j := i + d + 1) hq (List.getElem?_eq_getElem hlt)
      omega
  rw [Sorted, List.pairwise_iff_getElem]
  intro i j hi hj hij
  exact key (j - i - 1) i _ _ (List.getElem?_eq_getElem hi) (by rw [show i + (j - i - 1) + 1 = j from by omega]; exact List.getElem?_eq_getElem hj)
theorem mem_right {l : List Pg} (h : rightM l = true) {p : Pg} (hp : p ∈ l) : rightP p = true := by
  obtain ⟨k, hk⟩ := List.getElem?_of_mem hp
  exact rightP_of h hk
theorem right_of {l : List Pg} (h1 : ∀ p ∈ l, rightP p = true) (hs : Sorted l) : rightM l = true := by
  rw [rightM_iff]
  intro k hk
  have hp := List.getElem?_eq_getElem hk
  have hr := h1 _ (List.mem_of_getElem? hp)
  rcases k with _ | j
  · exact okM_zero hp hr
  · have hj : j < l.length := by omega
    rw [okM_succ hp (List.getElem?_eq_getElem hj) hr]
    have := List.pairwise_iff_getElem.1 hs j (j + 1) hj hk (by omega)
    simpa using this
theorem right_iff {l : List Pg} : rightM l = true ↔ (∀ p ∈ l, rightP p = true) ∧ Sorted l :=
  ⟨fun h => ⟨fun _ hp => mem_right h hp, sorted_of_right h⟩, fun h => right_of h.1 h.2⟩
theorem right_ext {l m : List Pg} (hl : rightM l = true) (hm : rightM m = true) (h : ∀ i, getM l i = getM m i) : l = m := sorted_ext (sorted_of_right hl) (sorted_of_right hm) h
theorem right_nil : rightM [] = true := rfl

theorem split_spec (id : Int) : ∀ (l : List Pg), Sorted l → ∃ a b, l = a ++ b ∧ (∀ q ∈ a, q.id < id) ∧ ((∀ q ∈ b, id < q.id) ∨ ∃ p c, b = p :: c ∧ p.id = id ∧ ∀ q ∈ c, id < q.id)
  | [], _ => ⟨[], [], rfl, by simp, .inl (by simp)⟩
  | p :: l, h => by
    have h1 := List.pairwise_cons.1 h
    rcases Int.lt_trichotomy p.id id with h2 | h2 | h2
    · obtain ⟨a, b, e, ha, hb⟩ := split_spec id l h1.2
      refine ⟨p :: a, b, by rw [e]; rfl, ?_, hb⟩
      intro q hq
      rcases List.mem_cons.1 hq with rfl | hq
      · exact h2
      · exact ha q hq
    · exact ⟨[], p :: l, rfl, by simp, .inr ⟨p, l, rfl, h2, fun q hq => by have := h1.1 q hq; omega⟩⟩
    · refine ⟨[], p :: l, rfl, by simp, .inl fun q hq => ?_⟩
      rcases List.mem_cons.1 hq with rfl | hq
      · exact h2
      · have := h1.1 q hq; omega
theorem place_not {a b : List Pg} {id : Int} (ha : ∀ q ∈ a, q.id < id) (hb : ∀ q ∈ b, id < q.id) : placeM (a ++ b) id = (a.length, false) := by
  cases b with
  | nil =>
    rw [List.append_nil]
    exact placeM_none fun k p hp => ha p (List.mem_of_getElem? hp)
  | cons q b =>
    have hq := hb q (by simp)
    rw [placeM_some (k := a.length) (p := q) (by simp) (by omega) (fun j r hj hr => ha r (List.mem_of_getElem? (by rwa [List.getElem?_append_left hj] at hr)))]
    rw [decide_eq_false (by omega)]
theorem place_is {a c : List Pg} {p : Pg} {id : Int} (ha : ∀ q ∈ a, q.id < id) (hp : p.id = id) : placeM (a ++ p :: c) id = (a.length, true) := by
  rw [placeM_some (k := a.length) (p := p) (by simp) (by omega) (fun j r hj hr => ha r (List.mem_of_getElem? (by rwa [List.getElem?_append_left hj] at hr)))]
  rw [decide_eq_true hp]

/-- what an operation does to what is there of its Id -/
def stepF (g : Option Pg) (o : Op) : Option Pg × Rs :=
  if o.right = false then (g, ⟨1, pg0⟩) else match g with
  | none => if o.kind = 1 then (some (pgNew o.id), ⟨0, pgNew o.id⟩) else (none, ⟨3, pg0⟩)
  | some p => if o.kind = 1 then (some p, ⟨4, pg0⟩) else if o.kind = 2 then (some p, ⟨0, p⟩) else if o.kind = 4 then (none, ⟨0, pg0⟩) else
    if 16 < o.body.size then (some p, ⟨5, pg0⟩) else if 2147483647 ≤ p.ver then (some p, ⟨7, pg0⟩) else (some (pgUp p o.body), ⟨0, pgUp p o.body⟩)

structure Did (l : List Pg) (o : Op) (r : List Pg × Rs) : Prop where
  right : rightM r.1 = true
  told : r.2 = (stepF (getM l o.id) o).2
  get : ∀ i, getM r.1 i = if i = o.id then (stepF (getM l o.id) o).1 else getM l i
  len : r.1.length + (getM l o.id).isSome.toNat = l.length + (stepF (getM l o.id) o).1.isSome.toNat
theorem did_same {l : List Pg} {o : Op} {r : Rs} (h : rightM l = true) (h1 : stepF (getM l o.id) o = (getM l o.id, r)) : Did l o (l, r) := by
  refine ⟨h, by rw [h1], fun i => ?_, by rw [h1]⟩
  rw [h1]
  by_cases hi : i = o.id
  · subst hi; simp
  · simp [hi]
theorem sorted_mid {a c : List Pg} {x : Pg} : Sorted (a ++ x :: c) ↔ Sorted a ∧ Sorted c ∧ (∀ q ∈ c, x.id < q.id) ∧ (∀ p ∈ a, p.id < x.id) ∧ ∀ p ∈ a, ∀ q ∈ c, p.id < q.id := by
  simp only [Sorted, List.pairwise_append, List.pairwise_cons, List.mem_cons, forall_eq_or_imp]
  constructor
  · rintro ⟨h1, ⟨h2, h3⟩, h4⟩; exact ⟨h1, h3, h2, fun p hp => (h4 p hp).1, fun p hp => (h4 p hp).2⟩
  · rintro ⟨h1, h2, h3, h4, h5⟩; exact ⟨h1, ⟨h3, h2⟩, fun p hp => ⟨h4 p hp, h5 p hp⟩⟩
theorem sorted_cut {a c : List Pg} : Sorted (a ++ c) ↔ Sorted a ∧ Sorted c ∧ ∀ p ∈ a, ∀ q ∈ c, p.id < q.id := by simp only [Sorted, List.pairwise_append]
theorem doM_did {l : List Pg} {o : Op} (h : rightM l = true) : Did l o (doM l o) := by
  cases ho : o.right with
  | false =>
    rw [doM, if_neg (by simp [h]), if_pos ho]
    exact did_same h (by simp [stepF, ho])
  | true =>
    obtain ⟨o1, o2, o3, o4⟩ := opRight_iff.1 ho
    obtain ⟨hP, hS⟩ := right_iff.1 h
    obtain ⟨a, b, rfl, ha, hb⟩ := split_spec o.id l hS
    have hga : getM a o.id = none := getM_none fun q hq => by have := ha q hq; omega
    rcases hb with hb | ⟨p, c, rfl, hp, hc⟩
    · have hgb : getM b o.id = none := getM_none fun q hq => by have := hb q hq; omega
      have hg : getM (a ++ b) o.id = none := by rw [getM_append, hga, hgb]; rfl
      rw [doM, if_neg (by simp [h]), if_neg (by simp [ho]), place_not ha hb]
      by_cases hk : o.kind = 1
      · simp only [hk, if_true, Bool.false_eq_true, if_false, List.take_left', List.drop_left']
        have hst : stepF none o = (some (pgNew o.id), ⟨0, pgNew o.id⟩) := by simp [stepF, ho, hk]
        refine ⟨right_iff.2 ⟨fun q hq => ?_, ?_⟩, by rw [hg, hst], fun i => ?_, by rw [hg, hst]; simp; omega⟩
        · rcases List.mem_append.1 hq with hq | hq
          · exact hP q (by simp [hq])
          rcases List.mem_cons.1 hq with rfl | hq
          · exact rightP_iff.2 ⟨o3, o4, by simp [pgNew], by simp [pgNew], Nat.zero_le _⟩
          · exact hP q (by simp [hq])
        · obtain ⟨s1, s2, s3⟩ := sorted_cut.1 hS
          exact sorted_mid.2 ⟨s1, s2, hb, ha, s3⟩
        · rw [hg, hst, getM_append, getM_append, getM_cons]
          by_cases hi : i = o.id
          · subst hi; simp [pgNew, hga]
          · have : ¬ (pgNew o.id).id = i := fun e => hi (by rw [← e]; rfl)
            simp [hi, this]
      · simp only [hk, if_false, if_true]
        exact did_same h (by rw [hg]; simp [stepF, ho, hk])
    · have hg : getM (a ++ p :: c) o.id = some p := by rw [getM_append, hga, getM_cons, if_pos hp]; rfl
      have hx : (a ++ p :: c)[a.length]? = some p := by simp
      obtain ⟨s1, s2, s3, s4, s5⟩ := sorted_mid.1 hS
      have hpr := hP p (by simp)
      obtain ⟨p1, p2, p3, p4, p5⟩ := rightP_iff.1 hpr
      rw [doM, if_neg (by simp [h]), if_neg (by simp [ho]), place_is ha hp]
      by_cases hk : o.kind = 1
      · simp only [hk, if_true]
        exact did_same h (by rw [hg]; simp [stepF, ho, hk])
      simp only [hk, if_false, Bool.true_eq_false, hx]
      by_cases hk2 : o.kind = 2
      · simp only [hk2, if_true]
        exact did_same h (by rw [hg]; simp [stepF, ho, hk2])
      simp only [hk2, if_false]
      by_cases hk4 : o.kind = 4
      · simp only [hk4, if_true]
        have hst : stepF (some p) o = (none, ⟨0, pg0⟩) := by simp [stepF, ho, hk4]
        have hd : (a ++ p :: c).take a.length ++ (a ++ p :: c).drop (a.length + 1) = a ++ c := by simp
        rw [hd]
        refine ⟨right_iff.2 ⟨fun q hq => ?_, sorted_cut.2 ⟨s1, s2, s5⟩⟩, by rw [hg, hst], fun i => ?_, by rw [hg, hst]; simp; omega⟩
        · rcases List.mem_append.1 hq with hq | hq
          · exact hP q (by simp [hq])
          · exact hP q (by simp [hq])
        · rw [hg, hst, getM_append, getM_append, getM_cons]
          by_cases hi : i = o.id
          · subst hi
            rw [hga, getM_none (l := c) fun q hq => by have := hc q hq; omega]
            simp
          · have : ¬ p.id = i := by omega
            simp [hi, this]
      simp only [hk4, if_false]
      by_cases hs : 16 < o.body.size
      · simp only [hs, if_true]
        exact did_same h (by rw [hg]; simp [stepF, ho, hk, hk2, hk4, hs])
      simp only [hs, if_false]
      by_cases hv : 2147483647 ≤ p.ver
      · simp only [hv, if_true]
        exact did_same h (by rw [hg]; simp [stepF, ho, hk, hk2, hk4, hs, hv])
      simp only [hv, if_false]
      have hst : stepF (some p) o = (some (pgUp p o.body), ⟨0, pgUp p o.body⟩) := by simp [stepF, ho, hk, hk2, hk4, hs, hv]
      have hd : (a ++ p :: c).set a.length (pgUp p o.body) = a ++ pgUp p o.body :: c := by simp
      rw [hd]
      refine ⟨right_iff.2 ⟨fun q hq => ?_, sorted_mid.2 ⟨s1, s2, s3, s4, s5⟩⟩, by rw [hg, hst], fun i => ?_, by rw [hg, hst]; simp⟩
      · rcases List.mem_append.1 hq with hq | hq
        · exact hP q (by simp [hq])
        rcases List.mem_cons.1 hq with rfl | hq
        · exact rightP_iff.2 ⟨p1, p2, by simp only [pgUp]; omega, by simp only [pgUp]; omega, by simp only [pgUp]; omega⟩
        · exact hP q (by simp [hq])
      · rw [hg, hst, getM_append, getM_append, getM_cons, getM_cons]
        by_cases hi : i = o.id
        · subst hi; simp [pgUp, hga, hp]
        · have h1 : ¬ p.id = i := by omega
          have h2 : ¬ (pgUp p o.body).id = i := h1
          simp [hi, h1, h2]
theorem doM_bad {l : List Pg} {o : Op} (h : rightM l = false) : doM l o = (l, ⟨1, pg0⟩) := by rw [doM, if_pos h]
theorem doM_len (l : List Pg) (o : Op) : (doM l o).1.length ≤ l.length + 1 := by
  cases h : rightM l with
  | false => rw [doM_bad h]; simp
  | true =>
    have h1 := (doM_did (o := o) h).len
    have h2 : ∀ b : Bool, b.toNat ≤ 1 := by decide
    have := h2 (stepF (getM l o.id) o).1.isSome
    omega
end Go.Proofs.Ytbnegkkjgkignaa
