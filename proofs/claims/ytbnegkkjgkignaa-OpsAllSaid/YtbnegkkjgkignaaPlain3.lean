/- The plain laws behind OpsBack and OpsPages. -/
import Derived.Test.YtbnegkkjgkignaaOps8
namespace Go.Proofs.Ytbnegkkjgkignaa

def opNew (id : Int) : Op := ⟨1, id, ⟨#[]⟩⟩
def opDel (id : Int) : Op := ⟨4, id, ⟨#[]⟩⟩
theorem opNew_right {id : Int} (h1 : 1 ≤ id) (h2 : id ≤ 16) : (opNew id).right = true := opRight_iff.2 ⟨by show (1 : Int) ≤ 1; decide, by show (1 : Int) ≤ 4; decide, h1, h2⟩
theorem opDel_right {id : Int} (h1 : 1 ≤ id) (h2 : id ≤ 16) : (opDel id).right = true := opRight_iff.2 ⟨by show (1 : Int) ≤ 4; decide, by show (4 : Int) ≤ 4; decide, h1, h2⟩

theorem back_plain (l : List Pg) (id : Int) :
    (allM l [opNew id, opDel id] = (l, [⟨1, pg0⟩, ⟨1, pg0⟩]) ∧ allM l [opDel id, opNew id] = (l, [⟨1, pg0⟩, ⟨1, pg0⟩])) ∨
    (allM l [opNew id, opDel id] = (l, [⟨0, pgNew id⟩, ⟨0, pg0⟩]) ∧ ∃ d, allM l [opDel id, opNew id] = (d, [⟨3, pg0⟩, ⟨0, pgNew id⟩])) ∨
    (∃ n d, allM l [opNew id, opDel id] = (n, [⟨4, pg0⟩, ⟨0, pg0⟩]) ∧ allM l [opDel id, opNew id] = (d, [⟨0, pg0⟩, ⟨0, pgNew id⟩]) ∧ getG d id = some (pgNew id) ∧ d.length = l.length) := by
  have key : ∀ (a b : Op), allM l [a, b] = ((doM (doM l a).1 b).1, [(doM l a).2, (doM (doM l a).1 b).2]) := fun _ _ => rfl
  rw [key, key]
  cases h : rightM l with
  | false =>
    left
    have e : ∀ o, doM l o = (l, ⟨1, pg0⟩) := fun o => doM_bad h
    simp [e]
  | true =>
    by_cases hid : 1 ≤ id ∧ id ≤ 16
    · have hn := opNew_right hid.1 hid.2
      have hd := opDel_right hid.1 hid.2
      right
      cases hg : getM l id with
      | none =>
        left
        have s1 : stepF none (opNew id) = (some (pgNew id), ⟨0, pgNew id⟩) := by simp [stepF, hn]; simp [opNew]
        have s2 : stepF (some (pgNew id)) (opDel id) = (none, ⟨0, pg0⟩) := by simp [stepF, hd]; simp [opDel]
        have s3 : stepF none (opDel id) = (none, ⟨3, pg0⟩) := by simp [stepF, hd]; simp [opDel]
        have d1 := doM_did (o := opNew id) h
        have g1 : getM (doM l (opNew id)).1 id = some (pgNew id) := by rw [d1.get]; show (if id = id then _ else _) = _; rw [if_pos rfl]; show (stepF (getM l id) _).1 = _; rw [hg, s1]
        have t1 : (doM l (opNew id)).2 = ⟨0, pgNew id⟩ := by rw [d1.told]; show (stepF (getM l id) _).2 = _; rw [hg, s1]
        have d2 := doM_did (o := opDel id) d1.right
        have t2 : (doM (doM l (opNew id)).1 (opDel id)).2 = ⟨0, pg0⟩ := by rw [d2.told]; show (stepF (getM _ id) _).2 = _; rw [g1, s2]
        have e2 : (doM (doM l (opNew id)).1 (opDel id)).1 = l := right_ext d2.right h fun i => by
          have a1 := d2.get i
          have a2 := d1.get i
          rw [show (opDel id).id = id from rfl, g1, s2] at a1
          rw [show (opNew id).id = id from rfl, hg, s1] at a2
          rw [a1, a2]
          by_cases hi : i = id
          · rw [if_pos hi, hi, hg]
          · rw [if_neg hi, if_neg hi]
        have e3 : doM l (opDel id) = (l, ⟨3, pg0⟩) := doM_eq h (by show stepF (getM l id) _ = (getM l id, _); rw [hg, s3])
        refine ⟨by rw [t1, t2, e2], (doM l (opNew id)).1, ?_⟩
        rw [e3]
        simp only [t1]
      | some p =>
        right
        have s1 : stepF (some p) (opNew id) = (some p, ⟨4, pg0⟩) := by simp [stepF, hn]; simp [opNew]
        have s2 : stepF (some p) (opDel id) = (none, ⟨0, pg0⟩) := by simp [stepF, hd]; simp [opDel]
        have s3 : stepF none (opNew id) = (some (pgNew id), ⟨0, pgNew id⟩) := by simp [stepF, hn]; simp [opNew]
        have e1 : doM l (opNew id) = (l, ⟨4, pg0⟩) := doM_eq h (by show stepF (getM l id) _ = (getM l id, _); rw [hg, s1])
        have d2 := doM_did (o := opDel id) h
        have g2 : getM (doM l (opDel id)).1 id = none := by rw [d2.get]; show (if id = id then _ else _) = _; rw [if_pos rfl]; show (stepF (getM l id) _).1 = _; rw [hg, s2]
        have t2 : (doM l (opDel id)).2 = ⟨0, pg0⟩ := by rw [d2.told]; show (stepF (getM l id) _).2 = _; rw [hg, s2]
        have d3 := doM_did (o := opNew id) d2.right
        have t3 : (doM (doM l (opDel id)).1 (opNew id)).2 = ⟨0, pgNew id⟩ := by rw [d3.told]; show (stepF (getM _ id) _).2 = _; rw [g2, s3]
        have g3 : getM (doM (doM l (opDel id)).1 (opNew id)).1 id = some (pgNew id) := by rw [d3.get]; show (if id = id then _ else _) = _; rw [if_pos rfl]; show (stepF (getM _ id) _).1 = _; rw [g2, s3]
        have n2 := d2.len
        have n3 := d3.len
        rw [show (opDel id).id = id from rfl, hg, s2] at n2
        rw [show (opNew id).id = id from rfl, g2, s3] at n3
        refine ⟨(doM l (opDel id)).1, (doM (doM l (opDel id)).1 (opNew id)).1, by rw [e1]; simp only [t2], by rw [t2, t3], by rw [getG, if_pos d3.right, g3], ?_⟩
        simp at n2 n3
        omega
    · left
      have b1 : (opNew id).right = false := by
        cases hb : (opNew id).right with
        | false => rfl
        | true => exact absurd ⟨(opRight_iff.1 hb).2.2.1, (opRight_iff.1 hb).2.2.2⟩ hid
      have b2 : (opDel id).right = false := by
        cases hb : (opDel id).right with
        | false => rfl
        | true => exact absurd ⟨(opRight_iff.1 hb).2.2.1, (opRight_iff.1 hb).2.2.2⟩ hid
      have e1 : doM l (opNew id) = (l, ⟨1, pg0⟩) := doM_op b1
      have e2 : doM l (opDel id) = (l, ⟨1, pg0⟩) := doM_op b2
      simp [e1, e2]

theorem allM_append : ∀ (a b : List Op) (l : List Pg), allM l (a ++ b) = ((allM (allM l a).1 b).1, (allM l a).2 ++ (allM (allM l a).1 b).2)
  | [], b, l => rfl
  | o :: a, b, l => by
    rw [List.cons_append, allM, allM_append a b]
    rfl
def opWrite (p : Pg) : Op := ⟨3, p.id, p.body⟩
/-- what makes one page -/
def pageOps (p : Pg) : List Op := opNew p.id :: List.replicate (p.ver.toNat - 1) (opWrite p)
def pagesOps (l : List Pg) : List Op := l.flatMap pageOps
theorem before_last {a : List Pg} {p : Pg} (h : rightM (a ++ [p]) = true) : rightM a = true ∧ ∀ q ∈ a, q.id < p.id := by
  obtain ⟨h1, h2⟩ := right_iff.1 h
  obtain ⟨s1, _, s3⟩ := sorted_cut.1 h2
  exact ⟨right_of (fun q hq => h1 q (by simp [hq])) s1, fun q hq => s3 q hq p (by simp)⟩
theorem right_last {a : List Pg} {p q : Pg} (h : rightM (a ++ [p]) = true) (hq : rightP q = true) (e : q.id = p.id) : rightM (a ++ [q]) = true := by
  obtain ⟨h1, h2⟩ := before_last h
  refine right_of (fun r hr => ?_) (sorted_cut.2 ⟨sorted_of_right h1, by simp [Sorted], fun r hr s hs => by simp at hs; subst hs; rw [e]; exact h2 r hr⟩)
  rcases List.mem_append.1 hr with hr | hr
  · exact mem_right h1 hr
  · simp at hr; subst hr; exact hq
theorem writes_plain {a : List Pg} {p : Pg} (h : rightM (a ++ [p]) = true) : ∀ (c : Nat) (v : Int) (b0 : ByteArray), 1 ≤ v → v + c ≤ 2147483647 → b0.size ≤ 16 →
    (allM (a ++ [⟨p.id, v, b0⟩]) (List.replicate c (opWrite p))).1 = a ++ [⟨p.id, v + c, if c = 0 then b0 else p.body⟩] ∧ ∀ r ∈ (allM (a ++ [⟨p.id, v, b0⟩]) (List.replicate c (opWrite p))).2, r.e = 0
  | 0, v, b0, _, _, _ => by simp [allM]
  | c + 1, v, b0, h1, h2, h3 => by
    have hp := mem_right h (p := p) (by simp)
    obtain ⟨p1, p2, p3, p4, p5⟩ := rightP_iff.1 hp
    have hr : rightM (a ++ [⟨p.id, v, b0⟩]) = true := right_last h (rightP_iff.2 ⟨p1, p2, h1, by show v ≤ _; omega, h3⟩) rfl
    have ho : (opWrite p).right = true := opRight_iff.2 ⟨by show (1 : Int) ≤ 3; decide, by show (3 : Int) ≤ 4; decide, p1, p2⟩
    have e : doM (a ++ [⟨p.id, v, b0⟩]) (opWrite p) = (a ++ [⟨p.id, v + 1, p.body⟩], ⟨0, ⟨p.id, v + 1, p.body⟩⟩) := by
      rw [doM_up (k := a.length) (p := ⟨p.id, v, b0⟩) hr ho (place_is (a := a) (c := []) (before_last hr).2 rfl) (by simp) rfl (by show ¬ 16 < p.body.size; omega) (by show ¬ 2147483647 ≤ v; omega)]
      simp [pgUp, opWrite]
    obtain ⟨i1, i2⟩ := writes_plain h c (v + 1) p.body (by omega) (by omega) p5
    rw [List.replicate_succ, allM, e]
    refine ⟨?_, ?_⟩
    · show (allM (a ++ [⟨p.id, v + 1, p.body⟩]) _).1 = _
      rw [i1]
      simp
      omega
    · intro r hr
      rcases List.mem_cons.1 hr with rfl | hr
      · rfl
      · exact i2 r hr
theorem page_plain {a : List Pg} {p : Pg} (h : rightM (a ++ [p]) = true) (hb : p.ver = 1 → p.body = ⟨#[]⟩) : (allM a (pageOps p)).1 = a ++ [p] ∧ ∀ r ∈ (allM a (pageOps p)).2, r.e = 0 := by
  have hp := mem_right h (p := p) (by simp)
  obtain ⟨p1, p2, p3, p4, p5⟩ := rightP_iff.1 hp
  obtain ⟨ha, hl⟩ := before_last h
  have e : doM a (opNew p.id) = (a ++ [⟨p.id, 1, ⟨#[]⟩⟩], ⟨0, pgNew p.id⟩) := by
    rw [doM_new (k := a.length) ha (opNew_right p1 p2) (show placeM a p.id = (a.length, false) by have := place_not (b := []) hl (by simp); simpa using this) rfl]
    simp [pgNew, opNew]
  obtain ⟨i1, i2⟩ := writes_plain h (p.ver.toNat - 1) 1 ⟨#[]⟩ (by decide) (by omega) (by decide)
  rw [pageOps, allM, e]
  refine ⟨?_, ?_⟩
  · show (allM (a ++ [⟨p.id, 1, ⟨#[]⟩⟩]) _).1 = _
    rw [i1]
    have e1 : (1 : Int) + ((p.ver.toNat - 1 : Nat) : Int) = p.ver := by omega
    have e2 : (if p.ver.toNat - 1 = 0 then ⟨#[]⟩ else p.body) = p.body := by
      split
      · exact (hb (by omega)).symm
      · rfl
    rw [e1, e2]
  · intro r hr
    rcases List.mem_cons.1 hr with rfl | hr
    · rfl
    · exact i2 r hr
theorem pages_plain : ∀ (l a : List Pg), rightM (a ++ l) = true → (∀ p ∈ l, p.ver = 1 → p.body = ⟨#[]⟩) → (allM a (pagesOps l)).1 = a ++ l ∧ ∀ r ∈ (allM a (pagesOps l)).2, r.e = 0
  | [], a, _, _ => by simp [pagesOps, allM]
  | p :: l, a, h, hb => by
    have h' : rightM ((a ++ [p]) ++ l) = true := by simpa using h
    have hap : rightM (a ++ [p]) = true := by
      obtain ⟨h1, h2⟩ := right_iff.1 h'
      exact right_of (fun q hq => h1 q (by simp at hq ⊢; rcases hq with hq | hq <;> simp [hq])) (sorted_cut.1 h2).1
    obtain ⟨i1, i2⟩ := page_plain hap (hb p (by simp))
    obtain ⟨j1, j2⟩ := pages_plain l (a ++ [p]) h' (fun q hq => hb q (by simp [hq]))
    have e : pagesOps (p :: l) = pageOps p ++ pagesOps l := by simp [pagesOps]
    rw [e, allM_append, i1]
    refine ⟨by rw [j1]; simp, ?_⟩
    intro r hr
    rcases List.mem_append.1 hr with hr | hr
    · exact i2 r hr
    · exact j2 r hr
/-- of a right map -/
theorem pages_make {l : List Pg} (h : rightM l = true) (hb : ∀ p ∈ l, p.ver = 1 → p.body = ⟨#[]⟩) : (allM [] (pagesOps l)).1 = l ∧ ∀ r ∈ (allM [] (pagesOps l)).2, r.e = 0 := by
  have := pages_plain l [] (by simpa using h) hb
  simpa using this
end Go.Proofs.Ytbnegkkjgkignaa
