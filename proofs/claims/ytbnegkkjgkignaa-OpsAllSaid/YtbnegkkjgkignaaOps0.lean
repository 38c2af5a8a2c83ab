/- The plain law of pages and maps of pages: what is right, where a page stands. -/
import Derived.Test.YtbnegkkjgkignaaPg
namespace Go.Proofs.Ytbnegkkjgkignaa

def rightP (p : Pg) : Bool := decide (1 ≤ p.id) && decide (p.id ≤ 16) && decide (1 ≤ p.ver) && decide (p.ver ≤ 2147483647) && decide (p.body.size ≤ 16)
theorem rightP_iff {p : Pg} : rightP p = true ↔ 1 ≤ p.id ∧ p.id ≤ 16 ∧ 1 ≤ p.ver ∧ p.ver ≤ 2147483647 ∧ p.body.size ≤ 16 := by
  simp [rightP, and_assoc]
theorem rightP_no {p : Pg} (h : ¬ rightP p = true) : p.id < 1 ∨ 16 < p.id ∨ p.ver < 1 ∨ 2147483647 < p.ver ∨ 16 < p.body.size := by
  rw [rightP_iff] at h; omega

/-- the page at k is right, and its Id is above the one ahead -/
def okM (l : List Pg) (k : Nat) : Bool := match l[k]? with
  | some p => rightP p && (match k with
    | 0 => true
    | j + 1 => match l[j]? with
      | some q => decide (q.id < p.id)
      | none => true)
  | none => true
def rightM (l : List Pg) : Bool := (List.range l.length).all (okM l)
theorem rightM_iff {l : List Pg} : rightM l = true ↔ ∀ k, k < l.length → okM l k = true := by simp [rightM]
theorem rightM_bad {l : List Pg} {k : Nat} (hk : k < l.length) (h : okM l k = false) : rightM l = false := by
  cases hr : rightM l
  · rfl
  · rw [rightM_iff.1 hr k hk] at h; cases h
theorem okM_bad {l : List Pg} {k : Nat} {p : Pg} (hp : l[k]? = some p) (h : rightP p = false) : okM l k = false := by
  simp [okM, hp, h]
theorem okM_zero {l : List Pg} {p : Pg} (hp : l[0]? = some p) (h : rightP p = true) : okM l 0 = true := by
  simp [okM, hp, h]
theorem okM_succ {l : List Pg} {j : Nat} {p q : Pg} (hp : l[j + 1]? = some p) (hq : l[j]? = some q) (h : rightP p = true) : okM l (j + 1) = decide (q.id < p.id) := by
  simp [okM, hp, hq, h]
theorem rightP_of {l : List Pg} (h : rightM l = true) {k : Nat} {p : Pg} (hp : l[k]? = some p) : rightP p = true := by
  have hk : k < l.length := (List.getElem?_eq_some_iff.1 hp).1
  have := rightM_iff.1 h k hk
  simp only [okM, hp, Bool.and_eq_true] at this
  exact this.1
theorem rises {l : List Pg} (h : rightM l = true) {j : Nat} {p q : Pg} (hp : l[j + 1]? = some p) (hq : l[j]? = some q) : q.id < p.id := by
  have hk : j + 1 < l.length := (List.getElem?_eq_some_iff.1 hp).1
  have := rightM_iff.1 h (j + 1) hk
  rw [okM_succ hp hq (rightP_of h hp)] at this
  simpa using this

/-- the page at k has that Id, or a greater one -/
def geAt (l : List Pg) (id : Int) (k : Nat) : Bool := match l[k]? with
  | some p => decide (id ≤ p.id)
  | none => false
theorem geAt_of {l : List Pg} {id : Int} {k : Nat} {p : Pg} (h : l[k]? = some p) : geAt l id k = decide (id ≤ p.id) := by simp [geAt, h]
/-- where the page of that Id stands, or would stand, and whether it is there -/
def placeM (l : List Pg) (id : Int) : Nat × Bool := match (List.range l.length).find? (geAt l id) with
  | some k => (k, match l[k]? with
    | some p => decide (p.id = id)
    | none => false)
  | none => (l.length, false)
theorem placeM_none {l : List Pg} {id : Int} (h : ∀ (k : Nat) (p : Pg), l[k]? = some p → p.id < id) : placeM l id = (l.length, false) := by
  have : (List.range l.length).find? (geAt l id) = none := by
    rw [List.find?_eq_none]
    intro k hk
    rw [List.mem_range] at hk
    have h1 := List.getElem?_eq_getElem hk
    have := h k _ h1
    rw [geAt_of h1]
    simp; omega
  rw [placeM, this]
theorem placeM_some {l : List Pg} {id : Int} {k : Nat} {p : Pg} (hk : l[k]? = some p) (hp : id ≤ p.id) (h : ∀ (j : Nat) (q : Pg), j < k → l[j]? = some q → q.id < id) : placeM l id = (k, decide (p.id = id)) := by
  have hl : k < l.length := (List.getElem?_eq_some_iff.1 hk).1
  have : (List.range l.length).find? (geAt l id) = some k := by
    rw [List.find?_range_eq_some]
    refine ⟨by rw [geAt_of hk]; simpa using hp, by simpa using hl, fun j hj => ?_⟩
    have h1 := List.getElem?_eq_getElem (show j < l.length by omega)
    have := h j _ hj h1
    rw [geAt_of h1]
    simp; omega
  rw [placeM, this]
  simp [hk]
end Go.Proofs.Ytbnegkkjgkignaa
