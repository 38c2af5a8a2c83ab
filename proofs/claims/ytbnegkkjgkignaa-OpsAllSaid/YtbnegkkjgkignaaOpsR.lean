/- The plain law of the document's table of all Ids. -/
import Derived.Test.YtbnegkkjgkignaaOpsL
namespace Go.Proofs.Ytbnegkkjgkignaa

theorem doM_eq {l : List Pg} {o : Op} {r : Rs} (h : rightM l = true) (hs : stepF (getM l o.id) o = (getM l o.id, r)) : doM l o = (l, r) := by
  have hd := doM_did (o := o) h
  have h1 : (doM l o).1 = l := right_ext hd.right h fun i => by
    rw [hd.get, hs]
    by_cases hi : i = o.id
    · subst hi; simp
    · simp [hi]
  have h2 : (doM l o).2 = r := by rw [hd.told, hs]
  exact Prod.ext h1 h2

def tabStep (T : List Pg) (p : Pg) : List Pg := T.set p.id.toNat p
def tab (l : List Pg) : List Pg := l.foldl tabStep (List.replicate 17 pg0)
def nz (p : Pg) : Bool := decide (p.id ≠ 0)
theorem tab_len_gen : ∀ (l T : List Pg), (l.foldl tabStep T).length = T.length
  | [], T => rfl
  | p :: l, T => by rw [List.foldl_cons, tab_len_gen l]; simp [tabStep]
theorem tab_len (l : List Pg) : (tab l).length = 17 := by rw [tab, tab_len_gen]; simp
theorem tab_take {l : List Pg} {k : Nat} {p : Pg} (hk : l[k]? = some p) : tab (l.take (k + 1)) = (tab (l.take k)).set p.id.toNat p := by
  have : l.take (k + 1) = l.take k ++ [p] := by rw [List.take_add_one, hk]; rfl
  rw [tab, this, List.foldl_append]
  rfl
theorem tab_get_gen : ∀ (l T : List Pg) (n : Nat), n < T.length → Sorted l → (∀ p ∈ l, 0 ≤ p.id) → (l.foldl tabStep T)[n]? = match getM l n with
    | some q => some q
    | none => T[n]?
  | [], T, n, hn, _, _ => by simp [getM_nil]
  | p :: l, T, n, hn, hs, h0 => by
    have hs1 := List.pairwise_cons.1 hs
    have hp := h0 p (by simp)
    rw [List.foldl_cons, tab_get_gen l (tabStep T p) n (by simpa [tabStep] using hn) hs1.2 (fun q hq => h0 q (by simp [hq])), getM_cons]
    by_cases h : p.id = (n : Int)
    · rw [if_pos h, getM_none fun q hq => by have := hs1.1 q hq; omega]
      have : p.id.toNat = n := by omega
      simp only [tabStep, this]
      rw [List.getElem?_set_self hn]
    · rw [if_neg h]
      cases getM l n with
      | some q => rfl
      | none =>
        have : p.id.toNat ≠ n := by omega
        simp only [tabStep]
        rw [List.getElem?_set_ne this]
theorem tab_get {l : List Pg} (h : rightM l = true) {n : Nat} (hn : n < 17) : (tab l)[n]? = some ((getM l n).getD pg0) := by
  rw [tab, tab_get_gen l _ n (by simpa using hn) (sorted_of_right h) (fun p hp => by have := (rightP_iff.1 (mem_right h hp)).1; omega)]
  cases getM l n with
  | some q => rfl
  | none =>
    show (List.replicate 17 pg0)[n]? = some pg0
    rw [List.getElem?_replicate, if_pos hn]
theorem out_gen (f : Int → Pg) : ∀ (c lo : Nat) (m : List Pg), Sorted m → (∀ p ∈ m, (lo : Int) ≤ p.id ∧ p.id < lo + c ∧ p.id ≠ 0) → (∀ i, (lo : Int) ≤ i → f i = (getM m i).getD pg0) → ((List.range' lo c).map (fun n : Nat => f (n : Int))).filter nz = m
  | 0, lo, m, _, hm, _ => by
    cases m with
    | nil => rfl
    | cons p m => have := hm p (by simp); omega
  | c + 1, lo, m, hs, hm, hf => by
    rw [List.range'_succ, List.map_cons]
    by_cases h : ∃ p m', m = p :: m' ∧ p.id = (lo : Int)
    · obtain ⟨p, m', rfl, hp⟩ := h
      have hs1 := List.pairwise_cons.1 hs
      have h0 := (hm p (by simp)).2.2
      have e : f lo = p := by rw [hf lo (Int.le_refl _), getM_cons, if_pos hp]; rfl
      rw [e, List.filter_cons_of_pos (by simp [nz, h0])]
      rw [out_gen f c (lo + 1) m' hs1.2 (fun q hq => by have h1 := hm q (by simp [hq]); have h2 := hs1.1 q hq; refine ⟨by omega, by omega, h1.2.2⟩) (fun i hi => by rw [hf i (by omega), getM_cons, if_neg (by omega)])]
    · have hlt : ∀ q ∈ m, (lo : Int) < q.id := by
        intro q hq
        have h1 := hm q hq
        cases m with
        | nil => cases hq
        | cons p m' =>
          have hp : p.id ≠ (lo : Int) := fun e => h ⟨p, m', rfl, e⟩
          have hp1 := hm p (by simp)
          rcases List.mem_cons.1 hq with rfl | hq'
          · omega
          · have := (List.pairwise_cons.1 hs).1 q hq'; omega
      have e : f lo = pg0 := by rw [hf lo (Int.le_refl _), getM_none fun q hq => by have := hlt q hq; omega]; rfl
      rw [e, List.filter_cons_of_neg (by simp [nz, pg0])]
      exact out_gen f c (lo + 1) m hs (fun q hq => by have h1 := hm q hq; have h2 := hlt q hq; refine ⟨by omega, by omega, h1.2.2⟩) (fun i hi => hf i (by omega))
theorem out_eq {T m : List Pg} (hm : rightM m = true) (hl : T.length = 17) (hT : ∀ n : Nat, n < 17 → T[n]? = some ((getM m n).getD pg0)) : T.filter nz = m := by
  have e : T = (List.range' 0 17).map (fun n : Nat => ((getM m (n : Int)).getD pg0)) := by
    apply List.ext_getElem?
    intro n
    rcases Nat.lt_or_ge n 17 with h | h
    · rw [hT n h, List.getElem?_map, List.getElem?_range' h]
      simp
    · rw [List.getElem?_eq_none (by omega), List.getElem?_eq_none (by simpa using h)]
  rw [e]
  refine out_gen (fun i => (getM m i).getD pg0) 17 0 m (sorted_of_right hm) (fun p hp => ?_) (fun i _ => rfl)
  obtain ⟨h1, h2, _⟩ := rightP_iff.1 (mem_right hm hp)
  exact ⟨by omega, by omega, by omega⟩
/-- the table behind an operation gives the pages behind it -/
theorem out_do {l : List Pg} {o : Op} (h : rightM l = true) (ho : o.right = true) {p : Pg} (hp : p = ((stepF (getM l o.id) o).1).getD pg0) : ((tab l).set o.id.toNat p).filter nz = (doM l o).1 := by
  have hd := doM_did (o := o) h
  obtain ⟨_, _, o3, o4⟩ := opRight_iff.1 ho
  refine out_eq hd.right (by simp [tab_len]) fun n hn => ?_
  rw [hd.get]
  by_cases hi : (n : Int) = o.id
  · have : o.id.toNat = n := by omega
    rw [this, List.getElem?_set_self (by rw [tab_len]; exact hn), if_pos hi, hp]
  · have : o.id.toNat ≠ n := by omega
    rw [List.getElem?_set_ne this, tab_get h hn, if_neg hi]
theorem filter_take {T : List Pg} {k : Nat} {p : Pg} (hk : T[k]? = some p) : (T.take (k + 1)).filter nz = (T.take k).filter nz ++ (if p.id = 0 then [] else [p]) := by
  have : T.take (k + 1) = T.take k ++ [p] := by rw [List.take_add_one, hk]; rfl
  rw [this, List.filter_append]
  by_cases h : p.id = 0 <;> simp [nz, h]
end Go.Proofs.Ytbnegkkjgkignaa
