/- The plain words of LatchWriters: writers in the order in which they asked. -/
import Derived.Test.YtigffndobddflaaLRdP
namespace Go.Proofs.Ytigffndobddflaa

/-- the first one in, the others wait -/
def wr1 : List Int → La
  | [] => ⟨[], false, []⟩
  | h :: t => ⟨[h], true, t.map fun x => ⟨x, true⟩⟩
theorem wr1_len (o : List Int) : (wr1 o).hs.length + (wr1 o).q.length = o.length := by
  cases o <;> simp [wr1]; omega
theorem wr1_in {o : List Int} {x : Int} (h : x ∈ o) : (wr1 o).hs.contains x = true ∨ inW (wr1 o).q x = true := by
  cases o with
  | nil => cases h
  | cons a t =>
    rcases List.mem_cons.1 h with rfl | h
    · exact .inl (by simp [wr1])
    · exact .inr (inW_iff.2 ⟨⟨x, true⟩, List.mem_map.2 ⟨x, h, rfl⟩, rfl⟩)
theorem wr_ask_in {o : List Int} {x : Int} (hr : (wr1 o).right = true) (h0 : 0 ≤ x) (h1 : x ≤ 255) (h : x ∈ o) : askM (wr1 o) x true = (wr1 o, [], 4) := by
  rw [askM, if_neg (by rw [hr]; simp; omega), if_pos (wr1_in h)]
theorem wr_ask_new {o : List Int} {x : Int} (hr : (wr1 o).right = true) (h0 : 0 ≤ x) (h1 : x ≤ 255) (h : x ∉ o) (hl : o.length < 20) : askM (wr1 o) x true = (wr1 (o ++ [x]), if o.length = 0 then [x] else [], 0) := by
  have hlen := wr1_len o
  cases o with
  | nil =>
    rw [askM_put hr true (by omega) (by omega) (fun y hy => by cases hy) (fun t ht => by cases ht) (by omega)]
    have h3 : letL [] false ([] ++ [⟨x, true⟩]) = ([x], true, [], [x]) := by
      rw [List.nil_append, letL_cons (by simp [openW])]
      simp [letL, withL]
    rw [List.nil_append] at h3
    simp only [enterL, wr1, h3, List.length_nil, if_pos, List.nil_append, List.map_nil]
  | cons a t =>
    rw [askM_put hr true (by omega) (by omega) (fun y hy => by
      simp only [wr1, List.mem_singleton] at hy
      subst hy
      exact fun e => h (e ▸ List.mem_cons_self ..)) (fun u hu => by
      simp only [wr1, List.mem_map] at hu
      obtain ⟨y, hy, rfl⟩ := hu
      exact fun e => h (by simp only at e; exact e ▸ List.mem_cons_of_mem _ hy)) (by omega)]
    have h3 : letL [a] true ((t.map fun x => (⟨x, true⟩ : Wt)) ++ [⟨x, true⟩]) = ([a], true, (t ++ [x]).map fun x => (⟨x, true⟩ : Wt), []) := by
      rw [letL_shut]
      · simp
      · cases t <;> simp [openW]
    simp only [enterL, wr1, h3, List.cons_append, List.length_cons, if_neg (show ¬ t.length + 1 = 0 by omega)]
theorem wr_holds {x : Int} {t : List Int} (hr : (wr1 (x :: t)).right = true) : holdsM (wr1 (x :: t)) x = true := by
  rw [holdsM, hr]; simp [wr1]
/-- who comes in behind the first one -/
def nextW : List Int → List Int
  | [] => []
  | x :: _ => [x]
theorem wr_drop {x : Int} {t : List Int} (hr : (wr1 (x :: t)).right = true) (hn : x ∉ t) : dropM (wr1 (x :: t)) x = (wr1 t, nextW t, 0) := by
  rw [dropM_put hr (List.mem_cons_self ..)]
  have h3 : lessL (wr1 (x :: t)) x = ⟨[], false, t.map fun x => ⟨x, true⟩⟩ := by
    have e1 : goneH [x] x = [] := by simp [goneH]
    have e2 : goneW (t.map fun x => (⟨x, true⟩ : Wt)) x = t.map fun x => ⟨x, true⟩ := goneW_none fun u hu => by
      obtain ⟨y, hy, rfl⟩ := List.mem_map.1 hu
      exact fun e => hn (by simp only at e; exact e ▸ hy)
    simp only [lessL, wr1, e1, e2, List.length_nil, if_pos]
  rw [h3]
  cases t with
  | nil => rfl
  | cons y t =>
    have h4 : letL [] false ((y :: t).map fun x => (⟨x, true⟩ : Wt)) = ([y], true, t.map fun x => (⟨x, true⟩ : Wt), [y]) := by
      rw [List.map_cons, letL_cons (by simp [openW])]
      have h5 : letL (withL [] y) (false || true) (t.map fun x => (⟨x, true⟩ : Wt)) = ([y], true, t.map fun x => (⟨x, true⟩ : Wt), []) := by
        rw [letL_shut]
        · rfl
        · cases t <;> simp [openW, withL]
      simp only [h5]
    simp only [enterL, wr1, nextW, h4]
/-- whom the list lets ask first -/
def uniq : List Int → List Int := fun l => l.foldl (fun o x => if x ∈ o then o else o ++ [x]) []
end Go.Proofs.Ytigffndobddflaa
