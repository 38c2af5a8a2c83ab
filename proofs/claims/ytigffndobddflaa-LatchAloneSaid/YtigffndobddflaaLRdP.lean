/- The plain words of LatchReaders: readers in a row, a writer behind them. -/
import Derived.Test.YtigffndobddflaaLGP
namespace Go.Proofs.Ytigffndobddflaa

/-- m numbers from a -/
def seg (a : Int) (m : Nat) : List Int := (List.range m).map fun (j : Nat) => a + (j : Int)
theorem seg_len (a : Int) (m : Nat) : (seg a m).length = m := by simp [seg]
theorem seg_snoc (a : Int) (m : Nat) : seg a (m + 1) = seg a m ++ [a + (m : Int)] := by simp [seg, List.range_succ]
theorem seg_cons (a : Int) (m : Nat) : seg a (m + 1) = a :: seg (a + 1) m := by
  simp only [seg, List.range_succ_eq_map, List.map_cons, List.map_map]
  refine congr (congrArg _ (by simp)) (List.map_congr_left fun j _ => ?_)
  simp only [Function.comp]
  omega
theorem seg_mem {a x : Int} {m : Nat} : x ∈ seg a m ↔ a ≤ x ∧ x < a + m := by
  simp only [seg, List.mem_map, List.mem_range]
  constructor
  · rintro ⟨j, h, rfl⟩; omega
  · rintro ⟨h1, h2⟩; exact ⟨(x - a).toNat, by omega, by omega⟩
/-- k readers that wait -/
def wts (k : Nat) : List Wt := (List.range k).map fun (j : Nat) => ⟨200 + (j : Int), false⟩
theorem wts_len (k : Nat) : (wts k).length = k := by simp [wts]
theorem wts_snoc (k : Nat) : wts (k + 1) = wts k ++ [⟨200 + (k : Int), false⟩] := by simp [wts, List.range_succ]
theorem wts_mem {t : Wt} {k : Nat} (h : t ∈ wts k) : t.ex = false ∧ 200 ≤ t.who ∧ t.who < 200 + k := by
  simp only [wts, List.mem_map, List.mem_range] at h
  obtain ⟨j, h, rfl⟩ := h
  exact ⟨rfl, by show (200 : Int) ≤ 200 + j; omega, by show (200 : Int) + j < 200 + k; omega⟩
theorem withL_last : ∀ {l : List Int} {who : Int}, (∀ x ∈ l, ¬ who < x) → withL l who = l ++ [who]
  | [], _, _ => rfl
  | a :: l, who, h => by
    rw [withL, if_neg (h a (List.mem_cons_self ..)), withL_last fun x hx => h x (List.mem_cons_of_mem _ hx)]
    rfl
theorem askM_put {l : La} (hr : l.right = true) {who : Int} (ex : Bool) (h1 : ¬ who < 0) (h2 : ¬ 2147483647 < who) (h3 : ∀ x ∈ l.hs, x ≠ who) (h4 : ∀ t ∈ l.q, t.who ≠ who) (h5 : l.hs.length + l.q.length < 64) :
    askM l who ex = ((enterL { l with q := l.q ++ [⟨who, ex⟩] }).1, (enterL { l with q := l.q ++ [⟨who, ex⟩] }).2, 0) := by
  rw [askM, if_neg (by rw [hr]; simp; omega), if_neg, if_neg (by omega)]
  rintro (h | h)
  · rw [List.contains_iff_mem] at h
    exact h3 _ h rfl
  · obtain ⟨t, ht, e⟩ := inW_iff.1 h
    exact h4 t ht e
theorem dropM_put {l : La} (hr : l.right = true) {who : Int} (h : who ∈ l.hs) : dropM l who = ((enterL (lessL l who)).1, (enterL (lessL l who)).2, 0) := by
  rw [dropM, if_neg (by rw [hr]; simp), if_neg]
  rintro ⟨h1, _⟩
  rw [List.contains_iff_mem.2 h] at h1
  cases h1
theorem goneH_none {l : List Int} {who : Int} (h : ∀ x ∈ l, x ≠ who) : goneH l who = l := by
  rw [goneH, List.filter_eq_self]
  intro x hx
  simp [h x hx]
theorem goneW_none {l : List Wt} {who : Int} (h : ∀ t ∈ l, t.who ≠ who) : goneW l who = l := by
  rw [goneW, List.filter_eq_self]
  intro x hx
  simp [h x hx]
theorem goneH_head {l : List Int} {who : Int} (h : ∀ x ∈ l, x ≠ who) : goneH (who :: l) who = l := by
  have : goneH (who :: l) who = goneH l who := by simp [goneH]
  rw [this, goneH_none h]
def rd1 (i : Nat) : La := ⟨seg 0 i, false, []⟩
def rd3 (a : Int) (m k : Nat) : La := ⟨seg a m, false, ⟨100, true⟩ :: wts k⟩
def rd4 (k : Nat) : La := ⟨[100], true, wts k⟩
theorem rd1_zero : (rd1 0).right = true := by kernel_rfl
theorem rd_ask1 {i : Nat} (hr : (rd1 i).right = true) (hi : i < 20) : askM (rd1 i) i false = (rd1 (i + 1), [(i : Int)], 0) := by
  rw [askM_put hr false (by omega) (by omega) (fun x hx => by have := ((seg_mem (a := 0) (m := i)).1 hx).2; omega) (fun t ht => by cases ht) (by rw [show (rd1 i).hs = seg 0 i from rfl, seg_len]; show i + 0 < 64; omega)]
  have h1 : letL (seg 0 i) false ([] ++ [⟨(i : Int), false⟩]) = (seg 0 (i + 1), false, [], [(i : Int)]) := by
    rw [List.nil_append, letL_cons (by simp [openW])]
    simp only [letL, Bool.or_false]
    rw [withL_last fun x hx => by have := (seg_mem.1 hx).2; omega, seg_snoc, Int.zero_add]
  simp only [enterL, rd1, h1]
theorem rd_ask2 {n : Nat} (hr : (rd1 n).right = true) (h1 : 1 ≤ n) (h2 : n ≤ 20) : askM (rd1 n) 100 true = (rd3 0 n 0, [], 0) := by
  rw [askM_put hr true (by omega) (by omega) (fun x hx => by have := ((seg_mem (a := 0) (m := n)).1 hx).2; omega) (fun t ht => by cases ht) (by rw [show (rd1 n).hs = seg 0 n from rfl, seg_len]; show n + 0 < 64; omega)]
  have h1 : letL (seg 0 n) false ([] ++ [⟨100, true⟩]) = (seg 0 n, false, [⟨100, true⟩], []) := by
    rw [List.nil_append, letL_shut]
    simp only [openW, seg_len]
    simp; omega
  simp only [enterL, rd1, rd3, h1]
  rfl
theorem rd_ask3 {n k : Nat} (hr : (rd3 0 n k).right = true) (h1 : 1 ≤ n) (h2 : n ≤ 20) (hk : k < 20) : askM (rd3 0 n k) (200 + (k : Int)) false = (rd3 0 n (k + 1), [], 0) := by
  rw [askM_put hr false (by omega) (by omega) (fun x hx => by have := ((seg_mem (a := 0) (m := n)).1 hx).2; omega) (fun t ht => by
    rcases List.mem_cons.1 ht with rfl | ht
    · show (100 : Int) ≠ _; omega
    · have := wts_mem ht; omega) (by rw [show (rd3 0 n k).hs = seg 0 n from rfl, seg_len, show (rd3 0 n k).q = ⟨100, true⟩ :: wts k from rfl, List.length_cons, wts_len]; omega)]
  have h3 : letL (seg 0 n) false ((⟨100, true⟩ :: wts k) ++ [⟨200 + (k : Int), false⟩]) = (seg 0 n, false, ⟨100, true⟩ :: wts (k + 1), []) := by
    rw [wts_snoc, List.cons_append, letL_shut]
    simp only [openW, seg_len]
    simp; omega
  simp only [enterL, rd3, h3]
theorem rd_drop1 {a : Int} {m k : Nat} (hr : (rd3 a (m + 2) k).right = true) (_h0 : 0 ≤ a) (h1 : a + m + 2 ≤ 20) : dropM (rd3 a (m + 2) k) a = (rd3 (a + 1) (m + 1) k, [], 0) := by
  rw [dropM_put hr (seg_mem.2 ⟨by omega, by omega⟩)]
  have h3 : lessL (rd3 a (m + 2) k) a = rd3 (a + 1) (m + 1) k := by
    have e1 : goneH (seg a (m + 2)) a = seg (a + 1) (m + 1) := by
      rw [seg_cons, goneH_head fun x hx => by have := (seg_mem.1 hx).1; omega]
    have e2 : goneW (⟨100, true⟩ :: wts k) a = ⟨100, true⟩ :: wts k := goneW_none fun t ht => by
      rcases List.mem_cons.1 ht with rfl | ht
      · show (100 : Int) ≠ _; omega
      · have := wts_mem ht; omega
    simp only [lessL, rd3, e1, e2, seg_len, if_neg (show ¬ m + 1 = 0 by omega)]
  rw [h3]
  have h4 : letL (seg (a + 1) (m + 1)) false (⟨100, true⟩ :: wts k) = (seg (a + 1) (m + 1), false, ⟨100, true⟩ :: wts k, []) := by
    rw [letL_shut]
    simp only [openW, seg_len]
    simp
  simp only [enterL, rd3, h4]
theorem rd_drop2 {a : Int} {k : Nat} (hr : (rd3 a 1 k).right = true) (_h0 : 0 ≤ a) (h1 : a < 20) : dropM (rd3 a 1 k) a = (rd4 k, [100], 0) := by
  rw [dropM_put hr (seg_mem.2 ⟨by omega, by omega⟩)]
  have h3 : lessL (rd3 a 1 k) a = ⟨[], false, ⟨100, true⟩ :: wts k⟩ := by
    have e1 : goneH (seg a 1) a = [] := by
      rw [seg_cons, goneH_head fun x hx => by have := (seg_mem.1 hx).1; omega]; rfl
    have e2 : goneW (⟨100, true⟩ :: wts k) a = ⟨100, true⟩ :: wts k := goneW_none fun t ht => by
      rcases List.mem_cons.1 ht with rfl | ht
      · show (100 : Int) ≠ _; omega
      · have := wts_mem ht; omega
    simp only [lessL, rd3, e1, e2, List.length_nil, if_pos]
  rw [h3]
  have h4 : letL [] false (⟨100, true⟩ :: wts k) = ([100], true, wts k, [100]) := by
    rw [letL_cons (by simp [openW])]
    have h5 : letL (withL [] 100) (false || true) (wts k) = ([100], true, wts k, []) := by
      rw [letL_shut]
      · rfl
      · cases wts k <;> simp [openW, withL]
    simp only [h5]
  simp only [enterL, rd4, h4]
theorem letL_all : ∀ (q : List Wt) (hs : List Int), (∀ t ∈ q, t.ex = false) → (letL hs false q).2.2.1 = []
  | [], _, _ => rfl
  | t :: q, hs, h => by
    have ht := h t (List.mem_cons_self ..)
    rw [letL_cons (by simp [openW, ht])]
    simp only [ht, Bool.or_false]
    exact letL_all q _ fun u hu => h u (List.mem_cons_of_mem _ hu)
theorem rd_drop3 {k : Nat} (hr : (rd4 k).right = true) : ∃ r came, dropM (rd4 k) 100 = (r, came, 0) ∧ came.length = k ∧ r.hs.length = k ∧ r.q.length = 0 := by
  refine ⟨_, _, dropM_put hr (List.mem_cons_self ..), ?_⟩
  have h3 : lessL (rd4 k) 100 = ⟨[], false, wts k⟩ := by
    have e1 : goneH [100] 100 = [] := by decide
    have e2 : goneW (wts k) 100 = wts k := goneW_none fun t ht => by have := wts_mem ht; omega
    simp only [lessL, rd4, e1, e2, List.length_nil, if_pos]
  rw [h3]
  have h4 := letL_all (wts k) [] fun t ht => (wts_mem ht).1
  have h5 := letL_len (wts k) [] false
  rw [h4, wts_len] at h5
  obtain ⟨h6, h7⟩ := h5
  rw [List.length_nil, Nat.add_zero] at h6
  rw [List.length_nil, List.length_nil, Nat.add_zero, Nat.zero_add] at h7
  refine ⟨h6, h7, ?_⟩
  show (letL [] false (wts k)).2.2.1.length = 0
  rw [h4]; rfl
end Go.Proofs.Ytigffndobddflaa
