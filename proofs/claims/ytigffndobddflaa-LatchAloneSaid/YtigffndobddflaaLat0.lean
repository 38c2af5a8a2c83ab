/- The plain words of a latch: who holds it, who waits, what is right. No program in sight. -/
import Derived.Test.YtigffndobddflaaInts
namespace Go.Proofs.Ytigffndobddflaa

structure Wt where
  who : Int
  ex : Bool
  deriving DecidableEq
structure La where
  hs : List Int
  ex : Bool
  q : List Wt
  deriving DecidableEq

/-- may the first one be let in? -/
def openW (hs : List Int) (ex : Bool) : List Wt → Bool
  | [] => false
  | t :: _ => decide (hs.length = 0) || (!ex && !t.ex)
def La.open (l : La) : Bool := openW l.hs l.ex l.q
def inW (q : List Wt) (who : Int) : Bool := q.any (fun t => decide (t.who = who))
theorem inW_iff {q : List Wt} {who : Int} : inW q who = true ↔ ∃ t ∈ q, t.who = who := by simp [inW]
def findW (l : List Wt) (who : Int) : Option Nat := l.findIdx? (fun t => decide (t.who = who))
/-- the holder ahead of place k; -1 ahead of the first -/
def lastH : List Int → Nat → Int
  | _, 0 => -1
  | hs, k + 1 => match hs[k]? with
    | some n => n
    | none => -1
theorem lastH_snoc {hs : List Int} {k : Nat} {n : Int} (h : hs[k]? = some n) : lastH hs (k + 1) = n := by simp [lastH, h]
/-- is the holder at that place right? -/
def okH (hs : List Int) (k : Nat) : Bool := match hs[k]? with
  | some n => decide (lastH hs k < n) && decide (n ≤ 2147483647)
  | none => false
theorem okH_of {hs : List Int} {k : Nat} {n : Int} (h : hs[k]? = some n) : okH hs k = (decide (lastH hs k < n) && decide (n ≤ 2147483647)) := by simp [okH, h]
/-- is the wait at that place right? -/
def okW (l : La) (k : Nat) : Bool := match l.q[k]? with
  | some t => decide (0 ≤ t.who) && decide (t.who ≤ 2147483647) && !l.hs.contains t.who && !inW (l.q.take k) t.who
  | none => false
theorem okW_of {l : La} {k : Nat} {t : Wt} (h : l.q[k]? = some t) : okW l k = (decide (0 ≤ t.who) && decide (t.who ≤ 2147483647) && !l.hs.contains t.who && !inW (l.q.take k) t.who) := by simp [okW, h]
def La.head (l : La) : Bool := decide (l.hs.length + l.q.length ≤ 64) && (!l.ex || decide (l.hs.length = 1))
def La.right (l : La) : Bool := l.head && (List.range l.hs.length).all (okH l.hs) && (List.range l.q.length).all (okW l) && !l.open
section
variable {l : La}
theorem la_head (h : l.head = false) : l.right = false := by simp [La.right, h]
theorem la_hs {k : Nat} (hk : k < l.hs.length) (h : okH l.hs k = false) : l.right = false := by
  have : (List.range l.hs.length).all (okH l.hs) = false := by
    rw [List.all_eq_false]
    exact ⟨k, List.mem_range.2 hk, by rw [h]; simp⟩
  simp [La.right, this]
theorem la_q {k : Nat} (hk : k < l.q.length) (h : okW l k = false) : l.right = false := by
  have : (List.range l.q.length).all (okW l) = false := by
    rw [List.all_eq_false]
    exact ⟨k, List.mem_range.2 hk, by rw [h]; simp⟩
  simp [La.right, this]
theorem la_end (h1 : l.head = true) (h2 : ∀ j, j < l.hs.length → okH l.hs j = true) (h3 : ∀ j, j < l.q.length → okW l j = true) : l.right = !l.open := by
  have e1 : (List.range l.hs.length).all (okH l.hs) = true := List.all_eq_true.2 fun k hk => h2 k (List.mem_range.1 hk)
  have e2 : (List.range l.q.length).all (okW l) = true := List.all_eq_true.2 fun k hk => h3 k (List.mem_range.1 hk)
  simp [La.right, h1, e1, e2]
theorem la_iff : l.right = true ↔ l.head = true ∧ (∀ j, j < l.hs.length → okH l.hs j = true) ∧ (∀ j, j < l.q.length → okW l j = true) ∧ l.open = false := by
  simp only [La.right, Bool.and_eq_true, List.all_eq_true, List.mem_range, Bool.not_eq_true', and_assoc]
theorem la_head_iff : l.head = true ↔ l.hs.length + l.q.length ≤ 64 ∧ (l.ex = true → l.hs.length = 1) := by
  simp only [La.head, Bool.and_eq_true, decide_eq_true_eq, Bool.or_eq_true, Bool.not_eq_true']
  constructor
  · rintro ⟨h1, h2⟩
    exact ⟨h1, fun h => by rcases h2 with h2 | h2; rw [h2] at h; cases h; exact h2⟩
  · rintro ⟨h1, h2⟩
    refine ⟨h1, ?_⟩
    cases hx : l.ex with
    | false => exact .inl rfl
    | true => exact .inr (h2 hx)
end

/-- one more, rising -/
def withL : List Int → Int → List Int
  | [], who => [who]
  | a :: l, who => if who < a then who :: a :: l else a :: withL l who
theorem withL_len : ∀ (l : List Int) (who : Int), (withL l who).length = l.length + 1
  | [], _ => rfl
  | a :: l, who => by
    rw [withL]
    split
    · simp
    · simp [withL_len l who]
theorem withL_mem : ∀ (l : List Int) (who x : Int), x ∈ withL l who ↔ x = who ∨ x ∈ l
  | [], who, x => by simp [withL]
  | a :: l, who, x => by
    rw [withL]
    split
    · simp
    · simp only [List.mem_cons, withL_mem l who x]; rw [or_left_comm]
def Rising (l : List Int) : Prop := l.Pairwise (· ≤ ·)
theorem withL_rising {l : List Int} (h : Rising l) (who : Int) : Rising (withL l who) := by
  induction l with
  | nil => simp [withL, Rising]
  | cons a l ih =>
    have ⟨h1, h2⟩ := List.pairwise_cons.1 h
    rw [withL]
    split
    · rename_i hw
      refine List.pairwise_cons.2 ⟨fun x hx => ?_, h⟩
      rcases List.mem_cons.1 hx with rfl | hx
      · omega
      · have := h1 x hx; omega
    · rename_i hw
      refine List.pairwise_cons.2 ⟨fun x hx => ?_, ih h2⟩
      rcases (withL_mem l who x).1 hx with rfl | hx
      · omega
      · exact h1 x hx
/-- how many of a rising list are less -/
def lessN (l : List Int) (who : Int) : Nat := (l.takeWhile (fun a => decide (a < who))).length
theorem lessN_le (l : List Int) (who : Int) : lessN l who ≤ l.length := (List.takeWhile_sublist _).length_le
theorem withL_at {l : List Int} (h : Rising l) (who : Int) : l.take (lessN l who) ++ who :: l.drop (lessN l who) = withL l who := by
  induction l with
  | nil => rfl
  | cons a l ih =>
    have ⟨h1, h2⟩ := List.pairwise_cons.1 h
    by_cases ha : a < who
    · rw [lessN, List.takeWhile_cons_of_pos (by simpa using ha), withL, if_neg (by omega), ← ih h2]
      rfl
    · rw [lessN, List.takeWhile_cons_of_neg (by simpa using ha), withL]
      split
      · rfl
      · obtain rfl : a = who := by omega
        have : withL l a = a :: l := by
          clear ih h
          induction l with
          | nil => rfl
          | cons b l ih2 =>
            rw [withL]
            split
            · rfl
            · have hb := h1 b (List.mem_cons_self ..)
              obtain rfl : a = b := by omega
              rw [ih2 (fun x hx => h1 x (List.mem_cons_of_mem _ hx)) (List.pairwise_cons.1 h2).2]
        rw [this]; rfl
/-- the places of a rising list part at lessN -/
theorem lessN_lt {l : List Int} {who : Int} {k : Nat} {n : Int} (hk : k < lessN l who) (hn : l[k]? = some n) : n < who := by
  induction l generalizing k with
  | nil => simp at hn
  | cons a l ih =>
    rw [lessN] at hk
    by_cases ha : a < who
    · rw [List.takeWhile_cons_of_pos (by simpa using ha), List.length_cons] at hk
      cases k with
      | zero => simp at hn; omega
      | succ k => exact ih (k := k) (by rw [lessN]; omega) (by simpa using hn)
    · rw [List.takeWhile_cons_of_neg (by simpa using ha)] at hk
      simp at hk
theorem lessN_ge {l : List Int} (h : Rising l) {who : Int} {k : Nat} {n : Int} (hk : lessN l who ≤ k) (hn : l[k]? = some n) : who ≤ n := by
  induction l generalizing k with
  | nil => simp at hn
  | cons a l ih =>
    have ⟨h1, h2⟩ := List.pairwise_cons.1 h
    rw [lessN] at hk
    by_cases ha : a < who
    · rw [List.takeWhile_cons_of_pos (by simpa using ha), List.length_cons] at hk
      cases k with
      | zero => omega
      | succ k => exact ih h2 (k := k) (by rw [lessN]; omega) (by simpa using hn)
    · cases k with
      | zero => simp at hn; omega
      | succ k =>
        have := h1 n (List.mem_of_getElem? (by simpa using hn))
        omega

/-- the first ones in -/
def letL : List Int → Bool → List Wt → List Int × Bool × List Wt × List Int
  | hs, ex, [] => (hs, ex, [], [])
  | hs, ex, t :: q => if openW hs ex (t :: q) = true then
      ((letL (withL hs t.who) (ex || t.ex) q).1, (letL (withL hs t.who) (ex || t.ex) q).2.1, (letL (withL hs t.who) (ex || t.ex) q).2.2.1, t.who :: (letL (withL hs t.who) (ex || t.ex) q).2.2.2)
    else (hs, ex, t :: q, [])
def enterL (l : La) : La × List Int := (⟨(letL l.hs l.ex l.q).1, (letL l.hs l.ex l.q).2.1, (letL l.hs l.ex l.q).2.2.1⟩, (letL l.hs l.ex l.q).2.2.2)
theorem letL_cons {hs : List Int} {ex : Bool} {t : Wt} {q : List Wt} (h : true = openW hs ex (t :: q)) : letL hs ex (t :: q) = ((letL (withL hs t.who) (ex || t.ex) q).1, (letL (withL hs t.who) (ex || t.ex) q).2.1, (letL (withL hs t.who) (ex || t.ex) q).2.2.1, t.who :: (letL (withL hs t.who) (ex || t.ex) q).2.2.2) := by
  rw [letL, if_pos h.symm]
theorem letL_shut {hs : List Int} {ex : Bool} {q : List Wt} (h : false = openW hs ex q) : letL hs ex q = (hs, ex, q, []) := by
  cases q with
  | nil => rfl
  | cons t q => rw [letL, if_neg (by rw [← h]; simp)]
theorem letL_run {hs : List Int} {ex : Bool} {t : Wt} {q : List Wt} {ins : List Int} {r : List Int × Bool × List Wt × List Int} (hr : r = ((letL hs ex (t :: q)).1, (letL hs ex (t :: q)).2.1, (letL hs ex (t :: q)).2.2.1, ins ++ (letL hs ex (t :: q)).2.2.2)) (h : true = openW hs ex (t :: q)) :
    r = ((letL (withL hs t.who) (ex || t.ex) q).1, (letL (withL hs t.who) (ex || t.ex) q).2.1, (letL (withL hs t.who) (ex || t.ex) q).2.2.1, (ins ++ [t.who]) ++ (letL (withL hs t.who) (ex || t.ex) q).2.2.2) := by
  rw [hr, letL_cons h]
  simp
theorem letL_len : ∀ (q : List Wt) (hs : List Int) (ex : Bool), (letL hs ex q).2.2.2.length + (letL hs ex q).2.2.1.length = q.length ∧ (letL hs ex q).1.length + (letL hs ex q).2.2.1.length = hs.length + q.length
  | [], hs, ex => by simp [letL]
  | t :: q, hs, ex => by
    cases ho : openW hs ex (t :: q) with
    | true =>
      have := letL_len q (withL hs t.who) (ex || t.ex)
      rw [letL_cons ho.symm]
      rw [withL_len] at this
      simp only [List.length_cons]
      omega
    | false =>
      rw [letL_shut ho.symm]
      simp
def askM (l : La) (who : Int) (ex : Bool) : La × List Int × Int :=
  if l.right = false ∨ who < 0 ∨ 2147483647 < who then (l, [], 1) else if l.hs.contains who = true ∨ inW l.q who = true then (l, [], 4) else
  if 64 ≤ l.hs.length + l.q.length then (l, [], 7) else ((enterL { l with q := l.q ++ [⟨who, ex⟩] }).1, (enterL { l with q := l.q ++ [⟨who, ex⟩] }).2, 0)
def goneH (l : List Int) (who : Int) : List Int := l.filter (fun n => !decide (n = who))
def goneW (l : List Wt) (who : Int) : List Wt := l.filter (fun t => !decide (t.who = who))
/-- without somebody; nobody: not alone -/
def lessL (l : La) (who : Int) : La := ⟨goneH l.hs who, if (goneH l.hs who).length = 0 then false else l.ex, goneW l.q who⟩
def dropM (l : La) (who : Int) : La × List Int × Int :=
  if l.right = false then (l, [], 1) else if l.hs.contains who = false ∧ inW l.q who = false then (l, [], 3) else
  ((enterL (lessL l who)).1, (enterL (lessL l who)).2, 0)
def holdsM (l : La) (who : Int) : Bool := l.right && l.hs.contains who
end Go.Proofs.Ytigffndobddflaa
