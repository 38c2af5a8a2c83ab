/- The plain words of LatchAlone: who holds, who waits, since when. -/
import Derived.Test.YtigffndobddflaaLRdP
namespace Go.Proofs.Ytigffndobddflaa

/-- what the law keeps beside a latch that lets nobody in, or lets some in now -/
structure Al (l : La) (si : Nat → Nat) (wr ho : Nat → Bool) (clk : Nat) : Prop where
  pre : PreL l
  hr : ∀ h ∈ l.hs, 0 ≤ h ∧ h ≤ 9
  qr : ∀ t ∈ l.q, 0 ≤ t.who ∧ t.who ≤ 9
  hold : ∀ k : Nat, k < 10 → ho k = decide ((k : Int) ∈ l.hs)
  si0 : ∀ k : Nat, k < 10 → (si k ≠ 0 ↔ ((k : Int) ∈ l.hs ∨ (k : Int) ∈ l.q.map Wt.who))
  sic : ∀ k : Nat, k < 10 → si k ≤ clk
  wh : ∀ k : Nat, k < 10 → (k : Int) ∈ l.hs → wr k = l.ex
  ww : ∀ t ∈ l.q, wr t.who.toNat = t.ex
  ord1 : ∀ h ∈ l.hs, ∀ t ∈ l.q, si h.toNat < si t.who.toNat
  ord2 : l.q.Pairwise fun a b => si a.who.toNat < si b.who.toNat
theorem Al.zero : Al ⟨[], false, []⟩ (fun _ => 0) (fun _ => false) (fun _ => false) 0 where
  pre := (la_pre.1 (show (La.mk [] false []).right = true by kernel_rfl)).1
  hr := by simp
  qr := by simp
  hold := by simp
  si0 := by simp
  sic := by simp
  wh := by simp
  ww := by simp
  ord1 := by simp
  ord2 := List.Pairwise.nil
section
variable {l : La} {si : Nat → Nat} {wr ho : Nat → Bool} {clk : Nat}
theorem Al.up (h : Al l si wr ho clk) {c : Nat} (hc : clk ≤ c) : Al l si wr ho c := { h with sic := fun k hk => Nat.le_trans (h.sic k hk) hc }
theorem Al.inn (h : Al l si wr ho clk) {k : Nat} (hk : k < 10) : (l.hs.contains (k : Int) = false ∧ inW l.q (k : Int) = false) ↔ si k = 0 := by
  have h1 := h.si0 k hk
  constructor
  · rintro ⟨h2, h3⟩
    have : ¬ si k ≠ 0 := fun e => by
      rcases h1.1 e with e | e
      · rw [List.contains_iff_mem.2 e] at h2; cases h2
      · obtain ⟨t, ht, e⟩ := List.mem_map.1 e
        rw [inW_iff.2 ⟨t, ht, e⟩] at h3; cases h3
    omega
  · intro e
    constructor
    · rw [← Bool.not_eq_true, List.contains_iff_mem]
      exact fun e2 => h1.2 (.inl e2) e
    · rw [← Bool.not_eq_true, inW_iff]
      rintro ⟨t, ht, e2⟩
      exact h1.2 (.inr (List.mem_map.2 ⟨t, ht, e2⟩)) e
/-- who asks and is in already; or is not: it waits behind all others -/
theorem Al.ask_in (h : Al l si wr ho clk) (hr : l.right = true) {k : Nat} (hk : k < 10) (ex : Bool) (hs : si k ≠ 0) : askM l (k : Int) ex = (l, [], 4) := by
  rw [askM, if_neg (by rw [hr]; simp; omega), if_pos]
  cases h1 : l.hs.contains (k : Int) with
  | true => exact .inl rfl
  | false =>
    cases h2 : inW l.q (k : Int) with
    | true => exact .inr rfl
    | false => exact absurd ((h.inn hk).1 ⟨h1, h2⟩) hs
theorem Al.small (h : Al l si wr ho clk) : l.hs.length + l.q.length ≤ 10 := by
  have hn := h.pre.nd
  have hsub : (l.hs ++ l.q.map Wt.who) ⊆ (List.range 10).map (fun (j : Nat) => (j : Int)) := by
    intro x hx
    rw [List.mem_map]
    have hx' : 0 ≤ x ∧ x ≤ 9 := by
      rcases List.mem_append.1 hx with hx | hx
      · exact h.hr x hx
      · obtain ⟨t, ht, rfl⟩ := List.mem_map.1 hx; exact h.qr t ht
    exact ⟨x.toNat, List.mem_range.2 (by omega), by omega⟩
  have hp := hn.length_le_of_subset hsub
  simpa using hp
theorem Al.ask_new (h : Al l si wr ho clk) (hr : l.right = true) {k : Nat} (hk : k < 10) (ex : Bool) (hs : si k = 0) :
    askM l (k : Int) ex = ((enterL { l with q := l.q ++ [⟨(k : Int), ex⟩] }).1, (enterL { l with q := l.q ++ [⟨(k : Int), ex⟩] }).2, 0) ∧
    Al { l with q := l.q ++ [⟨(k : Int), ex⟩] } (fun j => if j = k then clk + 1 else si j) (fun j => if j = k then ex else wr j) ho (clk + 1) := by
  obtain ⟨h1, h2⟩ := (h.inn hk).2 hs
  have hsm := h.small
  have nh : ∀ x ∈ l.hs, x ≠ (k : Int) := fun x hx e => by
    rw [e] at hx
    rw [List.contains_iff_mem.2 hx] at h1; cases h1
  have nq : ∀ t ∈ l.q, t.who ≠ (k : Int) := fun t ht e => by
    rw [inW_iff.2 ⟨t, ht, e⟩] at h2; cases h2
  have nh' : ∀ x ∈ l.hs, x.toNat ≠ k := fun x hx e => nh x hx (by have := h.hr x hx; omega)
  have nq' : ∀ t ∈ l.q, t.who.toNat ≠ k := fun t ht e => nq t ht (by have := h.qr t ht; omega)
  refine ⟨askM_put hr ex (by omega) (by omega) nh nq (by omega), ⟨ask_pre h.pre ex (by omega) (by omega) h1 h2 (by omega), h.hr, ?_, h.hold, ?_, ?_, ?_, ?_, ?_, ?_⟩⟩
  · intro t ht
    rcases List.mem_append.1 ht with ht | ht
    · exact h.qr t ht
    · simp only [List.mem_singleton] at ht; subst ht; simp only; omega
  · intro j hj
    have := h.si0 j hj
    simp only [List.map_append, List.map_cons, List.map_nil, List.mem_append, List.mem_singleton]
    by_cases hjk : j = k
    · subst hjk; simp
    · rw [if_neg hjk, this]
      constructor
      · rintro (h | h)
        · exact .inl h
        · exact .inr (.inl h)
      · rintro (h | h | h)
        · exact .inl h
        · exact .inr h
        · exact absurd (by omega) hjk
  · intro j hj
    have := h.sic j hj
    by_cases hjk : j = k
    · rw [if_pos hjk]; omega
    · rw [if_neg hjk]; omega
  · intro j hj hjh
    have : j ≠ k := fun e => nh _ hjh (by rw [e])
    rw [if_neg this]
    exact h.wh j hj hjh
  · intro t ht
    rcases List.mem_append.1 ht with ht | ht
    · rw [if_neg (nq' t ht)]; exact h.ww t ht
    · simp only [List.mem_singleton] at ht; subst ht; simp
  · intro x hx t ht
    rw [if_neg (nh' x hx)]
    rcases List.mem_append.1 ht with ht | ht
    · rw [if_neg (nq' t ht)]; exact h.ord1 x hx t ht
    · simp only [List.mem_singleton] at ht; subst ht
      have := h.sic x.toNat (by have := h.hr x hx; omega)
      simp; omega
  · refine List.pairwise_append.2 ⟨h.ord2.imp_of_mem fun ha hb hab => ?_, List.pairwise_singleton _ _, fun t ht u hu => ?_⟩
    · rw [if_neg (nq' _ ha), if_neg (nq' _ hb)]; exact hab
    · simp only [List.mem_singleton] at hu; subst hu
      rw [if_neg (nq' t ht)]
      have := h.sic t.who.toNat (by have := h.qr t ht; omega)
      simp; omega
theorem Al.drop_out (h : Al l si wr ho clk) (hr : l.right = true) {k : Nat} (hk : k < 10) (hs : si k = 0) : dropM l (k : Int) = (l, [], 3) := by
  rw [dropM, if_neg (by rw [hr]; simp), if_pos ((h.inn hk).2 hs)]
theorem goneH_mem {x who : Int} {hs : List Int} : x ∈ goneH hs who ↔ x ∈ hs ∧ x ≠ who := by simp [goneH]
theorem goneW_mem {t : Wt} {who : Int} {q : List Wt} : t ∈ goneW q who ↔ t ∈ q ∧ t.who ≠ who := by simp [goneW]
theorem Al.drop_in (h : Al l si wr ho clk) (hr : l.right = true) {k : Nat} (hk : k < 10) (hs : si k ≠ 0) :
    dropM l (k : Int) = ((enterL (lessL l (k : Int))).1, (enterL (lessL l (k : Int))).2, 0) ∧
    Al (lessL l (k : Int)) (fun j => if j = k then 0 else si j) wr (fun j => if j = k then false else ho j) clk := by
  refine ⟨?_, ⟨drop_pre h.pre _, fun x hx => h.hr x (goneH_mem.1 hx).1, fun t ht => h.qr t (goneW_mem.1 ht).1, ?_, ?_, ?_, ?_, fun t ht => h.ww t (goneW_mem.1 ht).1, ?_, ?_⟩⟩
  · rw [dropM, if_neg (by rw [hr]; simp), if_neg (fun e => hs ((h.inn hk).1 e))]
  · intro j hj
    by_cases hjk : j = k
    · subst hjk; simp [lessL, goneH_mem]
    · rw [if_neg hjk, h.hold j hj]
      have : (j : Int) ≠ (k : Int) := by omega
      simp [lessL, goneH_mem, this]
  · intro j hj
    by_cases hjk : j = k
    · subst hjk
      simp [lessL, goneH_mem, goneW_mem]
    · rw [if_neg hjk, h.si0 j hj]
      have hne : (j : Int) ≠ (k : Int) := by omega
      simp only [lessL, goneH_mem, List.mem_map, goneW_mem]
      constructor
      · rintro (h | ⟨t, ht, e⟩)
        · exact .inl ⟨h, hne⟩
        · exact .inr ⟨t, ⟨ht, by rw [e]; exact hne⟩, e⟩
      · rintro (h | ⟨t, ht, e⟩)
        · exact .inl h.1
        · exact .inr ⟨t, ht.1, e⟩
  · intro j hj
    have := h.sic j hj
    by_cases hjk : j = k
    · rw [if_pos hjk]; omega
    · rw [if_neg hjk]; exact this
  · intro j hj hjh
    have hjh' : (j : Int) ∈ goneH l.hs (k : Int) := hjh
    have hne : ¬ (goneH l.hs (k : Int)).length = 0 := fun e => by rw [List.eq_nil_of_length_eq_zero e] at hjh'; cases hjh'
    show wr j = (lessL l (k : Int)).ex
    rw [lessL, if_neg hne]
    exact h.wh j hj (goneH_mem.1 hjh').1
  · intro x hx t ht
    have hx' := goneH_mem.1 hx; have ht' := goneW_mem.1 ht
    rw [if_neg (by have := h.hr x hx'.1; have := hx'.2; omega), if_neg (by have := h.qr t ht'.1; have := ht'.2; omega)]
    exact h.ord1 x hx'.1 t ht'.1
  · refine (List.Pairwise.sublist (goneW_sub l.q (k : Int)) h.ord2).imp_of_mem fun ha hb hab => ?_
    have ha' := goneW_mem.1 ha; have hb' := goneW_mem.1 hb
    rw [if_neg (by have := h.qr _ ha'.1; have := ha'.2; omega), if_neg (by have := h.qr _ hb'.1; have := hb'.2; omega)]
    exact hab
end
end Go.Proofs.Ytigffndobddflaa
