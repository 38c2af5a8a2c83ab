/- The plain law of BankFilled. -/
import Derived.Test.YtlhnmgjoalifpaaBankLaw
namespace Go.Proofs.Ytlhnmgjoalifpaa

/-- clients with these claims, numbered from i on; each holds what h says of its claim -/
def fill (h : Int → Int) : Nat → List Int → List C
  | _, [] => []
  | i, c :: r => ⟨i, c % 101, h (c % 101)⟩ :: fill h (i + 1) r
theorem fill_append {h : Int → Int} : ∀ (a b : List Int) (i : Nat), fill h i (a ++ b) = fill h i a ++ fill h (i + a.length) b
  | [], b, i => rfl
  | c :: a, b, i => by simp [fill, fill_append a b (i + 1), Nat.add_assoc, Nat.add_comm 1]
theorem fill_len {h : Int → Int} : ∀ (a : List Int) (i : Nat), (fill h i a).length = a.length
  | [], _ => rfl
  | c :: a, i => by simp [fill, fill_len a]
theorem fill_snoc {h : Int → Int} {cs : List Int} {j : Nat} {c : Int} (hc : cs[j]? = some c) : fill h 0 (cs.take (j + 1)) = fill h 0 (cs.take j) ++ [⟨j, c % 101, h (c % 101)⟩] := by
  have hj : j < cs.length := (List.getElem?_eq_some_iff.1 hc).1
  rw [List.take_add_one, hc, fill_append]
  simp [fill, Nat.min_eq_left (Nat.le_of_lt hj)]
theorem fill_mem {h : Int → Int} : ∀ {a : List Int} {i : Nat} {x : C}, x ∈ fill h i a → ∃ j c, a[j]? = some c ∧ x = ⟨((i + j : Nat) : Int), c % 101, h (c % 101)⟩
  | [], _, _, hx => by simp [fill] at hx
  | c :: a, i, x, hx => by
    rcases List.mem_cons.1 hx with rfl | hx
    · exact ⟨0, c, rfl, rfl⟩
    · obtain ⟨j, d, hd, rfl⟩ := fill_mem hx
      exact ⟨j + 1, d, hd, by rw [show i + (j + 1) = i + 1 + j from by omega]⟩
theorem fill_nodup {h : Int → Int} : ∀ (a : List Int) (i : Nat), ((fill h i a).map C.who).Nodup
  | [], _ => by simp [fill]
  | c :: a, i => by
    simp only [fill, List.map_cons, List.nodup_cons]
    refine ⟨fun hm => ?_, fill_nodup a (i + 1)⟩
    obtain ⟨x, hx, he⟩ := List.mem_map.1 hm
    obtain ⟨j, d, _, rfl⟩ := fill_mem hx
    simp only at he
    omega
theorem fill_right {h : Int → Int} {a : List Int} (ha : a.length ≤ 8) (hh : ∀ c, 0 ≤ c → 0 ≤ h c ∧ h c ≤ c) : rightB (fill h 0 a) = true := by
  rw [rightB_perm_iff]
  refine ⟨by rw [fill_len]; exact ha, fun x hx => ?_, fill_nodup a 0⟩
  obtain ⟨j, c, hc, rfl⟩ := fill_mem hx
  have hj : j < a.length := (List.getElem?_eq_some_iff.1 hc).1
  have h1 := Int.emod_nonneg c (show (101 : Int) ≠ 0 by decide)
  have h2 := Int.emod_lt_of_pos c (show (0 : Int) < 101 by decide)
  have := hh (c % 101) h1
  rw [okC_iff]
  simp only
  omega
/-- the greatest claim -/
def topL (a : List Int) : Int := a.foldl (fun t c => max t (c % 101)) 0
theorem topL_snoc {cs : List Int} {j : Nat} {c : Int} (hc : cs[j]? = some c) : topL (cs.take (j + 1)) = max (topL (cs.take j)) (c % 101) := by
  rw [List.take_add_one, hc, topL, List.foldl_append]; rfl
theorem topL_foldl : ∀ (a : List Int) (t : Int), t ≤ a.foldl (fun t c => max t (c % 101)) t ∧ (∀ c ∈ a, c % 101 ≤ a.foldl (fun t c => max t (c % 101)) t) ∧ (a.foldl (fun t c => max t (c % 101)) t = t ∨ ∃ c ∈ a, a.foldl (fun t c => max t (c % 101)) t = c % 101)
  | [], t => by simp
  | c :: a, t => by
    obtain ⟨h1, h2, h3⟩ := topL_foldl a (max t (c % 101))
    simp only [List.foldl_cons]
    refine ⟨by omega, fun d hd => ?_, ?_⟩
    · rcases List.mem_cons.1 hd with rfl | hd
      · omega
      · exact h2 d hd
    · rcases h3 with h3 | ⟨d, hd, h3⟩
      · rcases Int.le_total t (c % 101) with h4 | h4
        · right; exact ⟨c, List.mem_cons_self .., by rw [h3]; omega⟩
        · left; rw [h3]; omega
      · right; exact ⟨d, List.mem_cons_of_mem _ hd, h3⟩
theorem topL_bd (a : List Int) : 0 ≤ topL a ∧ topL a ≤ 100 := by
  obtain ⟨h1, _, h3⟩ := topL_foldl a 0
  refine ⟨h1, ?_⟩
  rcases h3 with h3 | ⟨c, _, h3⟩
  · unfold topL; omega
  · have := Int.emod_lt_of_pos c (show (0 : Int) < 101 by decide)
    unfold topL; omega
theorem fill_all_safe {a : List Int} (ha : a.length ≤ 8) : safeB 0 (fill (fun c => c) 0 a) = true := by
  have hr := fill_right (h := fun c => c) ha (fun c hc => by omega)
  rw [safeB_iff hr (by omega) (by omega)]
  refine Can.all (held_of hr) fun x hx => ?_
  obtain ⟨j, c, hc, rfl⟩ := fill_mem hx
  simp
theorem fill_none_safe {a : List Int} (ha : a.length ≤ 8) : safeB (topL a) (fill (fun _ => 0) 0 a) = true := by
  have hr := fill_right (h := fun _ => 0) ha (fun c hc => by omega)
  have hb := topL_bd a
  rw [safeB_iff hr hb.1 (by omega)]
  refine Can.all (held_of hr) fun x hx => ?_
  obtain ⟨j, c, hc, rfl⟩ := fill_mem hx
  simpa [topL] using (topL_foldl a 0).2.1 c (List.mem_of_getElem? hc)
theorem fill_none_not {a : List Int} (ha : a.length ≤ 8) (h0 : topL a ≠ 0) : safeB (topL a - 1) (fill (fun _ => 0) 0 a) = false := by
  have hr := fill_right (h := fun _ => 0) ha (fun c hc => by omega)
  have hb := topL_bd a
  cases hs : safeB (topL a - 1) (fill (fun _ => 0) 0 a)
  · rfl
  · rw [safeB_iff hr (by omega) (by omega)] at hs
    have hz := hs.zero (fun x hx => by obtain ⟨j, c, hc, rfl⟩ := fill_mem hx; rfl)
    rcases (topL_foldl a 0).2.2 with h3 | ⟨c, hc, h3⟩
    · exact absurd h3 h0
    · exfalso
      obtain ⟨j, hj⟩ := List.mem_iff_getElem?.1 hc
      have hjl : j < a.length := (List.getElem?_eq_some_iff.1 hj).1
      have hmem : (⟨(j : Int), c % 101, 0⟩ : C) ∈ fill (fun _ => 0) 0 a := by
        have e := fill_snoc (h := fun _ => 0) hj
        have e2 : fill (fun _ => 0) 0 a = fill (fun _ => 0) 0 (a.take (j + 1)) ++ fill (fun _ => 0) (0 + (a.take (j + 1)).length) (a.drop (j + 1)) := by rw [← fill_append, List.take_append_drop]
        rw [e2, e]
        simp
      have := hz _ hmem
      simp only at this
      have h4 : topL a = c % 101 := h3
      omega
end Go.Proofs.Ytlhnmgjoalifpaa
