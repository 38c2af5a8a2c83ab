/- A row of the call's own seen whole: append that stays in place, clear; and how splices are read. -/
import Derived.Test.YthiblfkmcdnalaaGreatCopy
import Derived.Lib.AppendZerosOnto
import Derived.Lib.Overlaps
namespace Go.Proofs.YthiblfkmcdnalaaGreat
set_option maxRecDepth 1000000
open Go.RowKit

section
variable {P : Program} {w : World}
theorem own_row {base : Nat} {e : TypeId} {sz g n c : Nat} {xs : List Value} (h : w.ownsRow base e sz (.slice (some ⟨g, 0, none⟩) n c) n xs) :
    ∃ cur : List Value, w.heap[g]? = some (.cells cur.toArray e (0, 0)) ∧ cur.length = c * sz ∧ cur.take (n * sz) = xs ∧ base ≤ g ∧ n ≤ c ∧ c ≤ 9223372036854775807 := by
  rcases h.2 with ⟨hv, _⟩ | ⟨g', cap, cur, hv, hb, hh, h1, h2, h3, h4⟩
  · simp at hv
  · injection hv with e1 e2 e3
    injection e1 with e1
    injection e1 with e1
    subst e1; subst e3
    exact ⟨cur.toList, by simpa using hh, by simpa using h3, h4, hb, h1, by unfold maxLen at h2; exact h2⟩
theorem row_own {base : Nat} {e : TypeId} {sz g n c : Nat} {xs cur : List Value} (hb : base ≤ g) (hg : w.heap[g]? = some (.cells cur.toArray e (0, 0))) (h1 : n ≤ c) (h2 : c ≤ 9223372036854775807) (h3 : cur.length = c * sz) (h4 : cur.take (n * sz) = xs) (h5 : xs.length = n * sz) :
    w.ownsRow base e sz (.slice (some ⟨g, 0, none⟩) n c) n xs :=
  ⟨h5, .inr ⟨g, c, cur.toArray, rfl, hb, hg, h1, by unfold maxLen; exact h2, by simpa using h3, by simpa using h4⟩⟩

/-- append into the room of a row: in place -/
theorem run_put (t ty e : TypeId) (i : TypeInfo) {size : Nat} (ht : P.underlying t = some (.slice e)) (hi : P.info? e = some i) (hsize : i.size = size)
    {g n cap m sc : Nat} {sp : Option Addr} {cur : List Value} (hg : w.heap[g]? = some (.cells cur.toArray e (0, 0))) {cs : List Value} (hn : cs.length = m * size)
    (hpos : 0 < cs.length → ∃ ad, sp = some ad ∧ ∀ (j : Nat) (v : Value), cs[j]? = some v → w.cell? (ad.add j) = some v)
    (hroom : n + m ≤ cap) (hfit : n * size + cs.length ≤ cur.length) (h1 : ∀ v ∈ cs, v.oneCell' = true) :
    ∃ w', (Builtin.append_ #[t, t] ty #[.slice (some ⟨g, 0, none⟩) n cap, .slice sp m sc]).run P w = .ok (.slice (some ⟨g, 0, none⟩) (n + m) cap) w' ∧ w'.heap[g]? = some (.cells (splice cur (n * size) cs).toArray e (0, 0)) ∧ w.grownBy w' (some g) := by
  subst hsize
  have hadd : (⟨g, 0, none⟩ : Addr).add (n * i.size) = ⟨g, n * i.size, none⟩ := by rw [Addr.add_lit, Nat.zero_add]
  cases hc : cs with
  | nil =>
    have hm : m * i.size = 0 := by rw [← hn, hc]; rfl
    refine ⟨w, ?_, by simpa [splice] using hg, ⟨rfl, rfl, rfl, Nat.le_refl _, fun _ _ _ => rfl⟩⟩
    cases sp <;> simp [Builtin.append_, run_underlying ht, sizeOf, typeInfo, hi, Builtin.lenOf, Builtin.firstCells, hroom, hm, loadCells, loadCellsFrom, storeCells]
  | cons v0 vs =>
    rw [← hc]
    have hl : 0 < cs.length := by rw [hc]; simp
    obtain ⟨ad, rfl, hsrc⟩ := hpos hl
    have hf := run_firstCells_some (P := P) w i.size m ad m sc cs hn hsrc
    have hst := run_storeCells_at P g (n * i.size) e cs 0 cur.toArray w hg (by simpa using hfit) h1
    simp only [Nat.add_zero] at hst
    refine ⟨w.setRow g (cur.toArray.toList.take (n * i.size) ++ cs ++ cur.toArray.toList.drop (n * i.size + cs.length)).toArray, ?_, ?_, ?_⟩
    · simp [Builtin.append_, run_underlying ht, sizeOf, typeInfo, hi, Builtin.lenOf, hroom, hf, hadd, hst]
    · rw [setRow_heap w g _ _ e _ hg]; simp [splice]
    · exact ⟨rfl, rfl, rfl, by simp, fun k _ hk => setRow_other w g k _ (fun e => hk (by simp [e]))⟩

theorem step_put {ops : Array Oper} {o : Oper} {a : Act} {K : Act → World → Prop} {Q : Exit → Act → World → Prop} {E : Prop} (hgd : o.guard = none) (s x : Operand) (t : TypeId)
    (ho : o.op = .call { callee := .builtin .append, args := #[s, x], argTypes := #[t, t] }) (e : TypeId) (i : TypeInfo) (size : Nat) (ht : P.underlying t = some (.slice e)) (hi : P.info? e = some i) (hsize : i.size = size)
    {g n cap m sc : Nat} {sp : Option Addr} {cur : List Value} (hs : a.eval s = .slice (some ⟨g, 0, none⟩) n cap) (hx : a.eval x = .slice sp m sc) (hg : w.heap[g]? = some (.cells cur.toArray e (0, 0))) {cs : List Value} (hn : cs.length = m * size)
    (hpos : 0 < cs.length → ∃ ad, sp = some ad ∧ ∀ (j : Nat) (v : Value), cs[j]? = some v → w.cell? (ad.add j) = some v)
    (hroom : n + m ≤ cap) (hfit : n * size + cs.length ≤ cur.length) (h1 : ∀ v ∈ cs, v.oneCell' = true)
    (h : ∀ w', w'.heap[g]? = some (.cells (splice cur (n * size) cs).toArray e (0, 0)) → w.grownBy w' (some g) → K (a.put o.dst (.slice (some ⟨g, 0, none⟩) (n + m) cap)) w') :
    if Region.wanted o (yielded ops a.tmps) = true then Oper.wp P o a w K Q else E := by
  rw [if_pos (by simp [Region.wanted, hgd])]
  obtain ⟨w', hrun, h2, h3⟩ := run_put (P := P) (w := w) (sc := sc) t o.type e i ht hi hsize hg hn hpos hroom hfit h1
  unfold Oper.wp
  simp [execOp, ho, resolve, invoke, builtin, hs, hx, hrun, Result.andThen]
  exact h w' h2 h3

/-- clear of a part of a row -/
theorem list_clr {ops : Array Oper} {rest : List Oper} {o : Oper} {a : Act} {Q : Exit → Act → World → Prop} (hgd : o.guard = none) (s : Operand) (t : TypeId)
    (ho : o.op = .call { callee := .builtin .clear, args := #[s], argTypes := #[t] }) (e : TypeId) (i : TypeInfo) (z : Value) (size : Nat) (ht : P.underlying t = some (.slice e)) (hi : P.info? e = some i) (hz : i.zero = some z) (hzs : z.cells.size = size) (hz1 : ∀ v ∈ z.cells, v.oneCell' = true) (hsz : 0 < size)
    {g off n c : Nat} {dp : Option Addr} {cur : List Value} (hs : a.eval s = .slice dp n c) (hg : w.heap[g]? = some (.cells cur.toArray e (0, 0))) (hpos : 0 < n → dp = some ⟨g, off, none⟩) (hfit : off + n * size ≤ cur.length)
    (h : ∀ w' zs, zs.length = n * size → w'.heap[g]? = some (.cells (splice cur off zs).toArray e (0, 0)) → w.grownBy w' (some g) → wpList P ops Q rest (a.put o.dst (.tuple #[])) w') : wpList P ops Q (o :: rest) a w := by
  refine wpList_plain hgd fun K hK => ?_
  by_cases h0 : n = 0
  · subst h0
    have hrun : (Builtin.clear_ #[t] o.type #[.slice dp 0 c]).run P w = .ok (.tuple #[]) w := by
      cases dp <;> simp [Builtin.clear_, run_underlying ht]
    unfold Oper.wp
    simp [execOp, ho, resolve, invoke, builtin, hs, hrun, Result.andThen]
    exact hK _ _ (h w [] (by simp) (by simpa [splice] using hg) ⟨rfl, rfl, rfl, Nat.le_refl _, fun _ _ _ => rfl⟩)
  · obtain rfl := hpos (by omega)
    obtain ⟨zs, hzq⟩ : ∃ zs, zs = (Builtin.zeroCells z.cells n).toList := ⟨_, rfl⟩
    have hzl : zs.length = n * size := by rw [hzq]; simp [Builtin.zeroCells, hzs]
    have h1 : ∀ v ∈ zs, v.oneCell' = true := by
      intro v hv
      rw [hzq] at hv
      simp only [Builtin.zeroCells, Array.toList_map, List.mem_map] at hv
      obtain ⟨k, _, rfl⟩ := hv
      have hk : k % z.cells.size < z.cells.size := Nat.mod_lt _ (by omega)
      rw [getElem!_pos z.cells _ hk]
      exact hz1 _ (Array.getElem_mem hk)
    have hst := run_storeCells_at P g off e zs 0 cur.toArray w hg (by simp; omega) h1
    simp only [Nat.add_zero] at hst
    have hrun : (Builtin.clear_ #[t] o.type #[.slice (some ⟨g, off, none⟩) n c]).run P w = .ok (.tuple #[]) (w.setRow g (cur.toArray.toList.take off ++ zs ++ cur.toArray.toList.drop (off + zs.length)).toArray) := by
      obtain ⟨m, rfl⟩ : ∃ m, n = m + 1 := ⟨n - 1, by omega⟩
      rw [hzq] at hst ⊢
      simp [Builtin.clear_, run_underlying ht, zeroValue, typeInfo, hi, hz] at hst ⊢
      simp [hst]
    unfold Oper.wp
    simp [execOp, ho, resolve, invoke, builtin, hs, hrun, Result.andThen]
    refine hK _ _ (h _ zs hzl ?_ ?_)
    · have := setRow_heap w g _ (cur.toArray.toList.take off ++ zs ++ cur.toArray.toList.drop (off + zs.length)).toArray e _ hg
      simpa [splice] using this
    · exact ⟨rfl, rfl, rfl, by simp, fun k _ hk => setRow_other w g k _ (fun e => hk (by simp [e]))⟩
end
/-- what of a row lies ahead of a splice -/
theorem take_splice {α : Type} (L : List α) (off : Nat) (cs : List α) (h : off + cs.length ≤ L.length) : (splice L off cs).take (off + cs.length) = L.take off ++ cs := by
  unfold splice
  rw [← List.append_assoc]
  have : (L.take off ++ cs).length = off + cs.length := by simp; omega
  rw [← this, List.take_left']
  rfl
theorem take_splice_le {α : Type} (L : List α) (off k : Nat) (cs : List α) (h : k ≤ off) (h2 : off ≤ L.length) : (splice L off cs).take k = L.take k := by
  unfold splice
  rw [List.take_append_of_le_length (by simp; omega), List.take_take]
  congr 1
  omega
theorem splice_at {α : Type} (L : List α) (off : Nat) (cs : List α) (h : off ≤ L.length) (j : Nat) (hj : j < cs.length) : (splice L off cs)[off + j]? = cs[j]? := by
  unfold splice
  rw [List.getElem?_append_right (by simp; omega), List.length_take]
  rw [show off + j - min off L.length = j from by omega, List.getElem?_append_left hj]
/-- what is shifted first, and what comes in then -/
theorem ins_shift {α : Type} (L D X : List α) (a b : Nat) (hb : b = a + X.length) (h : b + D.length ≤ L.length) : (splice (splice L b D) a X).take (b + D.length) = L.take a ++ (X ++ D) := by
  have h1 : (splice L b D).take a = L.take a := take_splice_le L b a D (by omega) (by omega)
  have h2 : (splice L b D).drop (a + X.length) = D ++ L.drop (b + D.length) := by
    unfold splice
    rw [← hb, List.drop_left' (by simp; omega)]
  rw [splice, h1, h2]
  have e : L.take a ++ (X ++ (D ++ L.drop (b + D.length))) = (L.take a ++ (X ++ D)) ++ L.drop (b + D.length) := by simp
  rw [e, List.take_left' (by simp; omega)]
theorem ins_fresh {α : Type} (L D X : List α) (a b : Nat) (hb : b = a + X.length) (h : b + D.length ≤ L.length) : (splice (splice L a X) b D).take (b + D.length) = L.take a ++ (X ++ D) := by
  rw [take_splice _ _ _ (by rw [length_splice _ _ _ (by omega)]; omega), hb, take_splice _ _ _ (by omega), List.append_assoc]
section
variable {α : Type} {f : α → List Value} {sz : Nat}
theorem flat_take (hf : ∀ x, (f x).length = sz) : ∀ (l : List α) (i : Nat), (l.flatMap f).take (i * sz) = (l.take i).flatMap f
  | [], i => by simp
  | x :: l, 0 => by simp
  | x :: l, i + 1 => by
    rw [List.flatMap_cons, List.take_succ_cons, List.flatMap_cons, ← flat_take hf l i]
    rw [show (i + 1) * sz = (f x).length + i * sz from by rw [hf, Nat.succ_mul]; omega, List.take_length_add_append]
theorem flat_drop (hf : ∀ x, (f x).length = sz) : ∀ (l : List α) (i : Nat), (l.flatMap f).drop (i * sz) = (l.drop i).flatMap f
  | [], i => by simp
  | x :: l, 0 => by simp
  | x :: l, i + 1 => by
    rw [List.flatMap_cons, List.drop_succ_cons, ← flat_drop hf l i]
    rw [show (i + 1) * sz = (f x).length + i * sz from by rw [hf, Nat.succ_mul]; omega, List.drop_length_add_append]
end
end Go.Proofs.YthiblfkmcdnalaaGreat
