/- append onto a row of the call's own, whatever the source: nil, empty, or a list that lies in memory. -/
import Derived.Test.YthiblfkmcdnalaaGreatMem
import Derived.RegionTactic
import Derived.Maps.AppendAt
namespace Go.Proofs.YthiblfkmcdnalaaGreat
set_option maxRecDepth 1000000
open Go.RowKit

section
variable {P : Program} {w : World}
theorem run_app_none {base : Nat} (t ty e : TypeId) (i : TypeInfo) {size : Nat} (ht : P.underlying t = some (.slice e)) (hi : P.info? e = some i)
    {v : Value} {n : Nat} {xs : List Value} (hown : w.ownsRow base e size v n xs) (c : Nat) : (Builtin.append_ #[t, t] ty #[v, .slice none 0 c]).run P w = .ok v w := by
  rcases hown.2 with ⟨rfl, rfl⟩ | ⟨g, cap, cur, rfl, _, _, hnc, _⟩
  · simp [Builtin.append_, run_underlying ht, sizeOf, typeInfo, hi, Builtin.lenOf, Builtin.firstCells]
  · simp [Builtin.append_, run_underlying ht, sizeOf, typeInfo, hi, Builtin.lenOf, Builtin.firstCells, hnc, storeCells]

theorem run_app {base : Nat} (t ty e : TypeId) (i : TypeInfo) (z : Value) {size bytes : Nat} (ht : P.underlying t = some (.slice e)) (hi : P.info? e = some i) (hz : i.zero = some z)
    (hsize : i.size = size) (hby : i.bytes = bytes) (hzs : z.cells.size = size) (hsz : 0 < size)
    {v : Value} {n : Nat} {xs : List Value} (hown : w.ownsRow base e size v n xs) {A : Option Addr} {m : Nat} (c : Nat) {news : List Value} (hl : news.length = m * size) (hA : A = none → m = 0)
    (hnews : ∀ ad, A = some ad → ∀ (j : Nat) (u : Value), news[j]? = some u → w.cell? (ad.add j) = some u) (h1 : ∀ u ∈ news, u.oneCell' = true)
    (h63 : n + m ≤ maxLen) (hbytes : (n + m) * bytes ≤ 140737488355328) (hbase : base ≤ w.heap.size) :
    ∃ v' w', (Builtin.append_ #[t, t] ty #[v, .slice A m c]).run P w = .ok v' w' ∧ w'.ownsRow base e size v' (n + m) (xs ++ news) ∧ w.grownBy w' v.ownBlock ∧ (v'.ownBlock = v.ownBlock ∨ v'.ownBlock = some w.heap.size) := by
  cases A with
  | none =>
    obtain rfl := hA rfl
    have hn : news = [] := List.eq_nil_of_length_eq_zero (by simpa using hl)
    subst hn
    exact ⟨v, w, run_app_none t ty e i ht hi hown c, by simpa using hown, ⟨rfl, rfl, rfl, Nat.le_refl _, fun _ _ _ => rfl⟩, .inl rfl⟩
  | some ad =>
    obtain ⟨v', w', h2, h3, h4, _, h5⟩ := run_append_own_at (P := P) w base t ty e i z size bytes ht hi hz hsize hby hzs hsz v n xs hown ad m c news hl (hnews ad rfl) h1 h63 hbytes hbase
    exact ⟨v', w', h2, h3, h4, h5⟩

theorem wp_app {o : Oper} {a : Act} {K : Act → World → Prop} {Q : Exit → Act → World → Prop} (s x : Operand) (t : TypeId)
    (ho : o.op = .call { callee := .builtin .append, args := #[s, x], argTypes := #[t, t] })
    (base : Nat) (e : TypeId) (i : TypeInfo) (z : Value) (size bytes : Nat) (ht : P.underlying t = some (.slice e)) (hi : P.info? e = some i) (hz : i.zero = some z)
    (hsize : i.size = size) (hby : i.bytes = bytes) (hzs : z.cells.size = size) (hsz : 0 < size)
    {v : Value} {n : Nat} {xs : List Value} (hs : a.eval s = v) (hown : w.ownsRow base e size v n xs)
    {A : Option Addr} {m c : Nat} {news : List Value} (hx : a.eval x = .slice A m c) (hl : news.length = m * size) (hA : A = none → m = 0)
    (hnews : ∀ ad, A = some ad → ∀ (j : Nat) (u : Value), news[j]? = some u → w.cell? (ad.add j) = some u) (h1 : ∀ u ∈ news, u.oneCell' = true)
    (h63 : n + m ≤ maxLen) (hbytes : (n + m) * bytes ≤ 140737488355328) (hbase : base ≤ w.heap.size)
    (h : ∀ v' w', w'.ownsRow base e size v' (n + m) (xs ++ news) → w.grownBy w' v.ownBlock → (v'.ownBlock = v.ownBlock ∨ v'.ownBlock = some w.heap.size) → K (a.put o.dst v') w') : o.wp P a w K Q := by
  obtain ⟨v', w', hrun, h2, h3, h4⟩ := run_app (P := P) (w := w) t o.type e i z ht hi hz hsize hby hzs hsz hown c hl hA hnews h1 h63 hbytes hbase
  unfold Oper.wp execOp
  simp only [ho, resolve, invoke, builtin, Sem.run_bind, Sem.run_pure, Result.andThen_ok, List.map_toArray, List.map_cons, List.map_nil, hs, hx, hrun]
  exact h v' w' h2 h3 h4

theorem list_app {ops : Array Oper} {rest : List Oper} {o : Oper} {a : Act} {Q : Exit → Act → World → Prop} (hgd : o.guard = none) (s x : Operand) (t : TypeId)
    (ho : o.op = .call { callee := .builtin .append, args := #[s, x], argTypes := #[t, t] })
    (base : Nat) (e : TypeId) (i : TypeInfo) (z : Value) (size bytes : Nat) (ht : P.underlying t = some (.slice e)) (hi : P.info? e = some i) (hz : i.zero = some z)
    (hsize : i.size = size) (hby : i.bytes = bytes) (hzs : z.cells.size = size) (hsz : 0 < size)
    {v : Value} {n : Nat} {xs : List Value} (hs : a.eval s = v) (hown : w.ownsRow base e size v n xs)
    {A : Option Addr} {m c : Nat} {news : List Value} (hx : a.eval x = .slice A m c) (hl : news.length = m * size) (hA : A = none → m = 0)
    (hnews : ∀ ad, A = some ad → ∀ (j : Nat) (u : Value), news[j]? = some u → w.cell? (ad.add j) = some u) (h1 : ∀ u ∈ news, u.oneCell' = true)
    (h63 : n + m ≤ maxLen) (hbytes : (n + m) * bytes ≤ 140737488355328) (hbase : base ≤ w.heap.size)
    (h : ∀ v' w', w'.ownsRow base e size v' (n + m) (xs ++ news) → w.grownBy w' v.ownBlock → (v'.ownBlock = v.ownBlock ∨ v'.ownBlock = some w.heap.size) → wpList P ops Q rest (a.put o.dst v') w') : wpList P ops Q (o :: rest) a w :=
  wpList_plain hgd fun _ hK => wp_app s x t ho base e i z size bytes ht hi hz hsize hby hzs hsz hs hown hx hl hA hnews h1 h63 hbytes hbase fun v' w' h2 h3 h4 => hK _ _ (h v' w' h2 h3 h4)

theorem step_app {ops : Array Oper} {o : Oper} {a : Act} {K : Act → World → Prop} {Q : Exit → Act → World → Prop} {E : Prop} (hgd : o.guard = none) (s x : Operand) (t : TypeId)
    (ho : o.op = .call { callee := .builtin .append, args := #[s, x], argTypes := #[t, t] })
    (base : Nat) (e : TypeId) (i : TypeInfo) (z : Value) (size bytes : Nat) (ht : P.underlying t = some (.slice e)) (hi : P.info? e = some i) (hz : i.zero = some z)
    (hsize : i.size = size) (hby : i.bytes = bytes) (hzs : z.cells.size = size) (hsz : 0 < size)
    {v : Value} {n : Nat} {xs : List Value} (hs : a.eval s = v) (hown : w.ownsRow base e size v n xs)
    {A : Option Addr} {m c : Nat} {news : List Value} (hx : a.eval x = .slice A m c) (hl : news.length = m * size) (hA : A = none → m = 0)
    (hnews : ∀ ad, A = some ad → ∀ (j : Nat) (u : Value), news[j]? = some u → w.cell? (ad.add j) = some u) (h1 : ∀ u ∈ news, u.oneCell' = true)
    (h63 : n + m ≤ maxLen) (hbytes : (n + m) * bytes ≤ 140737488355328) (hbase : base ≤ w.heap.size)
    (h : ∀ v' w', w'.ownsRow base e size v' (n + m) (xs ++ news) → w.grownBy w' v.ownBlock → (v'.ownBlock = v.ownBlock ∨ v'.ownBlock = some w.heap.size) → K (a.put o.dst v') w') :
    if Region.wanted o (yielded ops a.tmps) = true then Oper.wp P o a w K Q else E := by
  rw [if_pos (by simp [Region.wanted, hgd])]
  exact wp_app s x t ho base e i z size bytes ht hi hz hsize hby hzs hsz hs hown hx hl hA hnews h1 h63 hbytes hbase h
end
theorem apart_symm {v u : Value} (h : v.ownBlock = none ∨ v.ownBlock ≠ u.ownBlock) : u.ownBlock = none ∨ u.ownBlock ≠ v.ownBlock := by
  rcases hu : u.ownBlock with _ | g
  · exact .inl rfl
  · right
    rcases h with h | h
    · rw [h]; simp
    · rw [hu] at h; exact fun e => h e.symm
/-- 'T{}' of a slice: a row without cells -/
theorem own_made {w : World} {base : Nat} {e : TypeId} {size g : Nat} (hb : base ≤ w.heap.size) (hg : g = w.heap.size) : (w.alloc (.cells #[] e)).ownsRow base e size (.slice (some ⟨g, 0, none⟩) 0 0) 0 [] := by
  subst hg
  exact World.ownsRow_made w #[] 0 hb (by decide) (by simp)
/-- the cells of a new block as the source of an append -/
theorem new_src {w : World} {cs : Array Value} {t : TypeId} {g : Nat} (hg : g = w.heap.size) : ∀ ad, some (⟨g, 0, none⟩ : Addr) = some ad → ∀ (j : Nat) (u : Value), cs.toList[j]? = some u → (w.alloc (.cells cs t)).cell? (ad.add j) = some u := by
  intro ad e
  injection e with e
  subst e
  exact cells_new hg
/-- behind an append onto v, v' and another row u are still two blocks -/
theorem app_apart {w : World} {base : Nat} {e : TypeId} {sz : Nat} {v v' u : Value} {n : Nat} {xs : List Value} (ho : w.ownsRow base e sz u n xs) (ha : v.ownBlock = none ∨ v.ownBlock ≠ u.ownBlock) {N : Nat} (hN : w.heap.size ≤ N) (h : v'.ownBlock = v.ownBlock ∨ v'.ownBlock = some N) : v'.ownBlock = none ∨ v'.ownBlock ≠ u.ownBlock := by
  rcases h with h | h
  · rw [h]; exact ha
  · right
    rw [h]
    intro e
    have := (ho.lt N e.symm).2
    omega
section
variable {α : Type} {f : α → List Value} {sz : Nat} {w : World} {B : Nat} {A : Option Addr} {l : List α}
theorem Rd.none_len (h : Rd f sz w B A l) : A = none → l.length = 0 := by
  intro e
  cases l with
  | nil => rfl
  | cons x l => obtain ⟨b, off, h1, _⟩ := h (by simp); rw [e] at h1; cases h1
theorem Rd.srcs (h : Rd f sz w B A l) (hf : ∀ x, (f x).length = sz) : ∀ ad, A = some ad → ∀ (j : Nat) (u : Value), (l.flatMap f)[j]? = some u → w.cell? (ad.add j) = some u := by
  intro ad e
  subst e
  exact h.src hf
theorem Rd.drop_src {b off n : Nat} {A' : Option Addr} (h : Rd f sz w B (some ⟨b, off, none⟩) l) (hf : ∀ x, (f x).length = sz) (hA : l.drop n ≠ [] → A' = some ⟨b, off + n * sz, none⟩) :
    ∀ ad, A' = some ad → ∀ (j : Nat) (u : Value), ((l.drop n).flatMap f)[j]? = some u → w.cell? (ad.add j) = some u := by
  intro ad e j u hu
  obtain ⟨k, x, r, hx, hr, rfl⟩ := flat_split hf _ j u hu
  rw [hA (fun e => by rw [e] at hx; simp at hx)] at e
  injection e with e
  subst e
  rw [List.getElem?_drop] at hx
  obtain ⟨b', off', e, _, hc⟩ := h (fun e => by subst e; simp at hx)
  injection e with e
  injection e with e1 e2
  subst e1; subst e2
  rw [Addr.add_lit]
  have := hc (n + k) x hx r u hr
  rwa [show off + n * sz + (k * sz + r) = off + (n + k) * sz + r from by rw [Nat.add_mul]; omega]
theorem flat_len (hf : ∀ x, (f x).length = sz) (l : List α) : (l.flatMap f).length = l.length * sz := by
  induction l with
  | nil => simp
  | cons x l ih => simp [hf, ih, Nat.add_mul, Nat.add_comm]
theorem flat_one (hf : ∀ x, ∀ u ∈ f x, u.oneCell' = true) (l : List α) : ∀ u ∈ l.flatMap f, u.oneCell' = true := by
  intro u hu
  obtain ⟨x, _, hx⟩ := List.mem_flatMap.1 hu
  exact hf x u hx
end
end Go.Proofs.YthiblfkmcdnalaaGreat
