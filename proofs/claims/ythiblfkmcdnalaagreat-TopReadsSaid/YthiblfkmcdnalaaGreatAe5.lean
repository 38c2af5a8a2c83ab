/- The abstract evaluator, part 0: abstract cells and values, abstract blocks, and what it means that they stand for a world. -/
/- The abstract evaluator, part 1: memory operations, each with its proof: what it answers the model does. -/
/- The abstract evaluator, part 2: building of structs and slices, addresses, parts, slices of slices. -/
/- The abstract evaluator, part 3: slices of slices, append, make, clear, and operations on values alone. -/
/- The abstract evaluator, part 4: append, make, clear. -/
/- The abstract evaluator, part 5: one operation. -/
import Derived.Test.YthiblfkmcdnalaaGreatRow
import Derived.Orders
import Derived.Deep.AppendSrc
import Derived.Deep.Upon
namespace Go.Proofs.YthiblfkmcdnalaaGreat.Ae
open Go.RowKit

/-- two lists stand for each other, element by element -/
structure All2 {α β : Type} (R : α → β → Prop) (xs : List α) (ys : List β) : Prop where
  len : xs.length = ys.length
  at_ : ∀ (i : Nat) (x : α) (y : β), xs[i]? = some x → ys[i]? = some y → R x y
section
variable {α β γ : Type} {R R' : α → β → Prop} {xs xs' : List α} {ys ys' : List β}
theorem All2.nil : All2 R ([] : List α) ([] : List β) := ⟨rfl, fun i x y h => by simp at h⟩
theorem All2.mono (h : All2 R xs ys) (hR : ∀ x y, R x y → R' x y) : All2 R' xs ys := ⟨h.len, fun i x y h1 h2 => hR _ _ (h.at_ i x y h1 h2)⟩
theorem All2.get (h : All2 R xs ys) {i : Nat} {x : α} (hx : xs[i]? = some x) : ∃ y, ys[i]? = some y ∧ R x y := by
  have hi := (List.getElem?_eq_some_iff.1 hx).1
  have hy : ys[i]? = some (ys[i]'(by rw [← h.len]; exact hi)) := List.getElem?_eq_getElem _
  exact ⟨_, hy, h.at_ i _ _ hx hy⟩
theorem All2.cons {x : α} {y : β} (hx : R x y) (h : All2 R xs ys) : All2 R (x :: xs) (y :: ys) := ⟨by simp [h.len], fun i a b h1 h2 => by
  cases i with
  | zero => simp at h1 h2; subst h1; subst h2; exact hx
  | succ i => simp at h1 h2; exact h.at_ i _ _ h1 h2⟩
theorem All2.cons_inv {x : α} {ys : List β} (h : All2 R (x :: xs) ys) : ∃ y r, ys = y :: r ∧ R x y ∧ All2 R xs r := by
  cases ys with
  | nil => have := h.len; simp at this
  | cons y r => exact ⟨y, r, rfl, h.at_ 0 _ _ rfl rfl, by have := h.len; simpa using this, fun i a b h1 h2 => h.at_ (i + 1) a b (by simpa using h1) (by simpa using h2)⟩
theorem All2.nil_inv {ys : List β} (h : All2 R ([] : List α) ys) : ys = [] := List.eq_nil_of_length_eq_zero (by rw [← h.len]; rfl)
theorem All2.append (h : All2 R xs ys) (h' : All2 R xs' ys') : All2 R (xs ++ xs') (ys ++ ys') := ⟨by simp [h.len, h'.len], fun i x y h1 h2 => by
  rw [List.getElem?_append] at h1 h2
  rw [h.len] at h1
  split at h1
  · rename_i hi; rw [if_pos hi] at h2; exact h.at_ i x y h1 h2
  · rename_i hi; rw [if_neg hi] at h2; exact h'.at_ _ x y h1 h2⟩
theorem All2.take (h : All2 R xs ys) (n : Nat) : All2 R (xs.take n) (ys.take n) := ⟨by simp [h.len], fun i x y h1 h2 => by
  rw [List.getElem?_take] at h1 h2
  split at h1
  · rename_i hi; rw [if_pos hi] at h2; exact h.at_ i x y h1 h2
  · cases h1⟩
theorem All2.drop (h : All2 R xs ys) (n : Nat) : All2 R (xs.drop n) (ys.drop n) := ⟨by simp [h.len], fun i x y h1 h2 => by
  rw [List.getElem?_drop] at h1 h2
  exact h.at_ _ x y h1 h2⟩
theorem All2.set (h : All2 R xs ys) (n : Nat) {x : α} {y : β} (hx : R x y) : All2 R (xs.set n x) (ys.set n y) := ⟨by simp [h.len], fun i a b h1 h2 => by
  rw [List.getElem?_set] at h1 h2
  by_cases hn : n = i
  · subst hn
    have hl := h.len
    simp only [if_true] at h1 h2
    rw [hl] at h1
    split at h1
    · rename_i hi; rw [if_pos hi] at h2; injection h1 with h1; injection h2 with h2; subst h1; subst h2; exact hx
    · cases h1
  · simp only [hn, if_false] at h1 h2; exact h.at_ _ _ _ h1 h2⟩
theorem All2.map_left {f : γ → α} {zs : List γ} (h : All2 (fun z y => R (f z) y) zs ys) : All2 R (zs.map f) ys := ⟨by simp [h.len], fun i x y h1 h2 => by
  rw [List.getElem?_map] at h1
  cases hz : zs[i]? with
  | none => rw [hz] at h1; cases h1
  | some z => rw [hz] at h1; injection h1 with h1; subst h1; exact h.at_ i z y hz h2⟩
theorem All2.of_eq {f : α → β} (hf : ∀ x ∈ xs, R x (f x)) : All2 R xs (xs.map f) := ⟨by simp, fun i x y h1 h2 => by
  rw [List.getElem?_map, h1] at h2
  injection h2 with h2; subst h2
  exact hf x (List.mem_of_getElem? h1)⟩
theorem All2.mem (h : All2 R xs ys) {y : β} (hy : y ∈ ys) : ∃ x ∈ xs, R x y := by
  obtain ⟨i, hi⟩ := List.getElem?_of_mem hy
  have h1 := (List.getElem?_eq_some_iff.1 hi).1
  have hx : xs[i]? = some (xs[i]'(by rw [h.len]; exact h1)) := List.getElem?_eq_getElem _
  exact ⟨_, List.mem_of_getElem? hx, h.at_ i _ _ hx hi⟩
end

/-- where abstract blocks lie: the number of the block, and how many elements it has room for -/
abbrev Mp := Nat → Option (Nat × Nat)
/-- one cell: known to the value; a pointer; a slice; a slice of a row whose capacity is not known; a function that captures pointers; a slice without elements, wherever it lies -/
inductive LV where
  | c (v : Value)
  | p (b off : Nat)
  | s (b off len cap : Nat)
  | u (b off len d : Nat)
  | f (fn : Fn) (caps : List (Nat × Nat))
  | z
inductive EV where
  | l (x : LV)
  | g (xs : List LV)
inductive AV where
  | e (x : EV)
  | t (xs : List EV)
structure Blk where
  id : Nat
  cs : List LV
  ty : TypeId
  sz : Nat
abbrev Hp := List Blk

noncomputable def ptrRel (φ : Mp) (x : Nat × Nat) (v : Value) : Prop := ∃ g κ, φ x.1 = some (g, κ) ∧ v = .pointer (some ⟨g, x.2, none⟩)
noncomputable def LV.rel (φ : Mp) : LV → Value → Prop
  | .c x, v => v = x
  | .p b off, v => ptrRel φ (b, off) v
  | .s b off len cap, v => ∃ g κ, φ b = some (g, κ) ∧ v = .slice (some ⟨g, off, none⟩) len cap
  | .u b off len d, v => ∃ g κ, φ b = some (g, κ) ∧ len + d ≤ κ ∧ v = .slice (some ⟨g, off, none⟩) len (κ - d)
  | .f fn caps, v => ∃ vs, All2 (ptrRel φ) caps vs ∧ v = .func fn #[] vs.toArray
  | .z, v => ∃ a cap, v = .slice (some a) 0 cap
noncomputable def EV.rel (φ : Mp) : EV → Value → Prop
  | .l x, v => x.rel φ v
  | .g xs, v => ∃ vs, All2 (LV.rel φ) xs vs ∧ v = .agg vs.toArray
noncomputable def AV.rel (φ : Mp) : AV → Value → Prop
  | .e x, v => x.rel φ v
  | .t xs, v => ∃ vs, All2 (EV.rel φ) xs vs ∧ v = .tuple vs.toArray
noncomputable def Sub (φ φ' : Mp) : Prop := ∀ i p, φ i = some p → φ' i = some p
theorem ptrRel.mono {φ φ' : Mp} (h : Sub φ φ') {x : Nat × Nat} {v : Value} : ptrRel φ x v → ptrRel φ' x v := fun ⟨g, κ, h1, h2⟩ => ⟨g, κ, h _ _ h1, h2⟩
theorem LV.rel_mono {φ φ' : Mp} (h : Sub φ φ') {x : LV} {v : Value} (hx : x.rel φ v) : x.rel φ' v := by
  cases x with
  | c y => exact hx
  | p b off => exact ptrRel.mono h hx
  | s b off len cap => obtain ⟨g, κ, h1, h2⟩ := hx; exact ⟨g, κ, h _ _ h1, h2⟩
  | u b off len d => obtain ⟨g, κ, h1, h2⟩ := hx; exact ⟨g, κ, h _ _ h1, h2⟩
  | f fn caps => obtain ⟨vs, h1, h2⟩ := hx; exact ⟨vs, h1.mono fun _ _ => ptrRel.mono h, h2⟩
  | z => exact hx
theorem EV.rel_mono {φ φ' : Mp} (h : Sub φ φ') {x : EV} {v : Value} (hx : x.rel φ v) : x.rel φ' v := by
  cases x with
  | l y => exact LV.rel_mono h hx
  | g xs => obtain ⟨vs, h1, h2⟩ := hx; exact ⟨vs, h1.mono fun _ _ => LV.rel_mono h, h2⟩
theorem AV.rel_mono {φ φ' : Mp} (h : Sub φ φ') {x : AV} {v : Value} (hx : x.rel φ v) : x.rel φ' v := by
  cases x with
  | e y => exact EV.rel_mono h hx
  | t xs => obtain ⟨vs, h1, h2⟩ := hx; exact ⟨vs, h1.mono fun _ _ => EV.rel_mono h, h2⟩

/-- an abstract block stands for a block of the world -/
noncomputable def BlkAt (φ : Mp) (w : World) (b : Blk) : Prop := ∃ g κ arr, φ b.id = some (g, κ) ∧ w.heap[g]? = some (.cells arr b.ty (0, 0)) ∧
  All2 (LV.rel φ) b.cs (arr.toList.take b.cs.length) ∧ (b.sz = 0 → arr.size = b.cs.length) ∧ (b.sz ≠ 0 → arr.size = κ * b.sz ∧ κ ≤ maxLen)
theorem BlkAt.mono {φ φ' : Mp} {w w' : World} {b : Blk} (h : Sub φ φ') (hb : BlkAt φ w b) (hw : ∀ g κ, φ b.id = some (g, κ) → w'.heap[g]? = w.heap[g]?) : BlkAt φ' w' b := by
  obtain ⟨g, κ, arr, h1, h2, h3, h4, h5⟩ := hb
  exact ⟨g, κ, arr, h _ _ h1, (hw g κ h1).trans h2, h3.mono fun _ _ => LV.rel_mono h, h4, h5⟩
theorem BlkAt.lt {φ : Mp} {w : World} {b : Blk} (h : BlkAt φ w b) {g κ : Nat} (hg : φ b.id = some (g, κ)) : g < w.heap.size := by
  obtain ⟨g', κ', arr, h1, h2, _⟩ := h
  rw [hg] at h1
  injection h1 with h1
  injection h1 with h1 _
  subst h1
  exact (Array.getElem?_eq_some_iff.1 h2).1
/-- the abstract blocks stand for blocks of the world -/
structure R (φ : Mp) (hp : Hp) (nx : Nat) (w : World) : Prop where
  blk : ∀ b ∈ hp, BlkAt φ w b
  lo : ∀ b ∈ hp, b.id < nx
  inj : ∀ b ∈ hp, ∀ b' ∈ hp, ∀ g κ κ', φ b.id = some (g, κ) → φ b'.id = some (g, κ') → b.id = b'.id
/-- what may be written: the blocks from lo on -/
noncomputable def Wr (lo : Nat) (φ : Mp) (hp : Hp) (g : Nat) : Prop := ∃ b ∈ hp, lo ≤ b.id ∧ ∃ κ, φ b.id = some (g, κ)
structure Fr (lo : Nat) (φ : Mp) (hp : Hp) (w : World) (φ' : Mp) (hp' : Hp) (w' : World) : Prop where
  os : w'.os = w.os
  tape : w'.tape = w.tape
  output : w'.output = w.output
  size : w.heap.size ≤ w'.heap.size
  blk : ∀ g, g < w.heap.size → ¬ Wr lo φ hp g → w'.heap[g]? = w.heap[g]?
  wr : ∀ g, Wr lo φ' hp' g → w.heap.size ≤ g ∨ Wr lo φ hp g
theorem Fr.refl (lo : Nat) (φ : Mp) (hp : Hp) (w : World) : Fr lo φ hp w φ hp w := ⟨rfl, rfl, rfl, Nat.le_refl _, fun _ _ _ => rfl, fun _ h => .inr h⟩
theorem Fr.trans {lo : Nat} {φ φ' φ'' : Mp} {hp hp' hp'' : Hp} {w w' w'' : World} (h : Fr lo φ hp w φ' hp' w') (k : Fr lo φ' hp' w' φ'' hp'' w'') : Fr lo φ hp w φ'' hp'' w'' :=
  ⟨k.os.trans h.os, k.tape.trans h.tape, k.output.trans h.output, Nat.le_trans h.size k.size,
    fun g hg hn => (k.blk g (Nat.lt_of_lt_of_le hg h.size) fun hw => (h.wr g hw).elim (fun h1 => by omega) hn).trans (h.blk g hg hn),
    fun g hw => (k.wr g hw).elim (fun h1 => .inl (Nat.le_trans h.size h1)) (h.wr g)⟩
/-- blocks dropped -/
theorem Fr.drop {lo : Nat} {φ φ' : Mp} {hp hp' hp'' : Hp} {w w' : World} (h : Fr lo φ hp w φ' hp' w') (hs : ∀ b ∈ hp'', b ∈ hp') : Fr lo φ hp w φ' hp'' w' :=
  ⟨h.os, h.tape, h.output, h.size, h.blk, fun g ⟨b, hb, r⟩ => h.wr g ⟨b, hs b hb, r⟩⟩
theorem R.drop {φ : Mp} {hp hp' : Hp} {nx : Nat} {w : World} (h : R φ hp nx w) (hs : ∀ b ∈ hp', b ∈ hp) : R φ hp' nx w :=
  ⟨fun b hb => h.blk b (hs b hb), fun b hb => h.lo b (hs b hb), fun b hb b' hb' => h.inj b (hs b hb) b' (hs b' hb')⟩
structure Ext (φ φ' : Mp) (nx nx' : Nat) : Prop where
  sub : Sub φ φ'
  off : ∀ i, i < nx ∨ nx' ≤ i → φ' i = φ i
  le : nx ≤ nx'
theorem Ext.refl (φ : Mp) (nx : Nat) : Ext φ φ nx nx := ⟨fun _ _ h => h, fun _ _ => rfl, Nat.le_refl _⟩
theorem Ext.trans {φ φ' φ'' : Mp} {a b c : Nat} (h : Ext φ φ' a b) (k : Ext φ' φ'' b c) : Ext φ φ'' a c :=
  ⟨fun i p hp => k.sub i p (h.sub i p hp), fun i hi => (k.off i (by have := h.le; have := k.le; omega)).trans (h.off i (by have := h.le; have := k.le; omega)), Nat.le_trans h.le k.le⟩
noncomputable def Fresh (φ : Mp) (a b : Nat) : Prop := ∀ i, a ≤ i → i < b → φ i = none
theorem Fresh.left {φ : Mp} {a b c : Nat} (h : Fresh φ a c) (hb : b ≤ c) : Fresh φ a b := fun i h1 h2 => h i h1 (by omega)
theorem Fresh.right {φ φ' : Mp} {a b c : Nat} (h : Fresh φ a c) (hE : Ext φ φ' a b) : Fresh φ' b c := fun i h1 h2 => (hE.off i (.inr h1)).trans (h i (by have := hE.le; omega) h2)
/-- how one step ends -/
noncomputable def Out (lo : Nat) (φ : Mp) (hp : Hp) (nx : Nat) (w : World) (x : AV) (hp' : Hp) (nx' : Nat) (v : Value) (w' : World) : Prop :=
  ∃ φ', Ext φ φ' nx nx' ∧ x.rel φ' v ∧ R φ' hp' nx' w' ∧ Fr lo φ hp w φ' hp' w'
theorem Out.same {lo : Nat} {φ : Mp} {hp : Hp} {nx : Nat} {w : World} {x : AV} {v : Value} (hR : R φ hp nx w) (h : x.rel φ v) : Out lo φ hp nx w x hp nx v w := ⟨φ, .refl _ _, h, hR, .refl _ _ _ _⟩

noncomputable def upd (φ : Mp) (nx : Nat) (p : Nat × Nat) : Mp := fun i => if i = nx then some p else φ i
theorem upd_self (φ : Mp) (nx : Nat) (p : Nat × Nat) : upd φ nx p nx = some p := if_pos rfl
theorem upd_ne (φ : Mp) {nx i : Nat} (p : Nat × Nat) (h : i ≠ nx) : upd φ nx p i = φ i := if_neg h
theorem Ext.upd {φ : Mp} {nx : Nat} (p : Nat × Nat) (h : φ nx = none) : Ext φ (upd φ nx p) nx (nx + 1) :=
  ⟨fun i q hq => by
    by_cases e : i = nx
    · subst e; rw [h] at hq; cases hq
    · rw [upd_ne _ _ e]; exact hq, fun i hi => upd_ne _ _ (by omega), by omega⟩
/-- a new block -/
theorem alloc_step {lo : Nat} {φ : Mp} {hp : Hp} {nx : Nat} {w w' : World} (hR : R φ hp nx w) (hf : φ nx = none) (cs : List LV) (arr : Array Value) (t : TypeId) (sz κ : Nat)
    (hc : All2 (LV.rel φ) cs (arr.toList.take cs.length)) (h0 : sz = 0 → arr.size = cs.length) (h1 : sz ≠ 0 → arr.size = κ * sz ∧ κ ≤ maxLen)
    (hh : w'.heap = w.heap.push (.cells arr t (0, 0))) (ho : w'.os = w.os) (ht : w'.tape = w.tape) (hu : w'.output = w.output) :
    Ext φ (upd φ nx (w.heap.size, κ)) nx (nx + 1) ∧ R (upd φ nx (w.heap.size, κ)) (⟨nx, cs, t, sz⟩ :: hp) (nx + 1) w' ∧ Fr lo φ hp w (upd φ nx (w.heap.size, κ)) (⟨nx, cs, t, sz⟩ :: hp) w' := by
  have hE := Ext.upd (w.heap.size, κ) hf
  have hold : ∀ g, g < w.heap.size → w'.heap[g]? = w.heap[g]? := fun g hg => by rw [hh, Array.getElem?_push, if_neg (by omega)]
  have hnx : ∀ b ∈ hp, b.id ≠ nx := fun b hb => by have := hR.lo b hb; omega
  refine ⟨hE, ⟨?_, ?_, ?_⟩, ⟨ho, ht, hu, by rw [hh]; simp, fun g hg _ => hold g hg, ?_⟩⟩
  · intro b hb
    rcases List.mem_cons.1 hb with rfl | hb
    · exact ⟨w.heap.size, κ, arr, upd_self _ _ _, by rw [hh]; simp, hc.mono fun _ _ => LV.rel_mono hE.sub, h0, h1⟩
    · exact (hR.blk b hb).mono hE.sub fun g κ' hg => hold g ((hR.blk b hb).lt hg)
  · intro b hb
    rcases List.mem_cons.1 hb with rfl | hb
    · exact Nat.lt_succ_self _
    · exact Nat.lt_succ_of_lt (hR.lo b hb)
  · intro b hb b' hb' g κ1 κ2 h1 h2
    rcases List.mem_cons.1 hb with rfl | hb <;> rcases List.mem_cons.1 hb' with rfl | hb'
    · rfl
    · rw [upd_ne _ _ (hnx b' hb')] at h2
      have h1' : upd φ nx (w.heap.size, κ) nx = some (g, κ1) := h1
      rw [upd_self] at h1'
      injection h1' with h1'
      injection h1' with h1' _
      have := (hR.blk b' hb').lt h2
      omega
    · rw [upd_ne _ _ (hnx b hb)] at h1
      have h2' : upd φ nx (w.heap.size, κ) nx = some (g, κ2) := h2
      rw [upd_self] at h2'
      injection h2' with h2'
      injection h2' with h2' _
      have := (hR.blk b hb).lt h1
      omega
    · rw [upd_ne _ _ (hnx b hb)] at h1
      rw [upd_ne _ _ (hnx b' hb')] at h2
      exact hR.inj b hb b' hb' g κ1 κ2 h1 h2
  · rintro g ⟨b, hb, hlo, κ', hg⟩
    rcases List.mem_cons.1 hb with rfl | hb
    · have hg' : upd φ nx (w.heap.size, κ) nx = some (g, κ') := hg
      rw [upd_self] at hg'
      injection hg' with hg'
      injection hg' with hg' _
      exact .inl (by omega)
    · rw [upd_ne _ _ (hnx b hb)] at hg
      exact .inr ⟨b, hb, hlo, κ', hg⟩
/-- the block of a number -/
noncomputable def look (h : Hp) (i : Nat) : Option Blk := List.rec (motive := fun _ => Option Blk) none (fun b _ ih => Bool.rec (motive := fun _ => Option Blk) ih (some b) (Nat.beq b.id i)) h
theorem look_spec : ∀ {hp : Hp} {i : Nat} {b : Blk}, look hp i = some b → b ∈ hp ∧ b.id = i
  | [], i, b, h => by cases h
  | c :: r, i, b, h => by
    have h : Bool.rec (motive := fun _ => Option Blk) (look r i) (some c) (Nat.beq c.id i) = some b := h
    cases hc : Nat.beq c.id i with
    | true =>
      rw [hc] at h
      injection h with h
      subst h
      exact ⟨List.mem_cons_self, Nat.eq_of_beq_eq_true hc⟩
    | false =>
      rw [hc] at h
      have := look_spec h
      exact ⟨List.mem_cons_of_mem _ this.1, this.2⟩
/-- all others of that number are dropped -/
noncomputable def putD (nb : Blk) (h : Hp) : Hp := List.rec (motive := fun _ => Hp) [] (fun b _ ih => Bool.rec (motive := fun _ => Hp) (b :: ih) ih (Nat.beq b.id nb.id)) h
noncomputable def put1 (nb : Blk) (h : Hp) : Hp := List.rec (motive := fun _ => Hp) [] (fun b r ih => Bool.rec (motive := fun _ => Hp) (b :: ih) (nb :: putD nb r) (Nat.beq b.id nb.id)) h
theorem putD_cons (nb c : Blk) (r : Hp) : putD nb (c :: r) = if Nat.beq c.id nb.id = true then putD nb r else c :: putD nb r := by
  show Bool.rec (motive := fun _ => Hp) (c :: putD nb r) (putD nb r) (Nat.beq c.id nb.id) = _
  cases Nat.beq c.id nb.id <;> rfl
theorem put1_cons (nb c : Blk) (r : Hp) : put1 nb (c :: r) = if Nat.beq c.id nb.id = true then nb :: putD nb r else c :: put1 nb r := by
  show Bool.rec (motive := fun _ => Hp) (c :: put1 nb r) (nb :: putD nb r) (Nat.beq c.id nb.id) = _
  cases Nat.beq c.id nb.id <;> rfl
theorem putD_mem (nb : Blk) : ∀ {hp : Hp} {b : Blk}, b ∈ putD nb hp → b ∈ hp ∧ b.id ≠ nb.id
  | [], b, h => by cases h
  | c :: r, b, h => by
    rw [putD_cons] at h
    split at h
    · have := putD_mem nb h
      exact ⟨List.mem_cons_of_mem _ this.1, this.2⟩
    · rename_i hc
      rcases List.mem_cons.1 h with rfl | h
      · exact ⟨List.mem_cons_self, fun e => hc (by rw [e]; exact Nat.beq_refl _)⟩
      · have := putD_mem nb h
        exact ⟨List.mem_cons_of_mem _ this.1, this.2⟩
theorem put1_mem (nb : Blk) : ∀ {hp : Hp} {b : Blk}, b ∈ put1 nb hp → (b ∈ hp ∧ b.id ≠ nb.id) ∨ b = nb
  | [], b, h => by cases h
  | c :: r, b, h => by
    rw [put1_cons] at h
    split at h
    · rcases List.mem_cons.1 h with rfl | h
      · exact .inr rfl
      · have := putD_mem nb h
        exact .inl ⟨List.mem_cons_of_mem _ this.1, this.2⟩
    · rename_i hc
      rcases List.mem_cons.1 h with rfl | h
      · exact .inl ⟨List.mem_cons_self, fun e => hc (by rw [e]; exact Nat.beq_refl _)⟩
      · rcases put1_mem nb h with ⟨h1, h2⟩ | h
        · exact .inl ⟨List.mem_cons_of_mem _ h1, h2⟩
        · exact .inr h
/-- a block written: the cells of the abstract block are written in the same places -/
theorem store_step {lo : Nat} {φ : Mp} {hp : Hp} {nx : Nat} {w w' : World} (hR : R φ hp nx w) {b : Blk} (hb : b ∈ hp) (hlo : lo ≤ b.id) {g κ : Nat} (hg : φ b.id = some (g, κ)) {arr' : Array Value}
    (cs : List LV) (hc : All2 (LV.rel φ) cs (arr'.toList.take cs.length)) (hs0 : b.sz = 0 → arr'.size = cs.length) (hs1 : b.sz ≠ 0 → arr'.size = κ * b.sz ∧ κ ≤ maxLen)
    (hh : w'.heap[g]? = some (.cells arr' b.ty (0, 0))) (hk : ∀ k, k ≠ g → w'.heap[k]? = w.heap[k]?) (hz : w'.heap.size = w.heap.size) (ho : w'.os = w.os) (ht : w'.tape = w.tape) (hu : w'.output = w.output) :
    R φ (put1 ⟨b.id, cs, b.ty, b.sz⟩ hp) nx w' ∧ Fr lo φ hp w φ (put1 ⟨b.id, cs, b.ty, b.sz⟩ hp) w' := by
  have hwr : Wr lo φ hp g := ⟨b, hb, hlo, κ, hg⟩
  have key : ∀ c ∈ put1 ⟨b.id, cs, b.ty, b.sz⟩ hp, ∃ d ∈ hp, d.id = c.id := fun c hc => by
    rcases put1_mem _ hc with ⟨h1, _⟩ | rfl
    · exact ⟨c, h1, rfl⟩
    · exact ⟨b, hb, rfl⟩
  refine ⟨⟨?_, ?_, ?_⟩, ⟨ho, ht, hu, by omega, fun k _ hn => hk k fun e => hn (e ▸ hwr), ?_⟩⟩
  · intro c hc'
    rcases put1_mem _ hc' with ⟨h1, h2⟩ | rfl
    · refine (hR.blk c h1).mono (fun _ _ h => h) fun g' κ' hg' => hk g' fun e => ?_
      subst e
      exact h2 (hR.inj c h1 b hb g' κ' κ hg' hg)
    · exact ⟨g, κ, arr', hg, hh, hc, hs0, hs1⟩
  · intro c hc'
    obtain ⟨d, hd, e⟩ := key c hc'
    rw [← e]; exact hR.lo d hd
  · intro c hc1 c' hc2 g' κ1 κ2 h1 h2
    obtain ⟨d, hd, e⟩ := key c hc1
    obtain ⟨d', hd', e'⟩ := key c' hc2
    rw [← e, ← e']
    exact hR.inj d hd d' hd' g' κ1 κ2 (by rw [e]; exact h1) (by rw [e']; exact h2)
  · rintro k ⟨c, hc', hlo', κ', hk'⟩
    obtain ⟨d, hd, e⟩ := key c hc'
    exact .inr ⟨d, hd, by rw [e]; exact hlo', κ', by rw [e]; exact hk'⟩
end Go.Proofs.YthiblfkmcdnalaaGreat.Ae

namespace Go.Proofs.YthiblfkmcdnalaaGreat.Ae
open Go.RowKit

noncomputable def nth {α : Type} (l : List α) : Nat → Option α := List.rec (motive := fun _ => Nat → Option α) (fun _ => none) (fun x _ ih n => Nat.rec (motive := fun _ => Option α) (some x) (fun m _ => ih m) n) l
theorem nth_eq {α : Type} : ∀ (l : List α) (n : Nat), nth l n = l[n]?
  | [], n => by show none = _; simp
  | x :: _, 0 => rfl
  | _ :: r, n + 1 => by
    show nth r n = _
    rw [nth_eq r n]; simp
noncomputable def setN {α : Type} (l : List α) : Nat → α → List α := List.rec (motive := fun _ => Nat → α → List α) (fun _ _ => []) (fun x r ih n y => Nat.rec (motive := fun _ => List α) (y :: r) (fun m _ => x :: ih m y) n) l
theorem setN_eq {α : Type} : ∀ (l : List α) (n : Nat) (y : α), setN l n y = l.set n y
  | [], n, y => by show [] = _; simp
  | x :: _, 0, _ => rfl
  | x :: r, n + 1, y => by
    show x :: setN r n y = _
    rw [setN_eq r n y]; simp
theorem nth_get {α : Type} {l : List α} {n : Nat} {x : α} (h : nth l n = some x) : l[n]? = some x := (nth_eq l n).symm.trans h
/-- a number reckoned before it is handed on -/
noncomputable def forceN {β : Type} (n : Nat) (k : Nat → β) : β := Nat.rec (motive := fun _ => β) (k 0) (fun m _ => k (Nat.succ m)) n
theorem forceN_eq {β : Type} (n : Nat) (k : Nat → β) : forceN n k = k n := by cases n <;> rfl
noncomputable def forceL {α β : Type} (l : List α) (k : List α → β) : β := List.rec (motive := fun _ => β) (k []) (fun x r _ => k (x :: r)) l
theorem forceL_eq {α β : Type} (l : List α) (k : List α → β) : forceL l k = k l := by cases l <;> rfl
/-- has the list so many elements? -/
noncomputable def lenGe {α : Type} (l : List α) : Nat → Bool := List.rec (motive := fun _ => Nat → Bool) (fun n => Nat.beq n 0) (fun _ _ ih n => Nat.rec (motive := fun _ => Bool) true (fun m _ => ih m) n) l
theorem lenGe_spec {α : Type} : ∀ {l : List α} {n : Nat}, lenGe l n = true → n ≤ l.length
  | [], n, h => by rw [Nat.eq_of_beq_eq_true (show Nat.beq n 0 = true from h)]; exact Nat.zero_le _
  | _ :: _, 0, _ => Nat.zero_le _
  | _ :: r, n + 1, h => Nat.succ_le_succ (lenGe_spec (l := r) h)
noncomputable def dropN {α : Type} (l : List α) : Nat → List α := List.rec (motive := fun _ => Nat → List α) (fun _ => []) (fun x r ih n => Nat.rec (motive := fun _ => List α) (x :: r) (fun m _ => ih m) n) l
theorem dropN_eq {α : Type} : ∀ (l : List α) (n : Nat), dropN l n = l.drop n
  | [], n => by show [] = _; simp
  | x :: r, 0 => rfl
  | x :: r, n + 1 => by show dropN r n = _; rw [dropN_eq r n]; simp
noncomputable def takeN {α : Type} (l : List α) : Nat → List α := List.rec (motive := fun _ => Nat → List α) (fun _ => []) (fun x _ ih n => Nat.rec (motive := fun _ => List α) [] (fun m _ => x :: ih m) n) l
theorem takeN_eq {α : Type} : ∀ (l : List α) (n : Nat), takeN l n = l.take n
  | [], n => by show [] = _; simp
  | x :: r, 0 => rfl
  | x :: r, n + 1 => by show x :: takeN r n = _; rw [takeN_eq r n]; simp
/-- cells laid over a list, from a place on -/
noncomputable def lay {α : Type} (cs : List α) : List α → List α := List.rec (motive := fun _ => List α → List α) (fun l => l) (fun c _ ih l => List.rec (motive := fun _ => List α) [] (fun _ r _ => c :: ih r) l) cs
theorem lay_eq {α : Type} : ∀ (cs l : List α), cs.length ≤ l.length → lay cs l = cs ++ l.drop cs.length
  | [], l, _ => rfl
  | c :: cs, [], h => by simp at h
  | c :: cs, x :: r, h => by
    show c :: lay cs r = _
    rw [lay_eq cs r (by simpa using h)]; simp
noncomputable def spl {α : Type} (cs : List α) (l : List α) : Nat → List α := List.rec (motive := fun _ => Nat → List α) (fun _ => lay cs []) (fun x r ih n => Nat.rec (motive := fun _ => List α) (lay cs (x :: r)) (fun m _ => x :: ih m) n) l
theorem spl_eq {α : Type} (cs : List α) : ∀ (l : List α) (n : Nat), n + cs.length ≤ l.length → spl cs l n = l.take n ++ (cs ++ l.drop (n + cs.length))
  | [], n, h => by
    rw [List.length_nil] at h
    have h1 : n = 0 := by omega
    have h2 : cs = [] := List.eq_nil_of_length_eq_zero (by omega)
    subst h1; subst h2; rfl
  | x :: r, 0, h => by
    show lay cs (x :: r) = _
    rw [lay_eq cs _ (by simpa using h)]; simp
  | x :: r, n + 1, h => by
    show x :: spl cs r n = _
    rw [spl_eq cs r n (by simp at h; omega)]
    simp [Nat.add_right_comm]
structure TI where
  desc : TypeDesc
  size : Nat
  bytes : Nat
  zero : List Value
noncomputable def tinfo (P : Program) (t : TypeId) : Option TI :=
  match P.info? t, P.underlying t with
  | some i, some d => match i.zero with
    | some z => some ⟨d, i.size, i.bytes, z.cells.toList⟩
    | none => none
  | _, _ => none
theorem tinfo_spec {P : Program} {t : TypeId} {ti : TI} (h : tinfo P t = some ti) : ∃ i z, P.info? t = some i ∧ P.underlying t = some ti.desc ∧ i.zero = some z ∧ z.cells.toList = ti.zero ∧ i.size = ti.size ∧ i.bytes = ti.bytes := by
  unfold tinfo at h
  split at h
  · rename_i i d h1 h2
    split at h
    · rename_i z hz
      injection h with h
      subst h
      exact ⟨i, z, h1, h2, hz, rfl, rfl, rfl⟩
    · cases h
  · cases h
noncomputable def aggD : TypeDesc → Bool
  | .struct _ => true
  | .array _ _ => true
  | _ => false
theorem run_isAgg {P : Program} {t : TypeId} {d : TypeDesc} (h : P.underlying t = some d) (w : World) : (isAgg t).run P w = .ok (aggD d) w := by
  unfold isAgg
  rw [Sem.run_bind, run_underlying h w]
  cases d <;> rfl
noncomputable def ofVal : Value → AV
  | .agg cs => .e (.g (cs.toList.map .c))
  | v => .e (.l (.c v))
theorem ofVal_rel (φ : Mp) (v : Value) : (ofVal v).rel φ v := by
  unfold ofVal
  split
  · rename_i cs
    refine ⟨cs.toList, All2.map_left ⟨rfl, fun i x y h1 h2 => ?_⟩, by simp⟩
    rw [h1] at h2
    injection h2 with h2
    exact h2.symm
  · rfl
noncomputable def LV.one : LV → Bool
  | .c v => v.oneCell'
  | _ => true
theorem LV.one_val {φ : Mp} {x : LV} {v : Value} (h : x.rel φ v) (h1 : x.one = true) : v.oneCell' = true := by
  cases x with
  | c y => obtain rfl : v = y := h; exact h1
  | p b off => obtain ⟨g, κ, _, rfl⟩ := h; rfl
  | s b off len cap => obtain ⟨g, κ, _, rfl⟩ := h; rfl
  | u b off len d => obtain ⟨g, κ, _, _, rfl⟩ := h; rfl
  | f fn caps => obtain ⟨vs, _, rfl⟩ := h; rfl
  | z => obtain ⟨a, cap, rfl⟩ := h; rfl
theorem cells_one {v : Value} (h : v.oneCell' = true) : v.cells = #[v] := by cases v <;> first | rfl | cases h
theorem all_one {φ : Mp} {cs : List LV} {vs : List Value} (h : All2 (LV.rel φ) cs vs) (h1 : cs.all LV.one = true) : ∀ v ∈ vs, v.oneCell' = true := fun v hv => by
  obtain ⟨x, hx, hr⟩ := h.mem hv
  exact LV.one_val hr (List.all_eq_true.1 h1 x hx)
/-- the cells of a value -/
noncomputable def EV.cells : EV → Option (List LV)
  | .l x => match x.one with
    | true => some [x]
    | false => none
  | .g xs => some xs
noncomputable def AV.cells : AV → Option (List LV)
  | .e x => x.cells
  | .t _ => none
theorem EV.cells_spec {φ : Mp} {x : EV} {v : Value} {cs : List LV} (h : x.cells = some cs) (hr : x.rel φ v) : All2 (LV.rel φ) cs v.cells.toList := by
  cases x with
  | l y =>
    simp only [EV.cells] at h
    cases h1 : y.one with
    | false => rw [h1] at h; cases h
    | true =>
      rw [h1] at h
      injection h with h
      subst h
      rw [cells_one (LV.one_val hr h1)]
      exact .cons hr .nil
  | g xs =>
    injection h with h
    subst h
    obtain ⟨vs, h1, rfl⟩ := hr
    exact h1
theorem AV.cells_spec {φ : Mp} {x : AV} {v : Value} {cs : List LV} (h : x.cells = some cs) (hr : x.rel φ v) : All2 (LV.rel φ) cs v.cells.toList := by
  cases x with
  | e y => exact EV.cells_spec h hr
  | t xs => cases h
theorem R.block {φ : Mp} {hp : Hp} {nx : Nat} {w : World} (hR : R φ hp nx w) {b : Nat} {k : Blk} (hl : look hp b = some k) {g κ : Nat} (hg : φ b = some (g, κ)) :
    k ∈ hp ∧ k.id = b ∧ ∃ arr, w.heap[g]? = some (.cells arr k.ty (0, 0)) ∧ All2 (LV.rel φ) k.cs (arr.toList.take k.cs.length) ∧ (k.sz = 0 → arr.size = k.cs.length) ∧ (k.sz ≠ 0 → arr.size = κ * k.sz ∧ κ ≤ maxLen) := by
  obtain ⟨h1, h2⟩ := look_spec hl
  obtain ⟨g', κ', arr, a1, a2, a3, a4, a5⟩ := hR.blk k h1
  rw [h2, hg] at a1
  injection a1 with a1
  injection a1 with a1 a1'
  subst a1; subst a1'
  exact ⟨h1, h2, arr, a2, a3, a4, a5⟩
theorem cell_list {w : World} {g : Nat} {arr : Array Value} {t : TypeId} {fr : Nat × Nat} (h : w.heap[g]? = some (.cells arr t fr)) (j : Nat) : w.cell? ⟨g, j, none⟩ = arr.toList[j]? := by
  rw [cell_of_row w g j arr t fr h]; simp
theorem All2.part {φ : Mp} {cs : List LV} {arr : List Value} (h : All2 (LV.rel φ) cs (arr.take cs.length)) (off n : Nat) (hl : off + n ≤ cs.length) : All2 (LV.rel φ) ((cs.drop off).take n) ((arr.drop off).take n) := by
  have := (h.drop off).take n
  rw [List.drop_take, List.take_take] at this
  rwa [show min n (cs.length - off) = n by omega] at this
theorem rel_p {φ : Mp} {b off : Nat} {v : Value} (h : (AV.e (.l (.p b off))).rel φ v) : ∃ g κ, φ b = some (g, κ) ∧ v = .pointer (some ⟨g, off, none⟩) := h

section
variable {P : Program}
/-- load -/
noncomputable def opLoad (P : Program) (hp : Hp) (t : TypeId) : AV → Option AV
  | .e (.l (.p b off)) => match look hp b with
    | some k => match tinfo P t with
      | some ti => match aggD ti.desc with
        | true => match lenGe k.cs (off + ti.size) with
          | true => some (.e (.g (takeN (dropN k.cs off) ti.size)))
          | false => none
        | false => match nth k.cs off with
          | some y => some (.e (.l y))
          | none => none
      | none => none
    | none => none
  | _ => none
theorem run_load_agg {w : World} {g off : Nat} {arr : Array Value} {e t : TypeId} {fr : Nat × Nat} (hw : w.heap[g]? = some (.cells arr e fr)) {d : TypeDesc} {i : TypeInfo} (hu : P.underlying t = some d) (hd : aggD d = true) (hi : P.info? t = some i)
    (hl : off + i.size ≤ arr.size) : (loadVar t ⟨g, off, none⟩).run P w = .ok (.agg ((arr.toList.drop off).take i.size).toArray) w := by
  have hlen : ((arr.toList.drop off).take i.size).length = i.size := by simp; omega
  have hl : (loadCells ⟨g, off, none⟩ i.size).run P w = .ok ((arr.toList.drop off).take i.size).toArray w := by
    have := run_loadCells_list (P := P) w ⟨g, off, none⟩ ((arr.toList.drop off).take i.size) (fun j v hv => by
      rw [Addr.add_lit, cell_list hw]
      rw [List.getElem?_take] at hv
      split at hv
      · rwa [List.getElem?_drop] at hv
      · cases hv)
    rwa [hlen] at this
  have hs : (sizeOf t).run P w = .ok i.size w := by simp [sizeOf, typeInfo, hi]
  simp only [loadVar, Sem.run_bind, run_isAgg hu, hd, Result.andThen_ok, if_true, hs, hl, Sem.run_pure]
theorem run_load_one {w : World} {g off : Nat} {t : TypeId} {d : TypeDesc} (hu : P.underlying t = some d) (hd : aggD d = false) {v : Value} (hc : w.cell? ⟨g, off, none⟩ = some v) : (loadVar t ⟨g, off, none⟩).run P w = .ok v w := by
  simp only [loadVar, Sem.run_bind, run_isAgg hu, hd, Result.andThen_ok]
  simp [hc]
theorem opLoad_var {φ : Mp} {hp : Hp} {nx : Nat} {w : World} (hR : R φ hp nx w) {t : TypeId} {x y : AV} (h : opLoad P hp t x = some y) {v : Value} (hx : x.rel φ v) :
    ∃ a v', v = .pointer (some a) ∧ (loadVar t a).run P w = .ok v' w ∧ y.rel φ v' := by
  unfold opLoad at h
  split at h
  case h_2 => cases h
  rename_i b off
  obtain ⟨g, κ, hg, rfl⟩ := rel_p hx
  split at h
  case h_2 => cases h
  rename_i k hk
  split at h
  case h_2 => cases h
  rename_i ti hti
  obtain ⟨i, z, hi, hu, hz, hz2, hs, _⟩ := tinfo_spec hti
  obtain ⟨hk1, hk2, arr, hw, hc, _, _⟩ := hR.block hk hg
  have hcl := hc.len
  rw [List.length_take] at hcl
  split at h
  · rename_i hd
    split at h
    case h_2 => cases h
    rename_i hle
    have hle := lenGe_spec hle
    rw [dropN_eq, takeN_eq] at h
    injection h with h
    subst h
    refine ⟨_, _, rfl, run_load_agg hw hu hd hi (by simp at hcl; omega), _, ?_, rfl⟩
    rw [hs]
    exact hc.part off ti.size hle
  · rename_i hd
    split at h
    case h_2 => cases h
    rename_i y0 hy
    injection h with h
    subst h
    obtain ⟨v', hv', hr⟩ := hc.get (nth_get hy)
    refine ⟨_, v', rfl, run_load_one hu hd ?_, hr⟩
    rw [cell_list hw]
    rw [List.getElem?_take] at hv'
    split at hv'
    · exact hv'
    · cases hv'

/-- store -/
noncomputable def opStore (P : Program) (lo : Nat) (hp : Hp) (t : TypeId) (x y : AV) : Option Hp :=
  match x with
  | .e (.l (.p b off)) => match look hp b with
    | some k => match tinfo P t with
      | some ti => match y.cells with
        | some cs => match Nat.beq cs.length ti.size && lenGe k.cs (off + ti.size) && Nat.ble lo b && cs.all LV.one with
          | true => some (put1 ⟨b, spl cs k.cs off, k.ty, k.sz⟩ hp)
          | false => none
        | none => none
      | none => none
    | none => none
  | _ => none
/-- cells written into a block -/
theorem write_step {lo : Nat} {φ : Mp} {hp : Hp} {nx : Nat} {w : World} (hR : R φ hp nx w) {b off : Nat} {k : Blk} (hk : look hp b = some k) {g κ : Nat} (hg : φ b = some (g, κ)) (hlo : lo ≤ b) {cs : List LV} {vs : List Value} (hcs : All2 (LV.rel φ) cs vs) (h1 : ∀ v ∈ vs, v.oneCell' = true)
    {arr : Array Value} (hw : w.heap[g]? = some (.cells arr k.ty (0, 0))) (hfit : off + cs.length ≤ arr.size) (hpre : off ≤ k.cs.length) (hfull : k.sz = 0 → off + cs.length ≤ k.cs.length) :
    ∃ w', (storeCells ⟨g, off, none⟩ vs).run P w = .ok () w' ∧
      R φ (put1 ⟨b, k.cs.take off ++ (cs ++ k.cs.drop (off + cs.length)), k.ty, k.sz⟩ hp) nx w' ∧ Fr lo φ hp w φ (put1 ⟨b, k.cs.take off ++ (cs ++ k.cs.drop (off + cs.length)), k.ty, k.sz⟩ hp) w' := by
  obtain ⟨hk1, hk2, arr0, hw0, hc, hf0, hf1⟩ := hR.block hk hg
  rw [hw] at hw0
  injection hw0 with hw0
  injection hw0 with hw0 _ _
  subst hw0
  subst hk2
  have hcl := hc.len
  rw [List.length_take] at hcl
  have hl := hcs.len
  have hst := run_storeCells_at P g off k.ty vs 0 arr w hw (by omega) h1
  simp only [Nat.add_zero] at hst
  have hle : k.cs.length ≤ arr.toList.length := by omega
  refine ⟨_, hst, ?_⟩
  refine store_step hR hk1 hlo hg (arr' := (arr.toList.take off ++ vs ++ arr.toList.drop (off + vs.length)).toArray) _ ?_ (fun h => ?_) (fun h => ?_) (setRow_heap w g arr _ k.ty (0, 0) hw) (fun j hj => setRow_other w g j _ hj) (by simp [World.setRow]) rfl rfl rfl
  · have e1 : All2 (LV.rel φ) (k.cs.take off) (arr.toList.take off) := by
      have := hc.take off
      rwa [List.take_take, show min off k.cs.length = off by omega] at this
    have e3 : All2 (LV.rel φ) (k.cs.drop (off + cs.length)) ((arr.toList.drop (off + cs.length)).take (k.cs.length - (off + cs.length))) := by
      have := hc.drop (off + cs.length)
      rwa [List.drop_take] at this
    have hE := e1.append (hcs.append e3)
    have hm : min off arr.toList.length = off := by simp at hle ⊢; omega
    have hq : (arr.toList.take off ++ vs ++ arr.toList.drop (off + vs.length)).take (k.cs.take off ++ (cs ++ k.cs.drop (off + cs.length))).length = arr.toList.take off ++ (vs ++ (arr.toList.drop (off + cs.length)).take (k.cs.length - (off + cs.length))) := by
      simp only [List.length_append, List.length_take, List.length_drop]
      rw [List.append_assoc, List.take_append, List.take_append, List.length_take, hm, show min off k.cs.length = off by omega]
      congr 1
      · rw [List.take_of_length_le]; simp; omega
      · rw [show off + (cs.length + (k.cs.length - (off + cs.length))) - off = cs.length + (k.cs.length - (off + cs.length)) by omega]
        congr 1
        · rw [List.take_of_length_le]; omega
        · rw [← hl]; congr 1; omega
    rw [List.toList_toArray, hq]
    exact hE
  · have h2 := hf0 h
    have h3 := hfull h
    simp only [List.size_toArray, List.length_append, List.length_take, List.length_drop, Array.length_toList]
    omega
  · obtain ⟨h2, h3⟩ := hf1 h
    refine ⟨?_, h3⟩
    rw [← h2]
    simp only [List.size_toArray, List.length_append, List.length_take, List.length_drop, Array.length_toList]
    omega
end
end Go.Proofs.YthiblfkmcdnalaaGreat.Ae

namespace Go.Proofs.YthiblfkmcdnalaaGreat.Ae
open Go.RowKit

section
variable {P : Program}
theorem run_newRow (w : World) (t : TypeId) (arr : Array Value) : (newRow t arr).run P w = .ok ⟨w.heap.size, 0, none⟩ (w.alloc (.cells arr t)) := rfl
theorem run_box (w : World) (t : TypeId) (v : Value) : (Instr.box t v).run P w = .ok (.pointer (some ⟨w.heap.size, 0, none⟩)) (w.alloc (.cells v.cells t)) := rfl
/-- a new block -/
theorem new_out {lo : Nat} {φ : Mp} {hp : Hp} {nx : Nat} {w : World} (hR : R φ hp nx w) (hf : Fresh φ nx (nx + 1)) {cs : List LV} {arr : Array Value} (t : TypeId) (hc : All2 (LV.rel φ) cs arr.toList) :
    Out lo φ hp nx w (.e (.l (.p nx 0))) (⟨nx, cs, t, 0⟩ :: hp) (nx + 1) (.pointer (some ⟨w.heap.size, 0, none⟩)) (w.alloc (.cells arr t)) := by
  have hl := hc.len
  have := alloc_step (lo := lo) (w' := w.alloc (.cells arr t)) hR (hf nx (Nat.le_refl _) (Nat.lt_succ_self _)) cs arr t 0 0 (by rw [List.take_of_length_le (by omega)]; exact hc) (fun _ => by simpa using hl.symm) (fun h => absurd rfl h) rfl rfl rfl rfl
  exact ⟨_, this.1, ⟨_, _, upd_self _ _ _, rfl⟩, this.2⟩
theorem new_slice_out {lo : Nat} {φ : Mp} {hp : Hp} {nx : Nat} {w : World} (hR : R φ hp nx w) (hf : Fresh φ nx (nx + 1)) {cs : List LV} {arr : Array Value} (t : TypeId) (hc : All2 (LV.rel φ) cs arr.toList) (l c : Nat) :
    Out lo φ hp nx w (.e (.l (.s nx 0 l c))) (⟨nx, cs, t, 0⟩ :: hp) (nx + 1) (.slice (some ⟨w.heap.size, 0, none⟩) l c) (w.alloc (.cells arr t)) := by
  have hl := hc.len
  have := alloc_step (lo := lo) (w' := w.alloc (.cells arr t)) hR (hf nx (Nat.le_refl _) (Nat.lt_succ_self _)) cs arr t 0 0 (by rw [List.take_of_length_le (by omega)]; exact hc) (fun _ => by simpa using hl.symm) (fun h => absurd rfl h) rfl rfl rfl rfl
  exact ⟨_, this.1, ⟨_, _, upd_self _ _ _, rfl⟩, this.2⟩

noncomputable def consts (vs : List Value) : List LV := vs.map .c
theorem consts_rel (φ : Mp) (vs : List Value) : All2 (LV.rel φ) (consts vs) vs := All2.map_left ⟨rfl, fun i x y h1 h2 => by rw [h1] at h2; injection h2 with h2; exact h2.symm⟩

/-- parts set into cells -/
noncomputable def fillA (place : Nat → Option (Nat × Nat)) (cells : List LV) : List (Nat × List LV) → Option (List LV)
  | [] => some cells
  | (i, cs) :: rest => match place i with
    | none => none
    | some (off, size) => match Nat.beq cs.length size && Nat.ble (off + cs.length) cells.length with
      | true => fillA place (cells.take off ++ (cs ++ cells.drop (off + cs.length))) rest
      | false => none
theorem foldl_set (off : Nat) : ∀ (vs : List Value) (s : Nat) (cells : Array Value), off + s + vs.length ≤ cells.size →
    ((vs.zipIdx s).foldl (fun (cs : Array Value) (p : Value × Nat) => cs.setIfInBounds (off + p.2) p.1) cells).toList = cells.toList.take (off + s) ++ (vs ++ cells.toList.drop (off + s + vs.length))
  | [], s, cells, h => by simp
  | v :: vs, s, cells, h => by
    simp only [List.zipIdx_cons, List.foldl_cons]
    rw [foldl_set off vs (s + 1) _ (by simp at h ⊢; omega)]
    simp only [Array.toList_setIfInBounds, List.length_cons]
    have hl : off + s < cells.toList.length := by simp at h ⊢; omega
    rw [show off + (s + 1) = off + s + 1 by omega, List.take_set, List.drop_set]
    rw [if_pos (by omega)]
    have e : (cells.toList.take (off + s + 1)).set (off + s) v = cells.toList.take (off + s) ++ [v] := by
      rw [List.take_succ_eq_append_getElem hl]
      have hm : (cells.toList.take (off + s)).length = off + s := by simp at hl ⊢; omega
      apply List.ext_getElem?
      intro k
      rw [List.getElem?_set, List.length_append, hm, List.getElem?_append, List.getElem?_append, hm]
      by_cases hk : off + s = k
      · subst hk; simp
      · rw [if_neg hk]
        split
        · rfl
        · have : k - (off + s) = (k - (off + s) - 1) + 1 := by omega
          rw [this]; rfl
    rw [e, show off + s + 1 + vs.length = off + s + (vs.length + 1) by omega]
    simp
theorem fill_spec {φ : Mp} {place : Nat → Option (Nat × Nat)} : ∀ (pa : List (Nat × List LV)) (pv : List (Nat × Value)) (ca ca' : List LV) (cv : Array Value),
    All2 (fun (x : Nat × List LV) (y : Nat × Value) => x.1 = y.1 ∧ All2 (LV.rel φ) x.2 y.2.cells.toList) pa pv → All2 (LV.rel φ) ca cv.toList → fillA place ca pa = some ca' → ∃ cv', Instr.fill place cv pv = some cv' ∧ All2 (LV.rel φ) ca' cv'.toList
  | [], pv, ca, ca', cv, hp, hc, h => by
    obtain rfl := hp.nil_inv
    injection h with h
    subst h
    exact ⟨cv, rfl, hc⟩
  | (i, cs) :: pa, pv, ca, ca', cv, hp, hc, h => by
    obtain ⟨⟨i', v⟩, r, rfl, ⟨hi, hv⟩, hr⟩ := hp.cons_inv
    obtain rfl : i = i' := hi
    simp only [fillA] at h
    split at h
    · cases h
    · rename_i off size hpl
      split at h
      case h_2 => cases h
      rename_i hb
      simp only [Bool.and_eq_true] at hb
      have h1 := Nat.eq_of_beq_eq_true hb.1
      have h2 := Nat.le_of_ble_eq_true hb.2
      have hl := hv.len
      have hcl := hc.len
      simp at hl hcl
      have hs := foldl_set off v.cells.toList 0 cv (by simp; omega)
      simp only [Nat.add_zero, Array.length_toList] at hs
      obtain ⟨cv', h3, h4⟩ := fill_spec pa r (ca.take off ++ (cs ++ ca.drop (off + cs.length))) ca' (v.cells.zipIdx.foldl (fun cs (c, j) => cs.setIfInBounds (off + j) c) cv) hr (by
        have e : (Array.foldl (fun cs (x : Value × Nat) => cs.setIfInBounds (off + x.2) x.1) cv v.cells.zipIdx).toList = cv.toList.take off ++ (v.cells.toList ++ cv.toList.drop (off + v.cells.size)) := by
          rw [← hs, ← Array.foldl_toList]
          simp
        show All2 (LV.rel φ) _ (Array.foldl (fun cs (x : Value × Nat) => cs.setIfInBounds (off + x.2) x.1) cv v.cells.zipIdx).toList
        rw [e, ← hl]
        exact (hc.take off).append (hv.append (hc.drop _))) h
      refine ⟨cv', ?_, h4⟩
      rw [Instr.fill]
      simp only [hpl]
      rw [if_neg (by simp; omega)]
      exact h3
noncomputable def placesL (P : Program) : List Field → Option (List (Nat × Nat))
  | [] => some []
  | f :: r => match P.info? f.type with
    | some i => match placesL P r with
      | some l => some ((f.offset, i.size) :: l)
      | none => none
    | none => none
theorem placesL_eq : ∀ {fs : List Field} {l : List (Nat × Nat)}, placesL P fs = some l → fs.mapM (fun f => (P.info? f.type).map fun i => (f.offset, i.size)) = some l
  | [], l, h => by injection h with h; subst h; simp
  | f :: r, l, h => by
    unfold placesL at h
    split at h
    case h_2 => cases h
    rename_i i hi
    split at h
    case h_2 => cases h
    rename_i l' hl'
    injection h with h
    subst h
    have := placesL_eq hl'
    simp [hi, this]
noncomputable def opBuild (P : Program) (t : TypeId) (parts : List (Nat × List LV)) : Option AV :=
  match tinfo P t with
  | some ti => match ti.desc with
    | .struct fields => match placesL P fields.toList with
      | some l => match fillA (nth l) (consts ti.zero) parts with
        | some cs => some (.e (.g cs))
        | none => none
      | none => none
    | .array _ e => match P.info? e with
      | some ie => match fillA (fun i => some (i * ie.size, ie.size)) (consts ti.zero) parts with
        | some cs => some (.e (.g cs))
        | none => none
      | none => none
    | _ => none
  | none => none
theorem opBuild_sound {φ : Mp} {t : TypeId} {pa : List (Nat × List LV)} {pv : Array (Nat × Value)} {y : AV} (hp : All2 (fun (x : Nat × List LV) (y : Nat × Value) => x.1 = y.1 ∧ All2 (LV.rel φ) x.2 y.2.cells.toList) pa pv.toList) (h : opBuild P t pa = some y) (w : World) :
    ∃ v, (Instr.build t pv).run P w = .ok v w ∧ y.rel φ v := by
  unfold opBuild at h
  split at h
  case h_2 => cases h
  rename_i ti hti
  obtain ⟨i, z, hi, hu, hz, hz2, hs, _⟩ := tinfo_spec hti
  have hcz : All2 (LV.rel φ) (consts ti.zero) z.cells.toList := by rw [hz2]; exact consts_rel φ _
  split at h
  · rename_i fields hd
    split at h
    case h_2 => cases h
    rename_i l hl
    split at h
    case h_2 => cases h
    rename_i cs hcs
    injection h with h
    subst h
    obtain ⟨cv', h1, h2⟩ := fill_spec pa pv.toList _ _ z.cells hp hcz hcs
    refine ⟨_, run_build w t pv cv' ?_, _, h2, rfl⟩
    unfold Program.built
    simp only [hi, hu, hd, hz, placesL_eq hl]
    rw [← h1]
    congr 1
    funext k
    simp [nth_eq]
  · rename_i n e hd
    split at h
    case h_2 => cases h
    rename_i ie hie
    split at h
    case h_2 => cases h
    rename_i cs hcs
    injection h with h
    subst h
    obtain ⟨cv', h1, h2⟩ := fill_spec pa pv.toList _ _ z.cells hp hcz hcs
    refine ⟨_, run_build w t pv cv' ?_, _, h2, rfl⟩
    unfold Program.built
    simp only [hi, hu, hd, hz, hie, h1]
  · cases h
/-- a row of zeros -/
noncomputable def repL {α : Type} (l : List α) : Nat → List α
  | 0 => []
  | n + 1 => l ++ repL l n
theorem repL_length {α : Type} (l : List α) : ∀ n, (repL l n).length = n * l.length
  | 0 => by simp [repL]
  | n + 1 => by simp [repL, repL_length l n, Nat.add_mul]; omega
theorem repL_get {α : Type} (l : List α) : ∀ (n i : Nat), i < n * l.length → (repL l n)[i]? = l[i % l.length]?
  | 0, i, h => by simp at h
  | n + 1, i, h => by
    unfold repL
    rw [List.getElem?_append]
    split
    · rename_i hi; rw [Nat.mod_eq_of_lt hi]
    · rename_i hi
      have h' : i < n * l.length + l.length := by rw [Nat.succ_mul] at h; exact h
      rw [repL_get l n _ (by omega)]
      congr 1
      exact (Nat.mod_eq_sub_mod (by omega)).symm
theorem madeCells_rep (z : Array Value) (n : Nat) : (madeCells z (n * z.size)).toList = repL z.toList n := by
  apply List.ext_getElem?
  intro i
  by_cases hi : i < n * z.size
  · rw [repL_get _ _ _ (by simpa using hi)]
    have hz : i % z.size < z.size := Nat.mod_lt _ (by rcases Nat.eq_zero_or_pos z.size with h | h; · rw [h] at hi; simp at hi
                                                      · exact h)
    simp only [madeCells, Array.toList_map, List.getElem?_map]
    have hg : z[i % z.size]! = z[i % z.size] := by simp [hz]
    simp [hi, Array.getElem?_eq_getElem hz, hg]
  · rw [List.getElem?_eq_none (by simp [madeCells]; omega), List.getElem?_eq_none (by rw [repL_length]; simp; omega)]
noncomputable def opBuildSlice (P : Program) (hp : Hp) (nx : Nat) (t : TypeId) (len : Nat) (parts : List (Nat × List LV)) : Option (AV × Hp × Nat) :=
  match P.underlying t with
  | some (.slice e) => match tinfo P e with
    | some ti => match Nat.beq ti.zero.length ti.size && Nat.ble (len * ti.size) 65536 && Nat.blt 0 ti.size with
      | true => match fillA (fun i => some (i * ti.size, ti.size)) (consts (repL ti.zero len)) parts with
        | some cs => some (.e (.l (.s nx 0 len len)), ⟨nx, cs, e, 0⟩ :: hp, nx + 1)
        | none => none
      | false => none
    | none => none
  | _ => none
theorem opBuildSlice_sound {lo : Nat} {φ : Mp} {hp hp' : Hp} {nx nx' : Nat} {w : World} (hR : R φ hp nx w) {t : TypeId} {len : Nat} {pa : List (Nat × List LV)} {pv : Array (Nat × Value)} {y : AV} (hp0 : All2 (fun (x : Nat × List LV) (y : Nat × Value) => x.1 = y.1 ∧ All2 (LV.rel φ) x.2 y.2.cells.toList) pa pv.toList)
    (h : opBuildSlice P hp nx t len pa = some (y, hp', nx')) (hf : Fresh φ nx nx') : ∃ v w', (Instr.buildSlice t len pv).run P w = .ok v w' ∧ Out lo φ hp nx w y hp' nx' v w' := by
  unfold opBuildSlice at h
  split at h
  case h_2 => cases h
  rename_i e hu
  split at h
  case h_2 => cases h
  rename_i ti hti
  obtain ⟨i, z, hi, hue, hz, hz2, hs, _⟩ := tinfo_spec hti
  split at h
  case h_2 => cases h
  rename_i hb
  simp only [Bool.and_eq_true] at hb
  have b1 := Nat.eq_of_beq_eq_true hb.1.1
  have b2 := Nat.le_of_ble_eq_true hb.1.2
  have b3 : 0 < ti.size := Nat.le_of_ble_eq_true hb.2
  split at h
  case h_2 => cases h
  rename_i cs hcs
  simp only [Option.some.injEq, Prod.mk.injEq] at h
  obtain ⟨rfl, rfl, rfl⟩ := h
  have hzs : z.cells.size = i.size := by rw [hs, ← b1, ← hz2]; simp
  have hrow : (madeCells z.cells (len * i.size)).toList = repL ti.zero len := by rw [← hzs, madeCells_rep, hz2]
  obtain ⟨cv', h1, h2⟩ := fill_spec pa pv.toList (consts (repL ti.zero len)) cs (madeCells z.cells (len * i.size)) hp0 (by rw [hrow]; exact consts_rel φ _) hcs
  refine ⟨_, _, ?_, new_slice_out hR hf e h2 len len⟩
  have hlim : ¬ (16777216 < len * i.size) := by rw [hs]; omega
  rw [← hs] at h1
  by_cases h0 : len * i.size = 0
  · have hl0 : len = 0 := by rcases Nat.mul_eq_zero.1 h0 with h | h <;> omega
    subst hl0
    simp only [Nat.zero_mul] at h1
    have hm : madeCells z.cells 0 = #[] := by simp [madeCells]
    rw [hm] at h1
    have hq : (Array.map (fun _ : Nat => (default : Value)) (Array.range 0)) = #[] := by simp
    simp [Instr.buildSlice, run_underlying hu, sizeOf, typeInfo, hi, newRow]
    rw [hq, h1]
    rfl
  · simp [Instr.buildSlice, run_underlying hu, sizeOf, typeInfo, hi, hlim, h0, zeroValue, hz, newRow]
    unfold madeCells at h1
    simp [h1]
/-- the address of a field -/
noncomputable def opFieldAddr (P : Program) (s : TypeId) (x : AV) (f : Nat) : Option AV :=
  match x with
  | .e (.l (.p b off)) => match P.underlying s with
    | some (.struct fields) => match nth fields.toList f with
      | some fd => match P.info? fd.type with
        | some i => match Nat.beq i.size 0 with
          | false => some (.e (.l (.p b (off + fd.offset))))
          | true => none
        | none => none
      | none => none
    | _ => none
  | _ => none
theorem opFieldAddr_sound {φ : Mp} {s : TypeId} {x y : AV} {f : Nat} (h : opFieldAddr P s x f = some y) {v : Value} (hx : x.rel φ v) (w : World) : ∃ v', (Instr.fieldAt s v f).run P w = .ok v' w ∧ y.rel φ v' := by
  unfold opFieldAddr at h
  split at h
  case h_2 => cases h
  rename_i b off
  obtain ⟨g, κ, hg, rfl⟩ := rel_p hx
  split at h
  case h_2 => cases h
  rename_i fields hu
  split at h
  case h_2 => cases h
  rename_i fd hfd
  split at h
  case h_2 => cases h
  rename_i i hi
  split at h
  case h_2 => cases h
  rename_i hb
  injection h with h
  subst h
  have hne : i.size ≠ 0 := fun e => by rw [e] at hb; cases hb
  have hfd' : fields[f]? = some fd := by rw [← nth_get hfd]; simp
  refine ⟨.pointer (some ⟨g, off + fd.offset, none⟩), ?_, g, κ, hg, rfl⟩
  simp [Instr.fieldAt, run_underlying hu, hfd', Instr.sureAddr, fieldPlace, sizeOf, typeInfo, hi, hne, Addr.add_lit]
/-- a part of a struct -/
noncomputable def opField (P : Program) (s : TypeId) (x : AV) (f : Nat) : Option AV :=
  match x with
  | .e (.g cs) => match P.underlying s with
    | some (.struct fields) => match nth fields.toList f with
      | some fd => match tinfo P fd.type with
        | some ti => match aggD ti.desc with
          | true => match Nat.ble (fd.offset + ti.size) cs.length with
            | true => some (.e (.g ((cs.drop fd.offset).take ti.size)))
            | false => none
          | false => match nth cs fd.offset with
            | some y => some (.e (.l y))
            | none => none
        | none => none
      | none => none
    | _ => none
  | _ => none
theorem opField_sound {φ : Mp} {s : TypeId} {x y : AV} {f : Nat} (h : opField P s x f = some y) {v : Value} (hx : x.rel φ v) (w : World) : ∃ v', (Instr.field s v f).run P w = .ok v' w ∧ y.rel φ v' := by
  unfold opField at h
  split at h
  case h_2 => cases h
  rename_i cs
  obtain ⟨vs, hvs, rfl⟩ : ∃ vs, All2 (LV.rel φ) cs vs ∧ v = .agg vs.toArray := hx
  split at h
  case h_2 => cases h
  rename_i fields hu
  split at h
  case h_2 => cases h
  rename_i fd hfd
  split at h
  case h_2 => cases h
  rename_i ti hti
  obtain ⟨i, z, hi, hue, hz, hz2, hs, _⟩ := tinfo_spec hti
  have hfd' : fields[f]? = some fd := by rw [← nth_get hfd]; simp
  split at h
  · rename_i hd
    split at h
    case h_2 => cases h
    rename_i hle
    injection h with h
    subst h
    refine ⟨.agg ((vs.drop fd.offset).take ti.size).toArray, ?_, _, (hvs.drop _).take _, rfl⟩
    simp [Instr.field, run_underlying hu, hfd', asAgg, part, run_isAgg hue, hd, sizeOf, typeInfo, hi, hs, List.extract_eq_take_drop]
  · rename_i hd
    split at h
    case h_2 => cases h
    rename_i y0 hy
    injection h with h
    subst h
    obtain ⟨v', hv', hr⟩ := hvs.get (nth_get hy)
    refine ⟨v', ?_, hr⟩
    simp [Instr.field, run_underlying hu, hfd', asAgg, part, run_isAgg hue, hd, hv']
/-- a number that is not negative -/
noncomputable def natOf : AV → Option Nat
  | .e (.l (.c (.int _ (.ofNat n)))) => some n
  | _ => none
theorem natOf_spec {φ : Mp} {x : AV} {n : Nat} (h : natOf x = some n) {v : Value} (hx : x.rel φ v) : ∃ k, v = .int k (n : Int) := by
  unfold natOf at h
  split at h
  · rename_i k m
    injection h with h
    subst h
    exact ⟨k, hx⟩
  · cases h
/-- the address of an element -/
noncomputable def opIndexAddr (P : Program) (t : TypeId) (x ix : AV) : Option AV :=
  match natOf ix with
  | some n => match P.underlying t, x with
    | some (.slice e), .e (.l (.s b off len _)) => match P.info? e, Nat.blt n len with
      | some i, true => some (.e (.l (.p b (off + n * i.size))))
      | _, _ => none
    | some (.slice e), .e (.l (.u b off len _)) => match P.info? e, Nat.blt n len with
      | some i, true => some (.e (.l (.p b (off + n * i.size))))
      | _, _ => none
    | some (.array len e), .e (.l (.p b off)) => match P.info? e, Nat.blt n len with
      | some i, true => some (.e (.l (.p b (off + n * i.size))))
      | _, _ => none
    | _, _ => none
  | none => none
theorem opIndexAddr_sound {φ : Mp} {t : TypeId} {x ix y : AV} (h : opIndexAddr P t x ix = some y) {v u : Value} (hx : x.rel φ v) (hi : ix.rel φ u) (w : World) : ∃ v', (Instr.indexAt t v u).run P w = .ok v' w ∧ y.rel φ v' := by
  unfold opIndexAddr at h
  split at h
  case h_2 => cases h
  rename_i n hn
  obtain ⟨k, rfl⟩ := natOf_spec hn hi
  split at h
  · rename_i e b off len cap hu
    obtain ⟨g, κ, hg, rfl⟩ : ∃ g κ, φ b = some (g, κ) ∧ v = .slice (some ⟨g, off, none⟩) len cap := hx
    split at h
    case h_2 => cases h
    rename_i i hi2 hlt
    have hlt : n < len := Nat.le_of_ble_eq_true hlt
    injection h with h
    subst h
    refine ⟨.pointer (some ⟨g, off + n * i.size, none⟩), ?_, g, κ, hg, rfl⟩
    simp [Instr.indexAt, asIntOf, run_underlying hu, sizeOf, typeInfo, hi2, hlt, Addr.add_lit]
  · rename_i e b off len cap hu
    obtain ⟨g, κ, hg, _, rfl⟩ : ∃ g κ, φ b = some (g, κ) ∧ len + cap ≤ κ ∧ v = .slice (some ⟨g, off, none⟩) len (κ - cap) := hx
    split at h
    case h_2 => cases h
    rename_i i hi2 hlt
    have hlt : n < len := Nat.le_of_ble_eq_true hlt
    injection h with h
    subst h
    refine ⟨.pointer (some ⟨g, off + n * i.size, none⟩), ?_, g, κ, hg, rfl⟩
    simp [Instr.indexAt, asIntOf, run_underlying hu, sizeOf, typeInfo, hi2, hlt, Addr.add_lit]
  · rename_i len e b off hu
    obtain ⟨g, κ, hg, rfl⟩ := rel_p hx
    split at h
    case h_2 => cases h
    rename_i i hi2 hlt
    have hlt : n < len := Nat.le_of_ble_eq_true hlt
    injection h with h
    subst h
    refine ⟨.pointer (some ⟨g, off + n * i.size, none⟩), ?_, g, κ, hg, rfl⟩
    simp [Instr.indexAt, asIntOf, run_underlying hu, sizeOf, typeInfo, hi2, hlt, Addr.add_lit, Instr.sureAddr]
  · cases h
end
end Go.Proofs.YthiblfkmcdnalaaGreat.Ae

namespace Go.Proofs.YthiblfkmcdnalaaGreat.Ae
open Go.RowKit

section
variable {P : Program}
/-- what a run of a pure operation yields -/
noncomputable def runPure {α : Type} (P : Program) : Sem α → Option α
  | .pure a => some a
  | .program k => runPure P (k P)
  | _ => none
theorem runPure_spec {α : Type} : ∀ (s : Sem α) {a : α}, runPure P s = some a → ∀ w, s.run P w = .ok a w
  | .pure a, b, h, w => by injection h with h; subst h; rfl
  | .program k, b, h, w => by
    have := runPure_spec (k P) h w
    simpa [Sem.run] using this
  | .load .., _, h, _ | .store .., _, h, _ | .new .., _, h, _ | .shape .., _, h, _ | .freeze .., _, h, _ | .frozen .., _, h, _ | .getObj .., _, h, _ | .setObj .., _, h, _ | .choose .., _, h, _ | .sys .., _, h, _ | .mark .., _, h, _ | .halt _, _, h, _ => by cases h
/-- an abstract value that is known to the value -/
noncomputable def LV.val : LV → Option Value
  | .c v => some v
  | _ => none
noncomputable def valsL : List LV → Option (List Value)
  | [] => some []
  | .c v :: r => match valsL r with
    | some l => some (v :: l)
    | none => none
  | _ :: _ => none
theorem valsL_spec {φ : Mp} : ∀ {xs : List LV} {l : List Value} {vs : List Value}, valsL xs = some l → All2 (LV.rel φ) xs vs → vs = l
  | [], l, vs, h, hr => by injection h with h; subst h; exact hr.nil_inv
  | .c v :: r, l, vs, h, hr => by
    obtain ⟨v', vs', rfl, h1, h2⟩ := hr.cons_inv
    obtain rfl : v' = v := h1
    unfold valsL at h
    split at h
    · rename_i l' hl'
      injection h with h
      subst h
      rw [valsL_spec hl' h2]
    · cases h
  | .p .. :: _, _, _, h, _ | .s .. :: _, _, _, h, _ | .u .. :: _, _, _, h, _ | .f .. :: _, _, _, h, _ | .z :: _, _, _, h, _ => by cases h
noncomputable def AV.val : AV → Option Value
  | .e (.l (.c v)) => some v
  | .e (.g xs) => match valsL xs with
    | some l => some (.agg l.toArray)
    | none => none
  | _ => none
theorem AV.val_spec {φ : Mp} {x : AV} {u v : Value} (h : x.val = some u) (hr : x.rel φ v) : v = u := by
  unfold AV.val at h
  split at h
  · injection h with h
    subst h
    exact hr
  · rename_i xs
    split at h
    · rename_i l hl
      injection h with h
      subst h
      obtain ⟨vs, h1, rfl⟩ : ∃ vs, All2 (LV.rel φ) xs vs ∧ v = .agg vs.toArray := hr
      rw [valsL_spec hl h1]
    · cases h
  · cases h
/-- len -/
noncomputable def opLen (x : AV) : Option AV :=
  match x with
  | .e (.l (.s _ _ len _)) => some (.e (.l (.c (.int .i64 (.ofNat len)))))
  | .e (.l (.u _ _ len _)) => some (.e (.l (.c (.int .i64 (.ofNat len)))))
  | .e (.l (.c (.slice _ len _))) => some (.e (.l (.c (.int .i64 (.ofNat len)))))
  | .e (.l .z) => some (.e (.l (.c (.int .i64 (.ofNat 0)))))
  | _ => none
theorem opLen_sound {φ : Mp} {x y : AV} (h : opLen x = some y) {t ty e : TypeId} (hu : P.underlying t = some (.slice e)) {v : Value} (hx : x.rel φ v) (w : World) : ∃ v', (Builtin.len_ #[t] ty #[v]).run P w = .ok v' w ∧ y.rel φ v' := by
  unfold opLen at h
  split at h
  · rename_i b off len cap
    obtain ⟨g, κ, hg, rfl⟩ : ∃ g κ, φ b = some (g, κ) ∧ v = .slice (some ⟨g, off, none⟩) len cap := hx
    injection h with h
    subst h
    exact ⟨.int .i64 (.ofNat len), by simp [Builtin.len_, run_underlying hu, goInt], rfl⟩
  · rename_i b off len cap
    obtain ⟨g, κ, hg, _, rfl⟩ : ∃ g κ, φ b = some (g, κ) ∧ len + cap ≤ κ ∧ v = .slice (some ⟨g, off, none⟩) len (κ - cap) := hx
    injection h with h
    subst h
    exact ⟨.int .i64 (.ofNat len), by simp [Builtin.len_, run_underlying hu, goInt], rfl⟩
  · rename_i a len cap
    obtain rfl : v = .slice a len cap := hx
    injection h with h
    subst h
    exact ⟨.int .i64 (.ofNat len), by simp [Builtin.len_, run_underlying hu, goInt], rfl⟩
  · obtain ⟨a, cap, rfl⟩ : ∃ a cap, v = .slice (some a) 0 cap := hx
    injection h with h
    subst h
    exact ⟨.int .i64 (.ofNat 0), by simp [Builtin.len_, run_underlying hu, goInt], rfl⟩
  · cases h
/-- the bounds of a slice of a slice, of len elements, with room for cap (none: at least len, not known how many) -/
noncomputable def optNat : Option AV → Nat → Option Nat
  | none, d => some d
  | some x, _ => natOf x
noncomputable def hiNat : Option AV → Option AV → Nat → Option Nat
  | none, some _, _ => none
  | hi, _, d => optNat hi d
noncomputable def opSlice (P : Program) (t : TypeId) (x : AV) (lo hi mx : Option AV) : Option AV :=
  match P.underlying t, x with
  | some (.slice e), .e (.l (.s b off len cap)) => match P.info? e, optNat lo 0, hiNat hi mx len, optNat mx cap with
    | some i, some l, some h, some m => match Nat.ble m cap && Nat.ble h m && Nat.ble l h with
      | true => some (.e (.l (.s b (match Nat.beq m l with | true => off | false => off + l * i.size) (h - l) (m - l))))
      | false => none
    | _, _, _, _ => none
  | some (.slice e), .e (.l (.u b off len d)) => match P.info? e, optNat lo 0, hiNat hi mx len with
    | some i, some l, some h => match mx with
      | some y => match natOf y with
        | some m => match Nat.ble m len && Nat.ble h m && Nat.ble l h with
          | true => some (.e (.l (.s b (match Nat.beq m l with | true => off | false => off + l * i.size) (h - l) (m - l))))
          | false => none
        | none => none
      | none => match Nat.ble h len && Nat.ble l h && (Nat.blt l len || Nat.beq l 0) with
        | true => some (.e (.l (.u b (off + l * i.size) (h - l) (d + l))))
        | false => match Nat.ble h len && Nat.beq l h with
          | true => some (.e (.l .z))
          | false => none
    | _, _, _ => none
  | some (.array n e), .e (.l (.p b off)) => match P.info? e, optNat lo 0, hiNat hi mx n, optNat mx n with
    | some i, some l, some h, some m => match Nat.ble m n && Nat.ble h m && Nat.ble l h with
      | true => some (.e (.l (.s b (match Nat.beq m l with | true => off | false => off + l * i.size) (h - l) (m - l))))
      | false => none
    | _, _, _, _ => none
  | some (.slice e), .e (.l .z) => match P.info? e, optNat lo 0, hiNat hi mx 0, optNat mx 0 with
    | some _, some 0, some 0, some 0 => some (.e (.l .z))
    | _, _, _, _ => none
  | _, _ => none
/-- two optional values stand for each other -/
noncomputable def OptRel (φ : Mp) : Option AV → Option Value → Prop
  | none, none => True
  | some x, some v => x.rel φ v
  | _, _ => False
theorem run_bound {x : Value} {n y : Nat} {k : IntKind} (hx : x = .int k (n : Int)) (h : n ≤ y) (code : BoundsCode) (w : World) : (Instr.sliceBound x y code).run P w = .ok n w := by
  subst hx
  simp [Instr.sliceBound, asIntOf, h]
theorem run_bounds {φ : Mp} {lo hi mx : Option AV} {lo' hi' mx' : Option Value} (h1 : OptRel φ lo lo') (h2 : OptRel φ hi hi') (h3 : OptRel φ mx mx') {isS : Bool} {len cap l h m : Nat} (e1 : optNat lo 0 = some l)
    (e2 : hiNat hi mx len = some h) (e3 : optNat mx cap = some m) (b1 : m ≤ cap) (b2 : h ≤ m) (b3 : l ≤ h) (w : World) :
    (Instr.sliceBounds isS len cap lo' hi' mx').run P w = .ok (l, h, m) w := by
  have key : ∀ {o : Option AV} {o' : Option Value} {d n : Nat}, OptRel φ o o' → optNat o d = some n → (o = none ∧ o' = none ∧ n = d) ∨ ∃ k, o' = some (.int k (n : Int)) ∧ o ≠ none := by
    intro o o' d n hr he
    cases o with
    | none =>
      cases o' with
      | none => injection he with he; exact .inl ⟨rfl, rfl, he.symm⟩
      | some v => exact hr.elim
    | some x =>
      cases o' with
      | none => exact hr.elim
      | some v =>
        obtain ⟨k, hk⟩ := natOf_spec he hr
        exact .inr ⟨k, by rw [hk], by simp⟩
  have k1 := key h1 e1
  have k3 := key h3 e3
  have k2 : optNat hi len = some h ∧ (hi = none → mx = none) := by
    cases hi with
    | none =>
      cases mx with
      | none => exact ⟨e2, fun _ => rfl⟩
      | some _ => cases e2
    | some _ => exact ⟨e2, fun e => by cases e⟩
  have k2' := key h2 k2.1
  rcases k3 with ⟨hm0, rfl, rfl⟩ | ⟨k3, rfl, hm0⟩
  · rcases k2' with ⟨_, rfl, rfl⟩ | ⟨k2, rfl, _⟩ <;> rcases k1 with ⟨_, rfl, rfl⟩ | ⟨k1, rfl, _⟩
    all_goals simp [Instr.sliceBounds, Instr.sliceBound, asIntOf, b1, b2, b3]
  · rcases k2' with ⟨hh0, rfl, rfl⟩ | ⟨k2', rfl, _⟩
    · exact absurd (k2.2 hh0) hm0
    · rcases k1 with ⟨_, rfl, rfl⟩ | ⟨k1, rfl, _⟩
      all_goals simp [Instr.sliceBounds, Instr.sliceBound, asIntOf, b1, b2, b3]
theorem opSlice_sound {φ : Mp} {t : TypeId} {x y : AV} {lo hi mx : Option AV} (h : opSlice P t x lo hi mx = some y) {v : Value} {lo' hi' mx' : Option Value} (hx : x.rel φ v) (h1 : OptRel φ lo lo') (h2 : OptRel φ hi hi') (h3 : OptRel φ mx mx') (w : World) :
    ∃ v', (Instr.sliceAt t v lo' hi' mx').run P w = .ok v' w ∧ y.rel φ v' := by
  unfold opSlice at h
  split at h
  · rename_i e b off len cap hu
    obtain ⟨g, κ, hg, rfl⟩ : ∃ g κ, φ b = some (g, κ) ∧ v = .slice (some ⟨g, off, none⟩) len cap := hx
    split at h
    case h_2 => cases h
    rename_i i l h0 m hi2 e1 e2 e3
    split at h
    case h_2 => cases h
    rename_i hb
    simp only [Bool.and_eq_true] at hb
    have b1 := Nat.le_of_ble_eq_true hb.1.1
    have b2 := Nat.le_of_ble_eq_true hb.1.2
    have b3 := Nat.le_of_ble_eq_true hb.2
    injection h with h
    subst h
    have hbs := run_bounds (P := P) h1 h2 h3 (isS := true) e1 e2 e3 b1 b2 b3 w
    by_cases hml : m = l
    · refine ⟨.slice (some ⟨g, off, none⟩) (h0 - l) (m - l), ?_, g, κ, hg, ?_⟩
      · simp [Instr.sliceAt, Instr.slice, run_underlying hu, hbs, sizeOf, typeInfo, hi2, hml]
      · rw [show Nat.beq m l = true from by rw [hml]; exact Nat.beq_refl l]
    · refine ⟨.slice (some ⟨g, off + l * i.size, none⟩) (h0 - l) (m - l), ?_, g, κ, hg, ?_⟩
      · simp [Instr.sliceAt, Instr.slice, run_underlying hu, hbs, sizeOf, typeInfo, hi2, hml, Addr.add_lit]
      · rw [show Nat.beq m l = false from by cases hq : Nat.beq m l with | false => rfl | true => exact absurd (Nat.eq_of_beq_eq_true hq) hml]
  · rename_i e b off len d hu
    obtain ⟨g, κ, hg, hle, rfl⟩ : ∃ g κ, φ b = some (g, κ) ∧ len + d ≤ κ ∧ v = .slice (some ⟨g, off, none⟩) len (κ - d) := hx
    split at h
    case h_2 => cases h
    rename_i i l h0 hi2 e1 e2
    split at h
    · rename_i y0
      split at h
      case h_2 => cases h
      rename_i m hm
      split at h
      case h_2 => cases h
      rename_i hb
      simp only [Bool.and_eq_true] at hb
      have b1 := Nat.le_of_ble_eq_true hb.1.1
      have b2 := Nat.le_of_ble_eq_true hb.1.2
      have b3 := Nat.le_of_ble_eq_true hb.2
      injection h with h
      subst h
      have hbs := run_bounds (P := P) h1 h2 h3 (isS := true) (cap := κ - d) e1 e2 hm (by omega) b2 b3 w
      by_cases hml : m = l
      · refine ⟨.slice (some ⟨g, off, none⟩) (h0 - l) (m - l), ?_, g, κ, hg, ?_⟩
        · simp [Instr.sliceAt, Instr.slice, run_underlying hu, hbs, sizeOf, typeInfo, hi2, hml]
        · rw [show Nat.beq m l = true from by rw [hml]; exact Nat.beq_refl l]
      · refine ⟨.slice (some ⟨g, off + l * i.size, none⟩) (h0 - l) (m - l), ?_, g, κ, hg, ?_⟩
        · simp [Instr.sliceAt, Instr.slice, run_underlying hu, hbs, sizeOf, typeInfo, hi2, hml, Addr.add_lit]
        · rw [show Nat.beq m l = false from by cases hq : Nat.beq m l with | false => rfl | true => exact absurd (Nat.eq_of_beq_eq_true hq) hml]
    · split at h
      case h_2 =>
        split at h
        case h_2 => cases h
        rename_i hb
        simp only [Bool.and_eq_true] at hb
        have b1 := Nat.le_of_ble_eq_true hb.1
        have b2 := Nat.eq_of_beq_eq_true hb.2
        subst b2
        injection h with h
        subst h
        have hbs := run_bounds (P := P) h1 h2 h3 (isS := true) (cap := κ - d) e1 e2 rfl (Nat.le_refl _) (by omega) (Nat.le_refl _) w
        by_cases hml : κ - d = l
        · rw [hml] at hbs
          exact ⟨.slice (some ⟨g, off, none⟩) 0 0, by simp [Instr.sliceAt, Instr.slice, run_underlying hu, hbs, sizeOf, typeInfo, hi2, hml], _, _, rfl⟩
        · exact ⟨.slice (some ⟨g, off + l * i.size, none⟩) 0 (κ - d - l), by simp [Instr.sliceAt, Instr.slice, run_underlying hu, hbs, sizeOf, typeInfo, hi2, hml, Addr.add_lit], _, _, rfl⟩
      rename_i hb
      simp only [Bool.and_eq_true, Bool.or_eq_true] at hb
      have b1 := Nat.le_of_ble_eq_true hb.1.1
      have b3 := Nat.le_of_ble_eq_true hb.1.2
      have b4 : l < len ∨ l = 0 := hb.2.imp Nat.le_of_ble_eq_true Nat.eq_of_beq_eq_true
      injection h with h
      subst h
      have hbs := run_bounds (P := P) h1 h2 h3 (isS := true) (cap := κ - d) e1 e2 rfl (Nat.le_refl _) (by omega) b3 w
      refine ⟨.slice (some ⟨g, off + l * i.size, none⟩) (h0 - l) (κ - d - l), ?_, g, κ, hg, by omega, by rw [Nat.sub_sub]⟩
      by_cases hml : κ - d = l
      · obtain rfl : l = 0 := by omega
        rw [hml] at hbs
        simp [Instr.sliceAt, Instr.slice, run_underlying hu, hbs, sizeOf, typeInfo, hi2, hml]
      · simp [Instr.sliceAt, Instr.slice, run_underlying hu, hbs, sizeOf, typeInfo, hi2, hml, Addr.add_lit]
  · rename_i n e b off hu
    obtain ⟨g, κ, hg, rfl⟩ := rel_p hx
    split at h
    case h_2 => cases h
    rename_i i l h0 m hi2 e1 e2 e3
    split at h
    case h_2 => cases h
    rename_i hb
    simp only [Bool.and_eq_true] at hb
    have b1 := Nat.le_of_ble_eq_true hb.1.1
    have b2 := Nat.le_of_ble_eq_true hb.1.2
    have b3 := Nat.le_of_ble_eq_true hb.2
    injection h with h
    subst h
    have hbs := run_bounds (P := P) h1 h2 h3 (isS := false) e1 e2 e3 b1 b2 b3 w
    by_cases hml : m = l
    · refine ⟨.slice (some ⟨g, off, none⟩) (h0 - l) (m - l), ?_, g, κ, hg, ?_⟩
      · simp [Instr.sliceAt, Instr.sureAddr, run_underlying hu, hbs, sizeOf, typeInfo, hi2, hml]
      · rw [show Nat.beq m l = true from by rw [hml]; exact Nat.beq_refl l]
    · refine ⟨.slice (some ⟨g, off + l * i.size, none⟩) (h0 - l) (m - l), ?_, g, κ, hg, ?_⟩
      · simp [Instr.sliceAt, Instr.sureAddr, run_underlying hu, hbs, sizeOf, typeInfo, hi2, hml, Addr.add_lit]
      · rw [show Nat.beq m l = false from by cases hq : Nat.beq m l with | false => rfl | true => exact absurd (Nat.eq_of_beq_eq_true hq) hml]
  · rename_i e hu
    obtain ⟨a, cap, rfl⟩ : ∃ a cap, v = .slice (some a) 0 cap := hx
    split at h
    case h_2 => cases h
    rename_i i hi2 e1 e2 e3
    injection h with h
    subst h
    have key : ∀ {m}, optNat mx cap = some m → m ≤ cap → ∃ v', (Instr.sliceAt t (.slice (some a) 0 cap) lo' hi' mx').run P w = .ok v' w ∧ AV.rel φ (.e (.l .z)) v' := fun {m} hm hle => by
      have hbs := run_bounds (P := P) h1 h2 h3 (isS := true) (cap := cap) e1 e2 hm hle (Nat.zero_le _) (Nat.le_refl _) w
      refine ⟨.slice (some a) 0 m, ?_, _, _, rfl⟩
      by_cases hml : m = 0
      · simp [Instr.sliceAt, Instr.slice, run_underlying hu, hbs, sizeOf, typeInfo, hi2, hml]
      · simp [Instr.sliceAt, Instr.slice, run_underlying hu, hbs, sizeOf, typeInfo, hi2, hml, Addr.add]
    cases mx with
    | none => exact key rfl (Nat.le_refl _)
    | some y => exact key e3 (Nat.zero_le _)
  · cases h
end
end Go.Proofs.YthiblfkmcdnalaaGreat.Ae

namespace Go.Proofs.YthiblfkmcdnalaaGreat.Ae
open Go.RowKit

section
variable {P : Program}
/-- what is appended: how many elements, and their cells -/
noncomputable def srcA (hp : Hp) (sz : Nat) : AV → Option (Nat × List LV)
  | .e (.l .z) => some (0, [])
  | .e (.l (.c (.slice none 0 _))) => some (0, [])
  | .e (.l (.s b off n _)) => match look hp b with
    | some k => match Nat.ble (off + n * sz) k.cs.length with
      | true => some (n, (k.cs.drop off).take (n * sz))
      | false => none
    | none => none
  | .e (.l (.u b off n _)) => match look hp b with
    | some k => match Nat.ble (off + n * sz) k.cs.length with
      | true => some (n, (k.cs.drop off).take (n * sz))
      | false => none
    | none => none
  | _ => none
/-- the cells of a part of a block, as a list in the world -/
theorem part_cells {φ : Mp} {hp : Hp} {nx : Nat} {w : World} (hR : R φ hp nx w) {b off n : Nat} {k : Blk} (hk : look hp b = some k) {g κ : Nat} (hg : φ b = some (g, κ)) (hle : off + n ≤ k.cs.length) :
    ∃ vs, All2 (LV.rel φ) ((k.cs.drop off).take n) vs ∧ vs.length = n ∧ ∀ j v, vs[j]? = some v → w.cell? ((⟨g, off, none⟩ : Addr).add j) = some v := by
  obtain ⟨hk1, hk2, arr, hw, hc, _, _⟩ := hR.block hk hg
  have hcl := hc.len
  rw [List.length_take] at hcl
  refine ⟨_, hc.part off n hle, by simp at hcl ⊢; omega, fun j v hv => ?_⟩
  rw [Addr.add_lit, cell_list hw]
  rw [List.getElem?_take] at hv
  split at hv
  · rwa [List.getElem?_drop] at hv
  · cases hv
theorem srcA_spec {φ : Mp} {hp : Hp} {nx : Nat} {w : World} (hR : R φ hp nx w) {sz : Nat} {x : AV} {n : Nat} {cs : List LV} (h : srcA hp sz x = some (n, cs)) {v : Value} (hx : x.rel φ v) (h1 : cs.all LV.one = true) {tx e : TypeId} (hk : P.underlying tx = some (.slice e)) :
    ∃ news, All2 (LV.rel φ) cs news ∧ Src P sz tx v n news w := by
  unfold srcA at h
  split at h
  · obtain ⟨a, cap, rfl⟩ : ∃ a cap, v = .slice (some a) 0 cap := hx
    simp only [Option.some.injEq, Prod.mk.injEq] at h
    obtain ⟨rfl, rfl⟩ := h
    exact ⟨[], .nil, Src.ofSlice w hk a 0 cap [] (by simp) (fun j u hu => by simp at hu) (fun u hu => by cases hu)⟩
  · rename_i cap
    obtain rfl : v = .slice none 0 cap := hx
    simp only [Option.some.injEq, Prod.mk.injEq] at h
    obtain ⟨rfl, rfl⟩ := h
    exact ⟨[], .nil, Src.ofNil w hk cap⟩
  · rename_i b off m cap
    obtain ⟨g, κ, hg, rfl⟩ : ∃ g κ, φ b = some (g, κ) ∧ v = .slice (some ⟨g, off, none⟩) m cap := hx
    split at h
    case h_2 => cases h
    rename_i k hk2
    split at h
    case h_2 => cases h
    rename_i hle
    have hle := Nat.le_of_ble_eq_true hle
    simp only [Option.some.injEq, Prod.mk.injEq] at h
    obtain ⟨rfl, rfl⟩ := h
    obtain ⟨vs, a1, a2, a3⟩ := part_cells hR hk2 hg hle
    exact ⟨vs, a1, Src.ofSlice w hk ⟨g, off, none⟩ m cap vs a2 a3 (all_one a1 h1)⟩
  · rename_i b off m cap
    obtain ⟨g, κ, hg, _, rfl⟩ : ∃ g κ, φ b = some (g, κ) ∧ m + cap ≤ κ ∧ v = .slice (some ⟨g, off, none⟩) m (κ - cap) := hx
    split at h
    case h_2 => cases h
    rename_i k hk2
    split at h
    case h_2 => cases h
    rename_i hle
    have hle := Nat.le_of_ble_eq_true hle
    simp only [Option.some.injEq, Prod.mk.injEq] at h
    obtain ⟨rfl, rfl⟩ := h
    obtain ⟨vs, a1, a2, a3⟩ := part_cells hR hk2 hg hle
    exact ⟨vs, a1, Src.ofSlice w hk ⟨g, off, none⟩ m (κ - cap) vs a2 a3 (all_one a1 h1)⟩
  · cases h
/-- a row of unknown capacity is made -/
theorem grow_out {lo : Nat} {φ : Mp} {hp : Hp} {nx : Nat} {w : World} (hR : R φ hp nx w) (hf : Fresh φ nx (nx + 1)) {t tx ty e : TypeId} {i : TypeInfo} {z : Value} (ht : P.underlying t = some (.slice e)) (hi : P.info? e = some i) (hz : i.zero = some z) (hzs : z.cells.size = i.size) (hsz : i.size ≠ 0)
    {base : Option Addr} {sLen sCap : Nat} {olds : List Value} (hold : (Builtin.firstCells i.size sLen (.slice base sLen sCap)).run P w.drew = .ok olds.toArray w.drew) (hol : olds.length = sLen * i.size) {oc nc : List LV} (ho : All2 (LV.rel φ) oc olds)
    {x : Value} {n : Nat} {news : List Value} (hs : Src P i.size tx x n news w) (hn : All2 (LV.rel φ) nc news) (hg : sCap < sLen + n) (hb : (sLen + n) * i.bytes ≤ 65536) (hl : sLen + n ≤ 65536) :
    ∃ v w', (Builtin.append_ #[t, tx] ty #[.slice base sLen sCap, x]).run P w = .ok v w' ∧ Out lo φ hp nx w (.e (.l (.u nx 0 (sLen + n) 0))) (⟨nx, oc ++ nc, e, i.size⟩ :: hp) (nx + 1) v w' := by
  have hrun := run_append_grow_src (P := P) w t tx ty e i z ht hi hz base sLen sCap olds hold x n news hs hg (by omega) (growslice_fits hg (by omega))
  refine ⟨_, _, hrun, ?_⟩
  have hgc : sLen + n ≤ grownCap w (sLen + n) sCap e ∧ grownCap w (sLen + n) sCap e ≤ maxLen := by
    unfold grownCap Question.cut maxLen
    have := Nat.mod_lt (w.tape w.drawn (Question.appendCap (sLen + n) sCap e)) (show 0 < 2 ^ 63 - (sLen + n) by omega)
    simp only
    omega
  have hlen : (oc ++ nc).length = (sLen + n) * i.size := by
    rw [List.length_append, ho.len, hn.len, hol, hs.newsLen, Nat.add_mul]
  have hcs : All2 (LV.rel φ) (oc ++ nc) (olds ++ news) := ho.append hn
  obtain ⟨cap, hcap⟩ : ∃ cap, grownCap w (sLen + n) sCap e = cap := ⟨_, rfl⟩
  rw [hcap] at hgc ⊢
  have hsize : (Builtin.zeroCells z.cells (cap - (sLen + n))).size = (cap - (sLen + n)) * i.size := by simp [Builtin.zeroCells, hzs]
  have hlen2 : (olds ++ news).length = (sLen + n) * i.size := by rw [← hcs.len]; exact hlen
  have := alloc_step (lo := lo) (w' := w.drew.alloc (.cells ((olds ++ news).toArray ++ Builtin.zeroCells z.cells (cap - (sLen + n))) e)) hR (hf nx (Nat.le_refl _) (Nat.lt_succ_self _)) (oc ++ nc)
    ((olds ++ news).toArray ++ Builtin.zeroCells z.cells (cap - (sLen + n))) e i.size cap (by
      rw [hcs.len]
      simp only [Array.toList_append]
      rw [List.take_left' rfl]
      exact hcs) (fun h => absurd h hsz) (fun _ => ⟨by
      rw [Array.size_append, hsize]
      simp only [List.size_toArray]
      rw [hlen2, ← Nat.add_mul]
      congr 1
      omega, hgc.2⟩) rfl rfl rfl rfl
  refine ⟨_, this.1, ⟨w.heap.size, cap, upd_self _ _ _, by omega, by simp⟩, this.2⟩
/-- append -/
noncomputable def opAppend (P : Program) (lo : Nat) (hp : Hp) (nx : Nat) (t tx : TypeId) (s x : AV) : Option (AV × Hp × Nat) :=
  match P.underlying t, P.underlying tx with
  | some (.slice e), some (.slice _) => match tinfo P e with
    | some ti => match Nat.beq ti.zero.length ti.size && Nat.blt 0 ti.size with
      | true => match srcA hp ti.size x with
        | some (n, nc) => match nc.all LV.one with
          | true => match s with
            | .e (.l (.c (.slice none 0 0))) => match n with
              | 0 => some (s, hp, nx)
              | n + 1 => match Nat.ble ((n + 1) * ti.bytes) 65536 && Nat.ble (n + 1) 65536 with
                | true => some (.e (.l (.u nx 0 (n + 1) 0)), ⟨nx, nc, e, ti.size⟩ :: hp, nx + 1)
                | false => none
            | .e (.l (.s b off len cap)) => match Nat.ble (len + n) cap with
              | true => match n with
                | 0 => some (s, hp, nx)
                | n + 1 => match look hp b with
                  | some k => match Nat.ble lo b && Nat.ble (off + len * ti.size + nc.length) k.cs.length with
                    | true => some (.e (.l (.s b off (len + (n + 1)) cap)), put1 ⟨b, k.cs.take (off + len * ti.size) ++ (nc ++ k.cs.drop (off + len * ti.size + nc.length)), k.ty, k.sz⟩ hp, nx)
                    | false => none
                  | none => none
              | false => match look hp b with
                | some k => match Nat.ble (off + len * ti.size) k.cs.length && Nat.ble ((len + n) * ti.bytes) 65536 && Nat.ble (len + n) 65536 with
                  | true => some (.e (.l (.u nx 0 (len + n) 0)), ⟨nx, (k.cs.drop off).take (len * ti.size) ++ nc, e, ti.size⟩ :: hp, nx + 1)
                  | false => none
                | none => none
            | .e (.l (.u b off len d)) => match n with
              | 0 => some (s, hp, nx)
              | n + 1 => match look hp b with
                | some k => match Nat.ble lo b && Nat.beq off 0 && Nat.beq d 0 && Nat.beq k.sz ti.size && Nat.beq k.ty e && Nat.ble (len * ti.size) k.cs.length && Nat.ble ((len + (n + 1)) * ti.bytes) 65536 && Nat.ble (len + (n + 1)) 65536 with
                  | true => some (.e (.l (.u nx 0 (len + (n + 1)) 0)), ⟨nx, k.cs.take (len * ti.size) ++ nc, e, ti.size⟩ :: putD ⟨b, [], e, 0⟩ hp, nx + 1)
                  | false => none
                | none => none
            | .e (.l .z) => match n with
              | 0 => some (s, hp, nx)
              | _ + 1 => none
            | _ => none
          | false => none
        | none => none
      | false => none
    | none => none
  | _, _ => none
theorem run_append_in {w w' : World} {t tx ty e : TypeId} {i : TypeInfo} (ht : P.underlying t = some (.slice e)) (hi : P.info? e = some i) {g off len cap : Nat} {x : Value} {n : Nat} {news : List Value} (hs : Src P i.size tx x n news w) (hroom : len + n ≤ cap)
    (hst : (storeCells ⟨g, off + len * i.size, none⟩ news).run P w = .ok () w') :
    (Builtin.append_ #[t, tx] ty #[.slice (some ⟨g, off, none⟩) len cap, x]).run P w = .ok (.slice (some ⟨g, off, none⟩) (len + n) cap) w' := by
  rcases hs.kind with ⟨e', hk⟩ | hk <;> simp [Builtin.append_, run_underlying ht, run_underlying hk, sizeOf, typeInfo, hi, hs.len, hroom, hs.cells, Addr.add_lit, hst]
theorem putD_sub (nb : Blk) {hp : Hp} : ∀ b ∈ putD nb hp, b ∈ hp := fun _ h => (putD_mem nb h).1
/-- a row that has room is written behind its end, and is known by another number from then on -/
theorem consume_step {lo : Nat} {φ : Mp} {hp : Hp} {nx : Nat} {w w' : World} (hR : R φ hp nx w) (hf : φ nx = none) {b : Nat} {k : Blk} (hk : look hp b = some k) (hlo : lo ≤ b) {g κ : Nat} (hg : φ b = some (g, κ)) {arr' : Array Value} (nb : Blk) (hnb : nb.id = b)
    (cs : List LV) (hc : All2 (LV.rel φ) cs (arr'.toList.take cs.length)) (hs0 : k.sz ≠ 0) (hs1 : arr'.size = κ * k.sz ∧ κ ≤ maxLen)
    (hh : w'.heap[g]? = some (.cells arr' k.ty (0, 0))) (hq : ∀ j, j ≠ g → w'.heap[j]? = w.heap[j]?) (hz : w'.heap.size = w.heap.size) (ho : w'.os = w.os) (ht : w'.tape = w.tape) (hu : w'.output = w.output) :
    Ext φ (upd φ nx (g, κ)) nx (nx + 1) ∧ R (upd φ nx (g, κ)) (⟨nx, cs, k.ty, k.sz⟩ :: putD nb hp) (nx + 1) w' ∧ Fr lo φ hp w (upd φ nx (g, κ)) (⟨nx, cs, k.ty, k.sz⟩ :: putD nb hp) w' := by
  obtain ⟨hk1, hk2⟩ := look_spec hk
  have hE := Ext.upd (g, κ) hf
  have hnx : ∀ c ∈ hp, c.id ≠ nx := fun c hc => by have := hR.lo c hc; omega
  have hoff : ∀ c ∈ putD nb hp, ∀ g' κ', φ c.id = some (g', κ') → g' ≠ g := fun c hc g' κ' h e => by
    subst e
    have := putD_mem nb hc
    exact this.2 (by rw [hnb, ← hk2]; exact hR.inj c this.1 k hk1 g' κ' κ h (by rw [hk2]; exact hg))
  have hwr : Wr lo φ hp g := ⟨k, hk1, by omega, κ, by rw [hk2]; exact hg⟩
  have hself : ∀ {x : Nat × Nat}, upd φ nx (g, κ) nx = some x → x = (g, κ) := fun h => by rw [upd_self] at h; injection h with h; exact h.symm
  refine ⟨hE, ⟨?_, ?_, ?_⟩, ⟨ho, ht, hu, by omega, fun j _ hn => hq j fun e => hn (e ▸ hwr), ?_⟩⟩
  · intro c hc'
    rcases List.mem_cons.1 hc' with rfl | hc'
    · exact ⟨g, κ, arr', upd_self _ _ _, hh, hc.mono fun _ _ => LV.rel_mono hE.sub, fun h => absurd h hs0, fun _ => hs1⟩
    · exact (hR.blk c (putD_sub nb c hc')).mono hE.sub fun g' κ' h => hq g' (hoff c hc' g' κ' h)
  · intro c hc'
    rcases List.mem_cons.1 hc' with rfl | hc'
    · exact Nat.lt_succ_self _
    · exact Nat.lt_succ_of_lt (hR.lo c (putD_sub nb c hc'))
  · intro c hc1 c' hc2 g' κ1 κ2 h1 h2
    rcases List.mem_cons.1 hc1 with rfl | hc1 <;> rcases List.mem_cons.1 hc2 with rfl | hc2
    · rfl
    · have := hself h1
      injection this with this _
      rw [upd_ne _ _ (hnx c' (putD_sub nb c' hc2))] at h2
      exact absurd this (hoff c' hc2 _ _ h2)
    · have := hself h2
      injection this with this _
      rw [upd_ne _ _ (hnx c (putD_sub nb c hc1))] at h1
      exact absurd this (hoff c hc1 _ _ h1)
    · rw [upd_ne _ _ (hnx c (putD_sub nb c hc1))] at h1
      rw [upd_ne _ _ (hnx c' (putD_sub nb c' hc2))] at h2
      exact hR.inj c (putD_sub nb c hc1) c' (putD_sub nb c' hc2) g' κ1 κ2 h1 h2
  · rintro j ⟨c, hc', hlo', κ', hj⟩
    rcases List.mem_cons.1 hc' with rfl | hc'
    · have := hself hj
      injection this with this _
      subst this
      exact .inr hwr
    · rw [upd_ne _ _ (hnx c (putD_sub nb c hc'))] at hj
      exact .inr ⟨c, putD_sub nb c hc', hlo', κ', hj⟩
theorem opAppend_sound {lo : Nat} {φ : Mp} {hp hp' : Hp} {nx nx' : Nat} {w : World} (hR : R φ hp nx w) {t tx ty : TypeId} {s x y : AV} (h : opAppend P lo hp nx t tx s x = some (y, hp', nx')) (hf : Fresh φ nx nx') {sv xv : Value} (hs : s.rel φ sv) (hx : x.rel φ xv) :
    ∃ v w', (Builtin.append_ #[t, tx] ty #[sv, xv]).run P w = .ok v w' ∧ Out lo φ hp nx w y hp' nx' v w' := by
  unfold opAppend at h
  split at h
  case h_2 => cases h
  rename_i e ex hu hux
  split at h
  case h_2 => cases h
  rename_i ti hti
  obtain ⟨i, z, hi, hue, hz, hz2, hsi, hbi⟩ := tinfo_spec hti
  split at h
  case h_2 => cases h
  rename_i hb
  simp only [Bool.and_eq_true] at hb
  have b1 := Nat.eq_of_beq_eq_true hb.1
  have b2 : 0 < ti.size := Nat.le_of_ble_eq_true hb.2
  have hzs : z.cells.size = i.size := by rw [hsi, ← b1, ← hz2]; simp
  have hsz : i.size ≠ 0 := by omega
  split at h
  case h_2 => cases h
  rename_i n nc hsrc
  split at h
  case h_2 => cases h
  rename_i hone
  rw [← hsi] at hsrc
  obtain ⟨news, hn, hS⟩ := srcA_spec hR hsrc hx hone hux
  have hones : ∀ v ∈ news, v.oneCell' = true := hS.one
  have hnl := hS.newsLen
  have hncl := hn.len
  have hz0 : ∀ {m}, n = m → m = 0 → Src P i.size tx xv 0 [] w := fun e1 e2 => by
    subst e1; subst e2
    have : news = [] := List.eq_nil_of_length_eq_zero (by rw [hnl]; simp)
    subst this
    exact hS
  split at h
  · obtain rfl : sv = .slice none 0 0 := hs
    split at h
    · simp only [Option.some.injEq, Prod.mk.injEq] at h
      obtain ⟨rfl, rfl, rfl⟩ := h
      exact ⟨_, _, run_append_nothing (P := P) w t tx ty e i hu hi none 0 0 (Nat.le_refl _) xv (hz0 rfl rfl), Out.same hR rfl⟩
    · rename_i n
      split at h
      case h_2 => cases h
      rename_i hlim
      simp only [Bool.and_eq_true] at hlim
      have l1 := Nat.le_of_ble_eq_true hlim.1
      have l2 := Nat.le_of_ble_eq_true hlim.2
      simp only [Option.some.injEq, Prod.mk.injEq] at h
      obtain ⟨rfl, rfl, rfl⟩ := h
      have := grow_out (lo := lo) (ty := ty) hR hf hu hi hz hzs hsz (base := none) (sLen := 0) (sCap := 0) (olds := []) (run_firstCells_none _ _ _ _ _) (by simp) .nil hS hn (by omega) (by rw [hbi, Nat.zero_add]; exact l1) (by omega)
      rw [hsi] at this
      simpa using this
  · rename_i b off len cap
    obtain ⟨g, κ, hg, rfl⟩ : ∃ g κ, φ b = some (g, κ) ∧ sv = .slice (some ⟨g, off, none⟩) len cap := hs
    split at h
    · rename_i hroom
      have hroom := Nat.le_of_ble_eq_true hroom
      split at h
      · simp only [Option.some.injEq, Prod.mk.injEq] at h
        obtain ⟨rfl, rfl, rfl⟩ := h
        exact ⟨_, _, run_append_nothing (P := P) w t tx ty e i hu hi _ len cap (by omega) xv (hz0 rfl rfl), Out.same hR ⟨g, κ, hg, rfl⟩⟩
      · rename_i n
        split at h
        case h_2 => cases h
        rename_i k hk
        split at h
        case h_2 => cases h
        rename_i hlim
        simp only [Bool.and_eq_true] at hlim
        have l1 := Nat.le_of_ble_eq_true hlim.1
        have l2 := Nat.le_of_ble_eq_true hlim.2
        simp only [Option.some.injEq, Prod.mk.injEq] at h
        obtain ⟨rfl, rfl, rfl⟩ := h
        obtain ⟨hk1, hk2, arr, hw, hc, hf0, hf1⟩ := hR.block hk hg
        have hcl := hc.len
        rw [List.length_take] at hcl
        simp at hcl
        obtain ⟨w', h1, h2, h3⟩ := write_step (P := P) hR hk hg l1 hn hones hw (by omega) (off := off + len * ti.size) (by omega) (fun _ => l2)
        refine ⟨_, w', run_append_in (ty := ty) hu hi hS hroom (by rw [hsi]; exact h1), φ, .refl _ _, ⟨g, κ, hg, rfl⟩, h2, h3⟩
    · rename_i hroom
      have hroom : ¬ len + n ≤ cap := fun hle => by
        have := Nat.ble_eq_true_of_le hle
        rw [hroom] at this
        cases this
      split at h
      case h_2 => cases h
      rename_i k hk
      split at h
      case h_2 => cases h
      rename_i hlim
      simp only [Bool.and_eq_true] at hlim
      have l1 := Nat.le_of_ble_eq_true hlim.1.1
      have l2 := Nat.le_of_ble_eq_true hlim.1.2
      have l3 := Nat.le_of_ble_eq_true hlim.2
      simp only [Option.some.injEq, Prod.mk.injEq] at h
      obtain ⟨rfl, rfl, rfl⟩ := h
      obtain ⟨vs, a1, a2, a3⟩ := part_cells hR hk hg l1
      have := grow_out (lo := lo) (ty := ty) hR hf hu hi hz hzs hsz (base := some ⟨g, off, none⟩) (sLen := len) (sCap := cap) (olds := vs) (run_firstCells_some (P := P) w.drew i.size len ⟨g, off, none⟩ len cap vs (by rw [a2, hsi]) (by simpa using a3)) (by rw [a2, hsi]) a1 hS hn (by omega) (by rw [hbi]; exact l2) l3
      rw [hsi] at this
      exact this
  · rename_i b off len d
    obtain ⟨g, κ, hg, hle, rfl⟩ : ∃ g κ, φ b = some (g, κ) ∧ len + d ≤ κ ∧ sv = .slice (some ⟨g, off, none⟩) len (κ - d) := hs
    split at h
    · simp only [Option.some.injEq, Prod.mk.injEq] at h
      obtain ⟨rfl, rfl, rfl⟩ := h
      exact ⟨_, _, run_append_nothing (P := P) w t tx ty e i hu hi _ len (κ - d) (by omega) xv (hz0 rfl rfl), Out.same hR ⟨g, κ, hg, hle, rfl⟩⟩
    · rename_i n
      split at h
      case h_2 => cases h
      rename_i k hk
      split at h
      case h_2 => cases h
      rename_i hlim
      simp only [Bool.and_eq_true] at hlim
      obtain ⟨⟨⟨⟨⟨⟨⟨l1, l2⟩, l3⟩, l4⟩, l5⟩, l6⟩, l7⟩, l8⟩ := hlim
      have l1 := Nat.le_of_ble_eq_true l1
      have l2 := Nat.eq_of_beq_eq_true l2
      have l3 := Nat.eq_of_beq_eq_true l3
      have l4 := Nat.eq_of_beq_eq_true l4
      have l5 := Nat.eq_of_beq_eq_true l5
      have l6 := Nat.le_of_ble_eq_true l6
      have l7 := Nat.le_of_ble_eq_true l7
      have l8 := Nat.le_of_ble_eq_true l8
      subst l2; subst l3
      simp only [Option.some.injEq, Prod.mk.injEq] at h
      obtain ⟨rfl, rfl, rfl⟩ := h
      obtain ⟨hk1, hk2, arr, hw, hc, hf0, hf1⟩ := hR.block hk hg
      have hcl := hc.len
      rw [List.length_take] at hcl
      simp at hcl
      obtain ⟨f1, f2⟩ := hf1 (by omega)
      by_cases hroom : len + (n + 1) ≤ κ
      · have hfit : 0 + len * i.size + 0 + news.length ≤ arr.size := by
          rw [hnl, f1, l4, hsi, Nat.zero_add, Nat.add_zero, ← Nat.add_mul]
          exact Nat.mul_le_mul_right _ hroom
        have hst := run_storeCells_at P g (0 + len * i.size) k.ty news 0 arr w hw hfit hones
        simp only [Nat.add_zero] at hst
        have l6' : len * i.size ≤ k.cs.length := by rw [hsi]; exact l6
        have hm : min (len * i.size) arr.size = len * i.size := by omega
        have hm2 : min (len * i.size) k.cs.length = len * i.size := by omega
        have := consume_step (lo := lo) (w' := w.setRow g (arr.toList.take (0 + len * i.size) ++ news ++ arr.toList.drop (0 + len * i.size + news.length)).toArray) hR (hf nx (Nat.le_refl _) (Nat.lt_succ_self _)) hk l1 hg ⟨b, [], e, 0⟩ rfl (k.cs.take (len * ti.size) ++ nc)
          (by
            have h2 := (hc.take (len * ti.size))
            rw [List.take_take, show min (len * ti.size) k.cs.length = len * ti.size by omega] at h2
            have h3 := h2.append hn
            rw [← hsi] at h3 ⊢
            have hlen : (k.cs.take (len * i.size) ++ nc).length = (arr.toList.take (len * i.size) ++ news).length := by
              rw [List.length_append, List.length_append, hncl, List.length_take, List.length_take, hm2, show min (len * i.size) arr.toList.length = len * i.size by simpa using hm]
              try rfl
            rw [List.toList_toArray, hlen, Nat.zero_add, List.take_left' rfl]
            exact h3) (by omega) ⟨by
            rw [← f1]
            simp only [List.size_toArray, List.length_append, List.length_take, List.length_drop, Array.length_toList]
            omega, f2⟩ (setRow_heap w g arr _ k.ty (0, 0) hw) (fun j hj => setRow_other w g j _ hj) (by simp [World.setRow]) rfl rfl rfl
        rw [l4, l5] at this
        refine ⟨_, _, run_append_in (ty := ty) hu hi hS (by simpa using hroom) hst, _, this.1, ⟨g, κ, upd_self _ _ _, by omega, by simp⟩, this.2⟩
      · obtain ⟨vs, a1, a2, a3⟩ := part_cells hR hk hg (off := 0) (n := len * i.size) (by rw [hsi]; omega)
        have := grow_out (lo := lo) (ty := ty) hR hf hu hi hz hzs hsz (base := some ⟨g, 0, none⟩) (sLen := len) (sCap := κ) (olds := vs) (run_firstCells_some (P := P) w.drew i.size len ⟨g, 0, none⟩ len κ vs a2 (by simpa using a3)) a2 a1 hS hn (by omega) (by rw [hbi]; exact l7) l8
        rw [hsi] at this
        obtain ⟨v, w', h1, φ', h2, h3, h4, h5⟩ := this
        have hsub : ∀ c ∈ (⟨nx, k.cs.take (len * ti.size) ++ nc, e, ti.size⟩ :: putD ⟨b, [], e, 0⟩ hp : Hp), c ∈ (⟨nx, (k.cs.drop 0).take (len * ti.size) ++ nc, e, ti.size⟩ :: hp : Hp) := fun c hc => by
          rcases List.mem_cons.1 hc with rfl | hc
          · exact List.mem_cons_self
          · exact List.mem_cons_of_mem _ (putD_sub _ c hc)
        exact ⟨v, w', h1, φ', h2, h3, h4.drop hsub, h5.drop hsub⟩
  · obtain ⟨a, cap, rfl⟩ : ∃ a cap, sv = .slice (some a) 0 cap := hs
    split at h
    · simp only [Option.some.injEq, Prod.mk.injEq] at h
      obtain ⟨rfl, rfl, rfl⟩ := h
      exact ⟨_, _, run_append_nothing (P := P) w t tx ty e i hu hi (some a) 0 cap (Nat.zero_le _) xv (hz0 rfl rfl), Out.same hR ⟨a, cap, rfl⟩⟩
    · cases h
  · cases h
/-- make -/
noncomputable def opMake (P : Program) (hp : Hp) (nx : Nat) (t : TypeId) (l c : AV) : Option (AV × Hp × Nat) :=
  match P.underlying t, natOf l, natOf c with
  | some (.slice e), some l, some c => match tinfo P e with
    | some ti => match Nat.beq ti.zero.length ti.size && Nat.ble l c && Nat.ble c 65536 && Nat.ble (ti.bytes * c) 65536 with
      | true => some (.e (.l (.s nx 0 l c)), ⟨nx, consts (repL ti.zero c), e, 0⟩ :: hp, nx + 1)
      | false => none
    | none => none
  | _, _, _ => none
theorem opMake_sound {lo : Nat} {φ : Mp} {hp hp' : Hp} {nx nx' : Nat} {w : World} (hR : R φ hp nx w) {t : TypeId} {l c y : AV} (h : opMake P hp nx t l c = some (y, hp', nx')) (hf : Fresh φ nx nx') {lv cv : Value} (hl : l.rel φ lv) (hc : c.rel φ cv) :
    ∃ v w', (Instr.makeSlice t lv cv).run P w = .ok v w' ∧ Out lo φ hp nx w y hp' nx' v w' := by
  unfold opMake at h
  split at h
  case h_2 => cases h
  rename_i e n m hu hn hm
  obtain ⟨kl, rfl⟩ := natOf_spec hn hl
  obtain ⟨kc, rfl⟩ := natOf_spec hm hc
  split at h
  case h_2 => cases h
  rename_i ti hti
  obtain ⟨i, z, hi, hue, hz, hz2, hsi, hbi⟩ := tinfo_spec hti
  split at h
  case h_2 => cases h
  rename_i hb
  simp only [Bool.and_eq_true] at hb
  have b1 := Nat.eq_of_beq_eq_true hb.1.1.1
  have b2 := Nat.le_of_ble_eq_true hb.1.1.2
  have b3 := Nat.le_of_ble_eq_true hb.1.2
  have b4 := Nat.le_of_ble_eq_true hb.2
  have hzs : z.cells.size = i.size := by rw [hsi, ← b1, ← hz2]; simp
  simp only [Option.some.injEq, Prod.mk.injEq] at h
  obtain ⟨rfl, rfl, rfl⟩ := h
  have hby : (i.bytes : Int) * (m : Int) ≤ 281474976710656 := by
    have : ((i.bytes * m : Nat) : Int) ≤ 281474976710656 := by rw [hbi]; omega
    rwa [Int.natCast_mul] at this
  have hrun := run_make (P := P) w t e i z hu hi hz kl kc n m (by omega) (by omega) hby (by omega)
  simp only [Int.toNat_natCast] at hrun
  refine ⟨_, _, hrun, new_slice_out hR hf e ?_ n m⟩
  rw [← hzs, madeCells_rep, hz2]
  exact consts_rel φ _
/-- clear -/
noncomputable def opClear (P : Program) (lo : Nat) (hp : Hp) (t : TypeId) (x : AV) : Option Hp :=
  match x with
  | .e (.l (.s b off len _)) => clr b off len
  | .e (.l (.u b off len _)) => clr b off len
  | .e (.l .z) => match P.underlying t with
    | some (.slice _) => some hp
    | _ => none
  | _ => none
  where clr (b off len : Nat) : Option Hp := match P.underlying t with
  | some (.slice e) => match tinfo P e with
    | some ti => match len with
      | 0 => some hp
      | len + 1 => match look hp b with
        | some k => match Nat.ble lo b && Nat.ble (off + (len + 1) * ti.zero.length) k.cs.length && ti.zero.all Value.oneCell' with
          | true => some (put1 ⟨b, k.cs.take off ++ (consts (repL ti.zero (len + 1)) ++ k.cs.drop (off + (consts (repL ti.zero (len + 1))).length)), k.ty, k.sz⟩ hp)
          | false => none
        | none => none
    | none => none
  | _ => none
theorem zeroCells_rep (z : Array Value) (n : Nat) : (Builtin.zeroCells z n).toList = repL z.toList n := madeCells_rep z n
theorem run_clear_some {w w' : World} {t ty e : TypeId} {i : TypeInfo} {z : Value} (hu : P.underlying t = some (.slice e)) (hi : P.info? e = some i) (hz : i.zero = some z) {a : Addr} {n c : Nat} (hst : (storeCells a (repL z.cells.toList (n + 1))).run P w = .ok () w') :
    (Builtin.clear_ #[t] ty #[.slice (some a) (n + 1) c]).run P w = .ok (.tuple #[]) w' := by
  rw [← zeroCells_rep] at hst
  simp [Builtin.clear_, run_underlying hu, zeroValue, typeInfo, hi, hz, hst]
theorem run_clear_zero {w : World} {t ty e : TypeId} (hu : P.underlying t = some (.slice e)) (a : Option Addr) (c : Nat) : (Builtin.clear_ #[t] ty #[.slice a 0 c]).run P w = .ok (.tuple #[]) w := by
  cases a <;> simp [Builtin.clear_, run_underlying hu]
theorem clr_sound {lo : Nat} {φ : Mp} {hp hp' : Hp} {nx : Nat} {w : World} (hR : R φ hp nx w) {t ty : TypeId} {b off len c : Nat} (h : opClear.clr P lo hp t b off len = some hp') {g κ : Nat} (hg : φ b = some (g, κ)) :
    ∃ w', (Builtin.clear_ #[t] ty #[.slice (some ⟨g, off, none⟩) len c]).run P w = .ok (.tuple #[]) w' ∧ R φ hp' nx w' ∧ Fr lo φ hp w φ hp' w' := by
  unfold opClear.clr at h
  split at h
  case h_2 => cases h
  rename_i e hu
  split at h
  case h_2 => cases h
  rename_i ti hti
  obtain ⟨i, z, hi, hue, hz, hz2, hsi, hbi⟩ := tinfo_spec hti
  split at h
  · injection h with h
    subst h
    exact ⟨w, run_clear_zero hu _ _, hR, .refl _ _ _ _⟩
  · rename_i n
    split at h
    case h_2 => cases h
    rename_i k hk
    split at h
    case h_2 => cases h
    rename_i hb
    simp only [Bool.and_eq_true] at hb
    have b1 := Nat.le_of_ble_eq_true hb.1.1
    have b2 := Nat.le_of_ble_eq_true hb.1.2
    injection h with h
    subst h
    obtain ⟨hk1, hk2, arr, hw, hc, hf0, hf1⟩ := hR.block hk hg
    have hcl := hc.len
    rw [List.length_take] at hcl
    simp at hcl
    have hlen : (consts (repL ti.zero (n + 1))).length = (n + 1) * ti.zero.length := by simp [consts, repL_length]
    have hone : ∀ v ∈ repL ti.zero (n + 1), v.oneCell' = true := by
      have : ∀ m, ∀ v ∈ repL ti.zero m, v.oneCell' = true := by
        intro m
        induction m with
        | zero => intro v hv; cases hv
        | succ m ih =>
          intro v hv
          rcases List.mem_append.1 hv with hv | hv
          · exact List.all_eq_true.1 hb.2 v hv
          · exact ih v hv
      exact this _
    obtain ⟨w', h1, h2, h3⟩ := write_step (P := P) hR hk hg b1 (consts_rel φ (repL ti.zero (n + 1))) hone hw (off := off) (by omega) (by omega) (fun _ => by omega)
    exact ⟨w', run_clear_some hu hi hz (by rw [hz2]; exact h1), h2, h3⟩
end
end Go.Proofs.YthiblfkmcdnalaaGreat.Ae

namespace Go.Proofs.YthiblfkmcdnalaaGreat.Ae
open Go.RowKit

/-- what an operation comes to -/
inductive OR where
  | val (x : AV) (hp : Hp) (nx : Nat)
  | enter (f : FuncId) (args : List AV)

section
variable {P : Program}
noncomputable def ltI : Int → Int → Bool
  | .ofNat a, .ofNat b => Nat.blt a b
  | .negSucc _, .ofNat _ => true
  | .ofNat _, .negSucc _ => false
  | .negSucc a, .negSucc b => Nat.blt b a
theorem ltI_eq (x y : Int) : ltI x y = decide (x < y) := by
  have hb : ∀ a b : Nat, Nat.blt a b = decide (a < b) := fun a b => by
    rw [Bool.eq_iff_iff]
    simp only [decide_eq_true_eq]
    exact ⟨fun h => Nat.le_of_ble_eq_true h, fun h => Nat.ble_eq_true_of_le h⟩
  cases x <;> cases y <;> simp only [ltI, hb] <;> rw [Bool.eq_iff_iff] <;> simp only [decide_eq_true_eq, Bool.false_eq_true, Int.ofNat_eq_natCast, Int.negSucc_eq, true_iff, false_iff] <;> omega
noncomputable def eqI : Int → Int → Bool
  | .ofNat a, .ofNat b => Nat.beq a b
  | .negSucc a, .negSucc b => Nat.beq a b
  | _, _ => false
theorem eqI_eq (x y : Int) : eqI x y = (x == y) := by
  have hb : ∀ a b : Nat, Nat.beq a b = decide (a = b) := fun a b => by
    rw [Bool.eq_iff_iff]
    simp only [decide_eq_true_eq]
    exact ⟨fun h => Nat.eq_of_beq_eq_true h, fun h => h ▸ Nat.beq_refl a⟩
  cases x <;> cases y <;> simp only [eqI, hb] <;> rw [Bool.eq_iff_iff] <;> simp only [decide_eq_true_eq, beq_iff_eq, Bool.false_eq_true, Int.ofNat_eq_natCast, Int.negSucc_eq, true_iff, false_iff] <;> omega
noncomputable def wrapI (k : IntKind) (n : Int) : Int :=
  match k, n with
  | .i64, .ofNat m => match Nat.blt m 9223372036854775808 with
    | true => .ofNat m
    | false => k.wrap n
  | _, _ => k.wrap n
theorem wrapI_eq (k : IntKind) (n : Int) : wrapI k n = k.wrap n := by
  unfold wrapI
  split
  · rename_i m
    split
    · rename_i h
      have h := Nat.le_of_ble_eq_true h
      rw [IntKind.wrap_i64]
      simp only [Int.ofNat_eq_natCast]
      omega
    · rfl
  · rfl
noncomputable def binI (op : BinOp) (k : IntKind) (x y : Int) : Option Value :=
  match op with
  | .add => some (.int k (wrapI k (x + y)))
  | .sub => some (.int k (wrapI k (x - y)))
  | .mul => some (.int k (wrapI k (x * y)))
  | .eql => some (.bool (eqI x y))
  | .neq => some (.bool (!eqI x y))
  | .lss => some (.bool (ltI x y))
  | .gtr => some (.bool (ltI y x))
  | .leq => some (.bool (!ltI y x))
  | .geq => some (.bool (!ltI x y))
  | _ => none
theorem run_eqGuard {op : BinOp} {t : TypeId} {x y : Operand} {a b : Value} (ha : ∀ cs, a ≠ .agg cs) (hn : a ≠ .nilIface) (w : World) : (eqGuard op t x y a b).run P w = .ok () w := by
  cases op <;> cases a <;> first | rfl | exact absurd rfl hn | exact absurd rfl (ha _)
theorem binI_sound {op : BinOp} {k : IntKind} {x y : Int} {v : Value} (h : binI op k x y = some v) (t : TypeId) (w : World) : (binOp op t (.int k x) (.int k y)).run P w = .ok v w := by
  unfold binI at h
  split at h
  case h_10 => cases h
  all_goals
    injection h with h
    subst h
    simp [binOp, Op.intArith, Op.intCmp, wrapI_eq, eqI_eq, ltI_eq]
  all_goals
    rw [Bool.eq_iff_iff]
    simp
/-- the parts of a build -/
noncomputable def partsA (ρ : Operand → Option AV) : List (Nat × Operand) → Option (List (Nat × List LV))
  | [] => some []
  | (i, x) :: r => match ρ x with
    | some a => match a.cells with
      | some cs => match partsA ρ r with
        | some l => some ((i, cs) :: l)
        | none => none
      | none => none
    | none => none
theorem partsA_spec {φ : Mp} {ρ : Operand → Option AV} {ρc : Operand → Value} (hρ : ∀ x a, ρ x = some a → a.rel φ (ρc x)) : ∀ {l : List (Nat × Operand)} {pa : List (Nat × List LV)}, partsA ρ l = some pa →
    All2 (fun (x : Nat × List LV) (y : Nat × Value) => x.1 = y.1 ∧ All2 (LV.rel φ) x.2 y.2.cells.toList) pa (l.map fun p => (p.1, ρc p.2))
  | [], pa, h => by injection h with h; subst h; exact .nil
  | (i, x) :: r, pa, h => by
    unfold partsA at h
    split at h
    case h_2 => cases h
    rename_i a ha
    split at h
    case h_2 => cases h
    rename_i cs hcs
    split at h
    case h_2 => cases h
    rename_i l hl
    injection h with h
    subst h
    exact .cons ⟨rfl, AV.cells_spec hcs (hρ x a ha)⟩ (partsA_spec hρ hl)
noncomputable def argsA (ρ : Operand → Option AV) : List Operand → Option (List AV)
  | [] => some []
  | x :: r => match ρ x with
    | some a => match argsA ρ r with
      | some l => some (a :: l)
      | none => none
    | none => none
theorem argsA_spec {φ : Mp} {ρ : Operand → Option AV} {ρc : Operand → Value} (hρ : ∀ x a, ρ x = some a → a.rel φ (ρc x)) : ∀ {l : List Operand} {pa : List AV}, argsA ρ l = some pa → All2 (AV.rel φ) pa (l.map ρc)
  | [], pa, h => by injection h with h; subst h; exact .nil
  | x :: r, pa, h => by
    unfold argsA at h
    split at h
    case h_2 => cases h
    rename_i a ha
    split at h
    case h_2 => cases h
    rename_i l hl
    injection h with h
    subst h
    exact .cons (hρ x a ha) (argsA_spec hρ hl)
/-- an operation on values alone, run by the model's own words -/
noncomputable def rhoV (ρ : Operand → Option AV) (x : Operand) : Value :=
  match ρ x with
  | some a => match a.val with
    | some v => v
    | none => undef
  | none => undef
noncomputable def allVal (ρ : Operand → Option AV) : List Operand → Bool
  | [] => true
  | x :: r => match ρ x with
    | some a => match a.val with
      | some _ => allVal ρ r
      | none => false
    | none => false
theorem allVal_spec {φ : Mp} {ρ : Operand → Option AV} {ρc : Operand → Value} (hρ : ∀ x a, ρ x = some a → a.rel φ (ρc x)) : ∀ {l : List Operand}, allVal ρ l = true → ∀ x ∈ l, ρc x = rhoV ρ x
  | [], _, x, hx => by cases hx
  | y :: r, h, x, hx => by
    unfold allVal at h
    split at h
    case h_2 => cases h
    rename_i a ha
    split at h
    case h_2 => cases h
    rename_i v hv
    rcases List.mem_cons.1 hx with rfl | hx
    · unfold rhoV
      rw [ha]
      simp only [hv]
      exact AV.val_spec hv (hρ _ _ ha)
    · exact allVal_spec hρ h x hx
noncomputable def isSelect : Op → Bool
  | .select .. => true
  | _ => false
noncomputable def evPure (P : Program) (ρ : Operand → Option AV) (o : Oper) : Option AV :=
  match isSelect o.op with
  | true => none
  | false => match allVal ρ o.op.operands.toList with
    | true => match runPure P (execOp (rhoV ρ) o) with
      | some (.value v) => some (ofVal v)
      | _ => none
    | false => none
theorem evPure_sound {φ : Mp} {ρ : Operand → Option AV} {ρc : Operand → Value} (hρ : ∀ x a, ρ x = some a → a.rel φ (ρc x)) {o : Oper} {y : AV} (h : evPure P ρ o = some y) (w : World) : ∃ v, (execOp ρc o).run P w = .ok (.value v) w ∧ y.rel φ v := by
  unfold evPure at h
  split at h
  case h_1 => cases h
  rename_i hs
  split at h
  case h_2 => cases h
  rename_i ha
  split at h
  case h_2 => cases h
  rename_i v hv
  injection h with h
  subst h
  refine ⟨v, ?_, ofVal_rel φ v⟩
  rw [execOp_congr (ρ' := rhoV ρ) o (fun cs b e => by rw [e] at hs; cases hs) (fun x hx => allVal_spec hρ ha x (by simpa using hx))]
  exact runPure_spec _ hv w
/-- captured pointers -/
noncomputable def capsA : List AV → Option (List (Nat × Nat))
  | [] => some []
  | .e (.l (.p b off)) :: r => match capsA r with
    | some l => some ((b, off) :: l)
    | none => none
  | _ => none
theorem capsA_spec {φ : Mp} : ∀ {l : List AV} {cs : List (Nat × Nat)} {vs : List Value}, capsA l = some cs → All2 (AV.rel φ) l vs → All2 (ptrRel φ) cs vs
  | [], cs, vs, h, hr => by injection h with h; subst h; rw [hr.nil_inv]; exact .nil
  | x :: r, cs, vs, h, hr => by
    obtain ⟨v, vs', rfl, h1, h2⟩ := hr.cons_inv
    unfold capsA at h
    split at h
    · rename_i hq; cases hq
    · rename_i b off r' hq
      injection hq with hq1 hq2
      subst hq1; subst hq2
      split at h
      case h_2 => cases h
      rename_i l hl
      injection h with h
      subst h
      exact .cons h1 (capsA_spec hl h2)
    · cases h
noncomputable def capsV (l : List (Nat × Nat)) : List AV := l.map fun x => .e (.l (.p x.1 x.2))
theorem capsV_rel {φ : Mp} {cs : List (Nat × Nat)} {vs : List Value} (h : All2 (ptrRel φ) cs vs) : All2 (AV.rel φ) (capsV cs) vs := All2.map_left (h.mono fun _ _ h => h)
noncomputable def noneOr : Option Operand → (Operand → Option AV) → Option (Option AV)
  | none, _ => some none
  | some x, ρ => match ρ x with
    | some a => some (some a)
    | none => none
theorem noneOr_spec {φ : Mp} {ρ : Operand → Option AV} {ρc : Operand → Value} (hρ : ∀ x a, ρ x = some a → a.rel φ (ρc x)) {x : Option Operand} {a : Option AV} (h : noneOr x ρ = some a) : OptRel φ a (x.map ρc) := by
  cases x with
  | none => injection h with h; subst h; trivial
  | some x =>
    unfold noneOr at h
    simp only at h
    split at h
    · rename_i y hy
      injection h with h
      subst h
      exact hρ x y hy
    · cases h
/-- a pointer or a slice that is not nil, compared with nil -/
noncomputable def isNilV : AV → Bool
  | .e (.l (.c (.pointer none))) => true
  | .e (.l (.c (.slice none _ _))) => true
  | _ => false
noncomputable def cmpNil (P : Program) (op : BinOp) (t : TypeId) (x y : AV) : Option Value :=
  match P.underlying t, x, y with
  | some (.pointer _), .e (.l (.p _ _)), .e (.l (.c (.pointer none))) => ans op
  | some (.slice _), .e (.l (.s _ _ _ _)), .e (.l (.c (.slice none _ _))) => ans op
  | some (.slice _), .e (.l (.u _ _ _ _)), .e (.l (.c (.slice none _ _))) => ans op
  | some (.slice _), .e (.l .z), .e (.l (.c (.slice none _ _))) => ans op
  | _, _, _ => none
  where ans : BinOp → Option Value
  | .eql => some (.bool false)
  | .neq => some (.bool true)
  | _ => none
theorem equalIn_ptr {t e : TypeId} (hu : P.underlying t = some (.pointer e)) (a : Addr) (w : World) (d : Nat) : (Op.equalIn (d + 1) t (.pointer (some a)) (.pointer none)).run P w = .ok false w := by
  simp only [Op.equalIn, Sem.run_bind, run_underlying hu, Result.andThen_ok]
  rfl
theorem equalIn_slice {t e : TypeId} (hu : P.underlying t = some (.slice e)) (a : Addr) (n c n' c' : Nat) (w : World) (d : Nat) : (Op.equalIn (d + 1) t (.slice (some a) n c) (.slice none n' c')).run P w = .ok false w := by
  simp only [Op.equalIn, Sem.run_bind, run_underlying hu, Result.andThen_ok]
  rfl
theorem equal_ptr {t e : TypeId} (hu : P.underlying t = some (.pointer e)) (a : Addr) (w : World) : (Op.equal t (.pointer (some a)) (.pointer none)).run P w = .ok false w := equalIn_ptr hu a w 9999
theorem equal_slice {t e : TypeId} (hu : P.underlying t = some (.slice e)) (a : Addr) (n c n' c' : Nat) (w : World) : (Op.equal t (.slice (some a) n c) (.slice none n' c')).run P w = .ok false w := equalIn_slice hu a n c n' c' w 9999
theorem cmpNil_sound {φ : Mp} {op : BinOp} {t : TypeId} {x y : AV} {v : Value} (h : cmpNil P op t x y = some v) {xv yv : Value} (hx : x.rel φ xv) (hy : y.rel φ yv) (a b : Operand) (w : World) : ((do eqGuard op t a b xv yv; binOp op t xv yv) : Sem Value).run P w = .ok v w := by
  unfold cmpNil at h
  split at h
  · rename_i e b0 off hu
    obtain ⟨g, κ, hg, rfl⟩ := rel_p hx
    obtain rfl : yv = .pointer none := hy
    unfold cmpNil.ans at h
    split at h
    · injection h with h; subst h
      simp [run_eqGuard, binOp, equal_ptr hu]
    · injection h with h; subst h
      simp [run_eqGuard, binOp, equal_ptr hu]
    · cases h
  · rename_i e b0 off len cap n' c' hu
    obtain ⟨g, κ, hg, rfl⟩ : ∃ g κ, φ b0 = some (g, κ) ∧ xv = .slice (some ⟨g, off, none⟩) len cap := hx
    obtain rfl : yv = .slice none n' c' := hy
    unfold cmpNil.ans at h
    split at h
    · injection h with h; subst h
      simp [run_eqGuard, binOp, equal_slice hu]
    · injection h with h; subst h
      simp [run_eqGuard, binOp, equal_slice hu]
    · cases h
  · rename_i e b0 off len cap n' c' hu
    obtain ⟨g, κ, hg, _, rfl⟩ : ∃ g κ, φ b0 = some (g, κ) ∧ len + cap ≤ κ ∧ xv = .slice (some ⟨g, off, none⟩) len (κ - cap) := hx
    obtain rfl : yv = .slice none n' c' := hy
    unfold cmpNil.ans at h
    split at h
    · injection h with h; subst h
      simp [run_eqGuard, binOp, equal_slice hu]
    · injection h with h; subst h
      simp [run_eqGuard, binOp, equal_slice hu]
    · cases h
  · rename_i e n' c' hu
    obtain ⟨a0, cap, rfl⟩ : ∃ a cap, xv = .slice (some a) 0 cap := hx
    obtain rfl : yv = .slice none n' c' := hy
    unfold cmpNil.ans at h
    split at h
    · injection h with h; subst h
      simp [run_eqGuard, binOp, equal_slice hu]
    · injection h with h; subst h
      simp [run_eqGuard, binOp, equal_slice hu]
    · cases h
  · cases h
end
end Go.Proofs.YthiblfkmcdnalaaGreat.Ae
