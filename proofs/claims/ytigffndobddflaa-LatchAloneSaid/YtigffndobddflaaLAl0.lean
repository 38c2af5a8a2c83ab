/- LatchAlone's memory: a latch's box, and three arrays of ten. -/
import Derived.Test.YtigffndobddflaaLAlQ
import Derived.Test.YtigffndobddflaaLR3
import Derived.Test.YtigffndobddflaaArr
import Derived.Test.YtigffndobddflaaOpenPair
namespace Go.Proofs.Ytigffndobddflaa
open Go.RowKit

/-- the latch l in its box, the lists of the latch r, and the three arrays -/
structure AlS (w : World) (N : Nat) (U : World) (l : La) (A : Option Addr) (ac : Nat) (Q : Option Addr) (qc : Nat) (r : La) (A2 : Option Addr) (a2 : Nat) (Q2 : Option Addr) (q2 : Nat) (si : Nat → Nat) (wr ho : Nat → Bool) : Prop where
  hb : LB N l A ac Q qc U
  hm : LM U (fun b => (b < N ∨ N + 3 < b) ∧ b < U.heap.size) r A2 a2 Q2 q2
  s : AR (N + 1) 10 (fun k => .int .i64 (si k : Int)) U
  wv : AR (N + 2) 10 (fun k => .bool (wr k)) U
  hv : AR (N + 3) 10 (fun k => .bool (ho k)) U
  below : Below N w U
section
variable {w U V : World} {N P : Nat} {l r : La} {A Q A2 Q2 : Option Addr} {ac qc a2 q2 : Nat} {si : Nat → Nat} {wr ho : Nat → Bool}
theorem AlS.up (h : AlS w N U l A ac Q qc r A2 a2 Q2 q2 si wr ho) (hb : Below U.heap.size U V) : AlS w N V l A ac Q qc r A2 a2 Q2 q2 si wr ho :=
  ⟨h.hb.up hb h.hb.lt, (h.hm.keep (w' := V) fun b hb' => hb.block b hb'.2).imp fun b hb' => ⟨hb'.1, Nat.lt_of_lt_of_le hb'.2 hb.size⟩, h.s.up hb h.s.lt, h.wv.up hb h.wv.lt, h.hv.up hb h.hv.lt, h.below.trans (hb.mono (by have := h.hb.lt; omega))⟩
/-- a call gave another latch -/
theorem AlS.got (h : AlS w N U l A ac Q qc l A ac Q qc si wr ho) (hb : Below U.heap.size U V) (hm : LM V (fun b => ((b < N ∨ N + 3 < b) ∧ b < U.heap.size) ∨ (U.heap.size ≤ b ∧ b < V.heap.size)) r A2 a2 Q2 q2) : AlS w N V l A ac Q qc r A2 a2 Q2 q2 si wr ho :=
  { h.up hb with hm := hm.imp fun b hb' => by have := h.hv.lt; have := hb.size; omega }
theorem AlS.set (h : AlS w N U l A ac Q qc r A2 a2 Q2 q2 si wr ho) {p k : Nat} {v : Value} (hp : N < p) (hp3 : p ≤ N + 3) (s' : Nat → Nat) (w' h' : Nat → Bool)
    (hs : AR (N + 1) 10 (fun k => .int .i64 (s' k : Int)) (U.setCell ⟨p, k, none⟩ v)) (hw : AR (N + 2) 10 (fun k => .bool (w' k)) (U.setCell ⟨p, k, none⟩ v)) (hh : AR (N + 3) 10 (fun k => .bool (h' k)) (U.setCell ⟨p, k, none⟩ v)) :
    AlS w N (U.setCell ⟨p, k, none⟩ v) l A ac Q qc r A2 a2 Q2 q2 s' w' h' := by
  have hk : ∀ g, g ≠ p → (U.setCell ⟨p, k, none⟩ v).heap[g]? = U.heap[g]? := fun g hg => Below.heap_setCell U ⟨p, k, none⟩ v g hg
  exact ⟨h.hb.keep (hk _ (by omega)), (h.hm.keep fun b hb => hk b (by omega)).imp fun b hb => by simpa using hb, hs, hw, hh, h.below.setCell (p := ⟨p, k, none⟩) (by show N ≤ p; omega) _⟩
theorem AlS.setS (h : AlS w N U l A ac Q qc r A2 a2 Q2 q2 si wr ho) {k : Nat} (hk : k < 10) (v : Nat) : AlS w N (U.setCell ⟨N + 1, k, none⟩ (.int .i64 (v : Int))) l A ac Q qc r A2 a2 Q2 q2 (fun j => if j = k then v else si j) wr ho := by
  refine h.set (by omega) (by omega) _ _ _ ((h.s.set _ hk).congr fun j _ => ?_) (h.wv.keep (Below.heap_setCell U ⟨N + 1, k, none⟩ _ (N + 2) (by show N + 2 ≠ N + 1; omega))) (h.hv.keep (Below.heap_setCell U ⟨N + 1, k, none⟩ _ (N + 3) (by show N + 3 ≠ N + 1; omega)))
  by_cases hj : j = k <;> simp [hj]
theorem AlS.setW (h : AlS w N U l A ac Q qc r A2 a2 Q2 q2 si wr ho) {k : Nat} (hk : k < 10) (v : Bool) : AlS w N (U.setCell ⟨N + 2, k, none⟩ (.bool v)) l A ac Q qc r A2 a2 Q2 q2 si (fun j => if j = k then v else wr j) ho := by
  refine h.set (by omega) (by omega) _ _ _ (h.s.keep (Below.heap_setCell U ⟨N + 2, k, none⟩ _ (N + 1) (by show N + 1 ≠ N + 2; omega))) ((h.wv.set _ hk).congr fun j _ => ?_) (h.hv.keep (Below.heap_setCell U ⟨N + 2, k, none⟩ _ (N + 3) (by show N + 3 ≠ N + 2; omega)))
  by_cases hj : j = k <;> simp [hj]
theorem AlS.setH (h : AlS w N U l A ac Q qc r A2 a2 Q2 q2 si wr ho) {k : Nat} (hk : k < 10) (v : Bool) : AlS w N (U.setCell ⟨N + 3, k, none⟩ (.bool v)) l A ac Q qc r A2 a2 Q2 q2 si wr (fun j => if j = k then v else ho j) := by
  refine h.set (by omega) (by omega) _ _ _ (h.s.keep (Below.heap_setCell U ⟨N + 3, k, none⟩ _ (N + 1) (by show N + 1 ≠ N + 3; omega))) (h.wv.keep (Below.heap_setCell U ⟨N + 3, k, none⟩ _ (N + 2) (by show N + 2 ≠ N + 3; omega))) ((h.hv.set _ hk).congr fun j _ => ?_)
  by_cases hj : j = k <;> simp [hj]
theorem AlS.put (h : AlS w N U l A ac Q qc r A2 a2 Q2 q2 si wr ho) : AlS w N (fill3 U N r A2 a2 Q2 q2) r A2 a2 Q2 q2 r A2 a2 Q2 q2 si wr ho :=
  ⟨h.hb.fill, (h.hm.keep fun d hd => fill3_keep (by omega)).imp fun d hd => ⟨hd.1, by rw [fill3_size]; exact hd.2⟩, h.s.keep (fill3_keep (by omega)), h.wv.keep (fill3_keep (by omega)), h.hv.keep (fill3_keep (by omega)), fill3_below h.below (Nat.le_refl _)⟩
theorem AlS.congr {si' : Nat → Nat} {wr' ho' : Nat → Bool} (h : AlS w N U l A ac Q qc r A2 a2 Q2 q2 si wr ho) (h1 : ∀ k, k < 10 → si k = si' k) (h2 : ∀ k, k < 10 → wr k = wr' k) (h3 : ∀ k, k < 10 → ho k = ho' k) : AlS w N U l A ac Q qc r A2 a2 Q2 q2 si' wr' ho' :=
  ⟨h.hb, h.hm, h.s.congr fun k hk => by rw [h1 k hk], h.wv.congr fun k hk => by rw [h2 k hk], h.hv.congr fun k hk => by rw [h3 k hk], h.below⟩
theorem AlS.start (w : World) (u v : TypeId) : ∃ U0, U0 = (((w.alloc (.cells #[.slice none 0 0, .bool false, .slice none 0 0] 25)).alloc (.cells #[.int .i64 0, .int .i64 0, .int .i64 0, .int .i64 0, .int .i64 0, .int .i64 0, .int .i64 0, .int .i64 0, .int .i64 0, .int .i64 0] u)).alloc (.cells #[.bool false, .bool false, .bool false, .bool false, .bool false, .bool false, .bool false, .bool false, .bool false, .bool false] v)).alloc (.cells #[.bool false, .bool false, .bool false, .bool false, .bool false, .bool false, .bool false, .bool false, .bool false, .bool false] v) ∧
    AlS w w.heap.size U0 ⟨[], false, []⟩ none 0 none 0 ⟨[], false, []⟩ none 0 none 0 (fun _ => 0) (fun _ => false) (fun _ => false) := by
  obtain ⟨X1, h1⟩ : ∃ X1, X1 = w.alloc (.cells #[.slice none 0 0, .bool false, .slice none 0 0] 25) := ⟨_, rfl⟩
  obtain ⟨X2, h2⟩ : ∃ X2, X2 = X1.alloc (.cells #[.int .i64 0, .int .i64 0, .int .i64 0, .int .i64 0, .int .i64 0, .int .i64 0, .int .i64 0, .int .i64 0, .int .i64 0, .int .i64 0] u) := ⟨_, rfl⟩
  obtain ⟨X3, h3⟩ : ∃ X3, X3 = X2.alloc (.cells #[.bool false, .bool false, .bool false, .bool false, .bool false, .bool false, .bool false, .bool false, .bool false, .bool false] v) := ⟨_, rfl⟩
  obtain ⟨X4, h4⟩ : ∃ X4, X4 = X3.alloc (.cells #[.bool false, .bool false, .bool false, .bool false, .bool false, .bool false, .bool false, .bool false, .bool false, .bool false] v) := ⟨_, rfl⟩
  have s1 : X1.heap.size = w.heap.size + 1 := by rw [h1]; simp
  have s2 : X2.heap.size = w.heap.size + 2 := by rw [h2]; simp [s1]
  have s3 : X3.heap.size = w.heap.size + 3 := by rw [h3]; simp [s2]
  have b1 : Below w.heap.size w X1 := by rw [h1]; exact (Below.refl _ _).alloc (Nat.le_refl _) _
  have b2 : Below X1.heap.size X1 X2 := by rw [h2]; exact (Below.refl _ _).alloc (Nat.le_refl _) _
  have b3 : Below X2.heap.size X2 X3 := by rw [h3]; exact (Below.refl _ _).alloc (Nat.le_refl _) _
  have b4 : Below X3.heap.size X3 X4 := by rw [h4]; exact (Below.refl _ _).alloc (Nat.le_refl _) _
  have f10 : ∀ (x : Value) (k : Nat), k < 10 → (#[x, x, x, x, x, x, x, x, x, x] : Array Value)[k]? = some x := fun x k hk => by
    rcases k with _ | _ | _ | _ | _ | _ | _ | _ | _ | _ | k <;> first | rfl | omega
  refine ⟨X4, by rw [h4, h3, h2, h1], ?_, LM.nil, ?_, ?_, ?_, ((b1.trans (b2.mono (by omega))).trans (b3.mono (by omega))).trans (b4.mono (by omega))⟩
  · exact (((LB.of (t := 25) (by rw [h1, heap_alloc_new]; rfl)).up b2 (by omega)).up b3 (by omega)).up b4 (by omega)
  · rw [← s1]
    exact (((AR.of (f := fun _ => .int .i64 0) (by rw [h2, heap_alloc_new]) (f10 _)).up b3 (by omega)).up b4 (by omega)).congr fun _ _ => rfl
  · rw [← s2]
    exact (AR.of (by rw [h3, heap_alloc_new]) (f10 _)).up b4 (by omega)
  · rw [← s3]
    exact AR.of (by rw [h4, heap_alloc_new]) (f10 _)
end
end Go.Proofs.Ytigffndobddflaa
