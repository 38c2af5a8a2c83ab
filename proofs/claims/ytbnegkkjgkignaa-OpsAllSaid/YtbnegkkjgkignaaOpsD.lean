/- The plain law of an operation, by where the page stands; and the boxes of ops.Do. -/
import Derived.Test.YtbnegkkjgkignaaOpsR
import Derived.Test.YtbnegkkjgkignaaRow
import Derived.Test.YtbnegkkjgkignaaPgClone
import Derived.Laws.OwnMore
namespace Go.Proofs.Ytbnegkkjgkignaa
open Go.RowKit

theorem place_cases {l : List Pg} (h : rightM l = true) (id : Int) : (∃ k, placeM l id = (k, false) ∧ k ≤ l.length) ∨ (∃ k p, placeM l id = (k, true) ∧ l[k]? = some p ∧ p.id = id ∧ k < l.length) := by
  obtain ⟨a, b, rfl, ha, hb⟩ := split_spec id l (sorted_of_right h)
  rcases hb with hb | ⟨p, c, rfl, hp, hc⟩
  · exact .inl ⟨a.length, place_not ha hb, by simp⟩
  · exact .inr ⟨a.length, p, place_is ha hp, by simp, hp, by simp⟩
section
variable {l : List Pg} {o : Op} {k : Nat} {p : Pg}
theorem doM_op (h : o.right = false) : doM l o = (l, ⟨1, pg0⟩) := by
  unfold doM
  split
  · rfl
  · rfl
theorem doM_there (h : rightM l = true) (ho : o.right = true) (hk : placeM l o.id = (k, true)) (h1 : o.kind = 1) : doM l o = (l, ⟨4, pg0⟩) := by simp [doM, h, ho, hk, h1]
theorem doM_new (h : rightM l = true) (ho : o.right = true) (hk : placeM l o.id = (k, false)) (h1 : o.kind = 1) : doM l o = (l.take k ++ pgNew o.id :: l.drop k, ⟨0, pgNew o.id⟩) := by simp [doM, h, ho, hk, h1]
theorem doM_none (h : rightM l = true) (ho : o.right = true) (hk : placeM l o.id = (k, false)) (h1 : ¬ o.kind = 1) : doM l o = (l, ⟨3, pg0⟩) := by simp [doM, h, ho, hk, h1]
theorem doM_read (h : rightM l = true) (ho : o.right = true) (hk : placeM l o.id = (k, true)) (hp : l[k]? = some p) (h1 : o.kind = 2) : doM l o = (l, ⟨0, p⟩) := by simp [doM, h, ho, hk, h1, hp]
theorem doM_del (h : rightM l = true) (ho : o.right = true) (hk : placeM l o.id = (k, true)) (hp : l[k]? = some p) (h1 : o.kind = 4) : doM l o = (l.take k ++ l.drop (k + 1), ⟨0, pg0⟩) := by simp [doM, h, ho, hk, h1, hp]
theorem doM_long (h : rightM l = true) (ho : o.right = true) (hk : placeM l o.id = (k, true)) (hp : l[k]? = some p) (h1 : o.kind = 3) (h2 : 16 < o.body.size) : doM l o = (l, ⟨5, pg0⟩) := by simp [doM, h, ho, hk, h1, hp, h2]
theorem doM_full (h : rightM l = true) (ho : o.right = true) (hk : placeM l o.id = (k, true)) (hp : l[k]? = some p) (h1 : o.kind = 3) (h2 : ¬ 16 < o.body.size) (h3 : 2147483647 ≤ p.ver) : doM l o = (l, ⟨7, pg0⟩) := by simp [doM, h, ho, hk, h1, hp, h2, h3]
theorem doM_up (h : rightM l = true) (ho : o.right = true) (hk : placeM l o.id = (k, true)) (hp : l[k]? = some p) (h1 : o.kind = 3) (h2 : ¬ 16 < o.body.size) (h3 : ¬ 2147483647 ≤ p.ver) : doM l o = (l.set k (pgUp p o.body), ⟨0, pgUp p o.body⟩) := by simp [doM, h, ho, hk, h1, hp, h2, h3]
end
theorem cells_of {V : World} {b : Nat} {cs : Array Value} {t : TypeId} (h : V.heap[b]? = some (.cells cs t (0, 0))) (j : Nat) : V.cell? ⟨b, j, none⟩ = cs[j]? := by simp [World.cell?, h]
theorem frozen_of {V : World} {b : Nat} {cs : Array Value} {t : TypeId} (h : V.heap[b]? = some (.cells cs t (0, 0))) (j : Nat) : V.frozen? ⟨b, j, none⟩ = false := by simp [World.frozen?, h]
def pgV (p : Pg) : Value := .agg #[.int .i64 p.id, .int .i64 p.ver, .string p.body]
def opV (o : Op) : Value := .agg #[.int .i64 o.kind, .int .i64 o.id, .string o.body]
def rsV (r : Rs) : Value := .agg #[.int .i64 r.e, .int .i64 r.pg.id, .int .i64 r.pg.ver, .string r.pg.body]
theorem below_set4 {B b : Nat} {a w : World} {u0 u1 u2 u3 : Value} (h : Below B a w) (hb : B ≤ b) : Below B a ((((w.setCell ⟨b, 0, none⟩ u0).setCell ⟨b, 1, none⟩ u1).setCell ⟨b, 2, none⟩ u2).setCell ⟨b, 3, none⟩ u3) :=
  (((h.setCell (p := ⟨b, 0, none⟩) hb _).setCell (p := ⟨b, 1, none⟩) hb _).setCell (p := ⟨b, 2, none⟩) hb _).setCell (p := ⟨b, 3, none⟩) hb _
theorem below_set3 {B b j0 j1 j2 : Nat} {a w : World} {u0 u1 u2 : Value} (h : Below B a w) (hb : B ≤ b) : Below B a (((w.setCell ⟨b, j0, none⟩ u0).setCell ⟨b, j1, none⟩ u1).setCell ⟨b, j2, none⟩ u2) :=
  ((h.setCell (p := ⟨b, j0, none⟩) hb _).setCell (p := ⟨b, j1, none⟩) hb _).setCell (p := ⟨b, j2, none⟩) hb _
theorem below_end {B b c : Nat} {a w : World} {u0 u1 u2 u3 u4 : Value} (h : Below B a w) (hb : B ≤ b) (hc : B ≤ c) : Below B a (((((w.setCell ⟨b, 0, none⟩ u0).setCell ⟨c, 0, none⟩ u1).setCell ⟨c, 1, none⟩ u2).setCell ⟨c, 2, none⟩ u3).setCell ⟨c, 3, none⟩ u4) :=
  below_set4 (h.setCell (p := ⟨b, 0, none⟩) hb _) hc
theorem own_end {w : World} {base sz n b c : Nat} {e : TypeId} {v : Value} {xs : List Value} {u0 u1 u2 u3 u4 : Value} (h : w.ownsRow base e sz v n xs) (hb : b < base) (hc : c < base) :
    (((((w.setCell ⟨b, 0, none⟩ u0).setCell ⟨c, 0, none⟩ u1).setCell ⟨c, 1, none⟩ u2).setCell ⟨c, 2, none⟩ u3).setCell ⟨c, 3, none⟩ u4).ownsRow base e sz v n xs := by
  have h1 : v.ownBlock ≠ some b := fun e => by have := (h.lt _ e).1; omega
  have h2 : v.ownBlock ≠ some c := fun e => by have := (h.lt _ e).1; omega
  exact own_setCell (own_setCell (own_setCell (own_setCell (own_setCell h h1 _) h2 _) h2 _) h2 _) h2 _
theorem flat_set3 : ∀ (T : List Pg) (i : Nat) (p : Pg), i < T.length → (((T.flatMap Pg.cells).set (i * 3) (.int .i64 p.id)).set (i * 3 + 1) (.int .i64 p.ver)).set (i * 3 + 2) (.string p.body) = (T.set i p).flatMap Pg.cells
  | [], i, p, h => by simp at h
  | x :: T, 0, p, _ => by simp [Pg.cells]
  | x :: T, i + 1, p, h => by
    have e := flat_set3 T i p (by simpa using h)
    rw [List.set_cons_succ, List.flatMap_cons, List.flatMap_cons, ← e]
    simp [Pg.cells, Nat.succ_mul]
theorem own_set3 {w : World} {B g n c : Nat} {E : TypeId} {T : List Pg} {i : Nat} (p : Pg) (h : w.ownsRow B E 3 (.slice (some ⟨g, 0, none⟩) n c) n (T.flatMap Pg.cells)) (hi : i < T.length) :
    (((w.setCell ⟨g, i * 3, none⟩ (.int .i64 p.id)).setCell ⟨g, i * 3 + 1, none⟩ (.int .i64 p.ver)).setCell ⟨g, i * 3 + 2, none⟩ (.string p.body)).ownsRow B E 3 (.slice (some ⟨g, 0, none⟩) n c) n ((T.set i p).flatMap Pg.cells) := by
  rw [← flat_set3 T i p hi]
  exact ((((h.stored _ _).1.stored _ _).1).stored _ _).1
theorem own_some {w : World} {B g n c sz : Nat} {E : TypeId} {xs : List Value} (h : w.ownsRow B E sz (.slice (some ⟨g, 0, none⟩) n c) n xs) {j : Nat} (hj : j < n * sz) : ∃ u, w.cell? ⟨g, j, none⟩ = some u :=
  ⟨_, (h.cellAt j hj).trans (List.getElem?_eq_getElem (by rw [h.1]; exact hj))⟩
/-- the boxes of ops.Do: the map, the operation, the map and the result told -/
structure Box (N : Nat) (A : Option Addr) (n cap : Nat) (o : Op) (U : World) : Prop where
  c00 : U.cell? ⟨N, 0, none⟩ = some (.slice A n cap)
  c10 : U.cell? ⟨N + 1, 0, none⟩ = some (.int .i64 o.kind)
  c11 : U.cell? ⟨N + 1, 1, none⟩ = some (.int .i64 o.id)
  c12 : U.cell? ⟨N + 1, 2, none⟩ = some (.string o.body)
  c20 : U.cell? ⟨N + 1 + 1, 0, none⟩ = some (.slice none 0 0)
  c30 : U.cell? ⟨N + 1 + 1 + 1, 0, none⟩ = some (.int .i64 0)
  c31 : U.cell? ⟨N + 1 + 1 + 1, 1, none⟩ = some (.int .i64 0)
  c32 : U.cell? ⟨N + 1 + 1 + 1, 2, none⟩ = some (.int .i64 0)
  c33 : U.cell? ⟨N + 1 + 1 + 1, 3, none⟩ = some (.string ⟨#[]⟩)
  f20 : U.frozen? ⟨N + 1 + 1, 0, none⟩ = false
  f30 : U.frozen? ⟨N + 1 + 1 + 1, 0, none⟩ = false
  f31 : U.frozen? ⟨N + 1 + 1 + 1, 1, none⟩ = false
  f32 : U.frozen? ⟨N + 1 + 1 + 1, 2, none⟩ = false
  f33 : U.frozen? ⟨N + 1 + 1 + 1, 3, none⟩ = false
theorem Box.up {N : Nat} {A : Option Addr} {n cap : Nat} {o : Op} {U U' : World} (h : Box N A n cap o U) {B : Nat} (hb : Below B U U') (hB : N + 4 ≤ B) : Box N A n cap o U' := by
  have h0 : N < B := by omega
  have h1 : N + 1 < B := by omega
  have h2 : N + 2 < B := by omega
  have h3 : N + 3 < B := by omega
  exact ⟨(hb.cell (p := ⟨N, 0, none⟩) h0).trans h.c00, (hb.cell (p := ⟨N + 1, 0, none⟩) h1).trans h.c10, (hb.cell (p := ⟨N + 1, 1, none⟩) h1).trans h.c11, (hb.cell (p := ⟨N + 1, 2, none⟩) h1).trans h.c12, (hb.cell (p := ⟨N + 1 + 1, 0, none⟩) h2).trans h.c20, (hb.cell (p := ⟨N + 1 + 1 + 1, 0, none⟩) h3).trans h.c30, (hb.cell (p := ⟨N + 1 + 1 + 1, 1, none⟩) h3).trans h.c31, (hb.cell (p := ⟨N + 1 + 1 + 1, 2, none⟩) h3).trans h.c32, (hb.cell (p := ⟨N + 1 + 1 + 1, 3, none⟩) h3).trans h.c33,
    (hb.frozen (p := ⟨N + 1 + 1, 0, none⟩) h2).trans h.f20, (hb.frozen (p := ⟨N + 1 + 1 + 1, 0, none⟩) h3).trans h.f30, (hb.frozen (p := ⟨N + 1 + 1 + 1, 1, none⟩) h3).trans h.f31, (hb.frozen (p := ⟨N + 1 + 1 + 1, 2, none⟩) h3).trans h.f32, (hb.frozen (p := ⟨N + 1 + 1 + 1, 3, none⟩) h3).trans h.f33⟩
theorem box_of (w : World) (A : Option Addr) (n cap : Nat) (o : Op) : Box w.heap.size A n cap o ((((w.alloc (.cells #[.slice A n cap] 24)).alloc (.cells #[.int .i64 o.kind, .int .i64 o.id, .string o.body] 26)).alloc (.cells #[.slice none 0 0] 24)).alloc (.cells #[.int .i64 0, .int .i64 0, .int .i64 0, .string ⟨#[]⟩] 33)) := by
  obtain ⟨W, hW⟩ : ∃ W, W = ((((w.alloc (.cells #[.slice A n cap] 24)).alloc (.cells #[.int .i64 o.kind, .int .i64 o.id, .string o.body] 26)).alloc (.cells #[.slice none 0 0] 24)).alloc (.cells #[.int .i64 0, .int .i64 0, .int .i64 0, .string ⟨#[]⟩] 33)) := ⟨_, rfl⟩
  have hh : W.heap = (((w.heap.push (.cells #[.slice A n cap] 24)).push (.cells #[.int .i64 o.kind, .int .i64 o.id, .string o.body] 26)).push (.cells #[.slice none 0 0] 24)).push (.cells #[.int .i64 0, .int .i64 0, .int .i64 0, .string ⟨#[]⟩] 33) := by rw [hW]; rfl
  rw [← hW]
  have h0 : W.heap[w.heap.size]? = some (.cells #[.slice A n cap] 24 (0, 0)) := by
    rw [hh, Array.getElem?_push, if_neg (by simp; omega), Array.getElem?_push, if_neg (by simp; omega), Array.getElem?_push, if_neg (by simp), Array.getElem?_push, if_pos rfl]
  have h1 : W.heap[w.heap.size + 1]? = some (.cells #[.int .i64 o.kind, .int .i64 o.id, .string o.body] 26 (0, 0)) := by
    rw [hh, Array.getElem?_push, if_neg (by simp), Array.getElem?_push, if_neg (by simp), Array.getElem?_push, if_pos (by simp)]
  have h2 : W.heap[w.heap.size + 2]? = some (.cells #[.slice none 0 0] 24 (0, 0)) := by
    rw [hh, Array.getElem?_push, if_neg (by simp), Array.getElem?_push, if_pos (by simp)]
  have h3 : W.heap[w.heap.size + 3]? = some (.cells #[.int .i64 0, .int .i64 0, .int .i64 0, .string ⟨#[]⟩] 33 (0, 0)) := by
    rw [hh, Array.getElem?_push, if_pos (by simp)]
  exact ⟨cells_of h0 0, cells_of h1 0, cells_of h1 1, cells_of h1 2, cells_of h2 0, cells_of h3 0, cells_of h3 1, cells_of h3 2, cells_of h3 3, frozen_of h2 0, frozen_of h3 0, frozen_of h3 1, frozen_of h3 2, frozen_of h3 3⟩
end Go.Proofs.Ytbnegkkjgkignaa
