/- Halls in memory; the contracts of admit.claimable, left, open. -/
import Derived.Test.YthhfhgkkfaghoaaAdm0
import Derived.Test.YthhfhgkkfaghoaaBank6a
import Derived.Test.YthhfhgkkfaghoaaQuiet
import Derived.Test.YthhfhgkkfaghoaaRegD
import Derived.Test.YthhfhgkkfaghoaaApp
import Derived.Test.YthhfhgkkfaghoaaEqual
import Derived.IntWalk
namespace Go.Proofs.Ythhfhgkkfaghoaa
open Go.RowKit

def T.cells (t : T) : List Value := [.int .i64 t.who, .int .i64 t.claim]
theorem t_len (t : T) : t.cells.length = 2 := rfl
theorem t_one : ∀ t : T, ∀ u ∈ T.cells t, u.oneCell' = true := by
  intro x u hu; simp [T.cells] at hu; rcases hu with rfl | rfl <;> rfl
theorem c_len (c : C) : c.cells.length = 3 := rfl
theorem c_one : ∀ c : C, ∀ u ∈ C.cells c, u.oneCell' = true := by
  intro x u hu; simp [C.cells] at hu; rcases hu with rfl | rfl | rfl <;> rfl
theorem rd_t {w : World} {B : Nat} {A : Option Addr} {l : List T} (h : Rd T.cells 2 w B A l) {k : Nat} (hk : k < l.length) :
    ∃ c b off, l[k]? = some c ∧ A = some ⟨b, off, none⟩ ∧ b < B ∧ ∀ W, Below B w W → W.cell? ⟨b, off + k * 2, none⟩ = some (.int .i64 c.who) ∧ W.cell? ⟨b, off + k * 2 + 1, none⟩ = some (.int .i64 c.claim) := by
  obtain ⟨c, b, off, hc, hA, hb, hcell⟩ := h.at_ hk
  exact ⟨c, b, off, hc, hA, hb, fun W hW => ⟨hcell W hW 0 _ rfl, hcell W hW 1 _ rfl⟩⟩
theorem cells_of {V : World} {b : Nat} {cs : Array Value} {t : TypeId} (h : V.heap[b]? = some (.cells cs t (0, 0))) (j : Nat) : V.cell? ⟨b, j, none⟩ = cs[j]? := by simp [World.cell?, h]
theorem frozen_of {V : World} {b : Nat} {cs : Array Value} {t : TypeId} (h : V.heap[b]? = some (.cells cs t (0, 0))) (j : Nat) : V.frozen? ⟨b, j, none⟩ = false := by simp [World.frozen?, h]

/-- a list that lies in memory, in a block of which something is known -/
def Rd' {α : Type} (f : α → List Value) (sz : Nat) (w : World) (ok : Nat → Prop) (A : Option Addr) (l : List α) : Prop :=
  l ≠ [] → ∃ b off, A = some ⟨b, off, none⟩ ∧ ok b ∧ ∀ k x, l[k]? = some x → ∀ j v, (f x)[j]? = some v → w.cell? ⟨b, off + k * sz + j, none⟩ = some v
section
variable {α : Type} {f : α → List Value} {sz : Nat} {w w' : World} {ok ok' : Nat → Prop} {A : Option Addr} {l : List α} {B : Nat}
theorem Rd'.imp (h : Rd' f sz w ok A l) (hi : ∀ b, ok b → ok' b) : Rd' f sz w ok' A l := fun hn => by
  obtain ⟨b, off, e, hb, hc⟩ := h hn
  exact ⟨b, off, e, hi b hb, hc⟩
theorem Rd'.nil : Rd' f sz w ok A ([] : List α) := fun h => absurd rfl h
theorem Rd'.keep (h : Rd' f sz w ok A l) (hk : ∀ b, ok b → w'.heap[b]? = w.heap[b]?) : Rd' f sz w' ok A l := fun hn => by
  obtain ⟨b, off, e, hb, hc⟩ := h hn
  exact ⟨b, off, e, hb, fun k x hx j v hv => (World.cell?_of_block (a := ⟨b, off + k * sz + j, none⟩) (hk b hb)).trans (hc k x hx j v hv)⟩
theorem Rd.to' (h : Rd f sz w B A l) : Rd' f sz w (fun b => b < B) A l := h
theorem Rd'.to (h : Rd' f sz w ok A l) (hi : ∀ b, ok b → b < B) : Rd f sz w B A l := h.imp hi
theorem Rd'.of_own {base : Nat} {e : TypeId} {c : Nat} {n : Nat} (h : w.ownsRow base e sz (.slice A n c) n (l.flatMap f)) (hf : ∀ x, (f x).length = sz) (hsz : 0 < sz) : Rd' f sz w (fun b => base ≤ b ∧ b < w.heap.size) A l := fun hn => by
  obtain ⟨b, off, e1, hb, hc⟩ := Rd.of_own h hf hsz hn
  exact ⟨b, off, e1, ⟨(h.lt b (by rw [e1]; rfl)).1, hb⟩, hc⟩
/-- the rest of a list, behind k elements -/
theorem Rd'.drop {b0 off0 : Nat} (h : Rd' f sz w ok (some ⟨b0, off0, none⟩) l) (k : Nat) : Rd' f sz w ok (some ⟨b0, off0 + k * sz, none⟩) (l.drop k) := fun hn => by
  obtain ⟨b, off, e, hb, hc⟩ := h (fun e => hn (by rw [e]; simp))
  injection e with e
  injection e with e1 e2
  subst e1 e2
  refine ⟨b0, off0 + k * sz, rfl, hb, fun j x hx i v hv => ?_⟩
  rw [List.getElem?_drop] at hx
  have := hc (k + j) x hx i v hv
  rwa [Nat.add_mul, ← Nat.add_assoc] at this
end

/-- a hall's box -/
structure HB (N : Nat) (h : Hall) (A : Option Addr) (ac : Nat) (Q : Option Addr) (qc : Nat) (U : World) : Prop where
  c0 : U.cell? ⟨N, 0, none⟩ = some (.int .i64 h.frames)
  c1 : U.cell? ⟨N, 1, none⟩ = some (.int .i64 h.budget)
  c2 : U.cell? ⟨N, 2, none⟩ = some (.slice A h.cs.length ac)
  c3 : U.cell? ⟨N, 3, none⟩ = some (.slice Q h.q.length qc)
  f0 : U.frozen? ⟨N, 0, none⟩ = false
  f1 : U.frozen? ⟨N, 1, none⟩ = false
  f2 : U.frozen? ⟨N, 2, none⟩ = false
  f3 : U.frozen? ⟨N, 3, none⟩ = false
  lt : N < U.heap.size
theorem HB.keep {N : Nat} {h : Hall} {A Q : Option Addr} {ac qc : Nat} {U U' : World} (H : HB N h A ac Q qc U) (hk : U'.heap[N]? = U.heap[N]?) : HB N h A ac Q qc U' := by
  have hlt : N < U'.heap.size := by
    have h1 := Array.getElem?_eq_getElem H.lt
    rw [← hk] at h1
    exact (Array.getElem?_eq_some_iff.1 h1).1
  exact ⟨(World.cell?_of_block (a := ⟨N, 0, none⟩) hk).trans H.c0, (World.cell?_of_block (a := ⟨N, 1, none⟩) hk).trans H.c1, (World.cell?_of_block (a := ⟨N, 2, none⟩) hk).trans H.c2, (World.cell?_of_block (a := ⟨N, 3, none⟩) hk).trans H.c3,
    (World.frozen?_of_block (a := ⟨N, 0, none⟩) hk).trans H.f0, (World.frozen?_of_block (a := ⟨N, 1, none⟩) hk).trans H.f1, (World.frozen?_of_block (a := ⟨N, 2, none⟩) hk).trans H.f2, (World.frozen?_of_block (a := ⟨N, 3, none⟩) hk).trans H.f3, hlt⟩
theorem HB.up {N B : Nat} {h : Hall} {A Q : Option Addr} {ac qc : Nat} {U U' : World} (H : HB N h A ac Q qc U) (hb : Below B U U') (hN : N < B) : HB N h A ac Q qc U' := H.keep (hb.block N hN)
theorem HB.of {N : Nat} {h : Hall} {A Q : Option Addr} {ac qc : Nat} {U : World} {t : TypeId} (hU : U.heap[N]? = some (.cells #[.int .i64 h.frames, .int .i64 h.budget, .slice A h.cs.length ac, .slice Q h.q.length qc] t (0, 0))) : HB N h A ac Q qc U :=
  ⟨cells_of hU 0, cells_of hU 1, cells_of hU 2, cells_of hU 3, frozen_of hU 0, frozen_of hU 1, frozen_of hU 2, frozen_of hU 3, (Array.getElem?_eq_some_iff.1 hU).1⟩

/-- numbers that stay small -/
structure Hall.small (h : Hall) : Prop where
  f1 : 1 ≤ h.frames
  f2 : h.frames ≤ 8
  b1 : 1 ≤ h.budget
  b2 : h.budget ≤ 100
  len : h.cs.length + h.q.length ≤ 41
  cl : smallC h.cs
  tk : ∀ (k : Nat) (t : T), h.q[k]? = some t → 0 ≤ t.claim ∧ t.claim ≤ 100
theorem heldS_le {l : List C} (h : smallC l) : ∀ k, 0 ≤ heldS (l.take k) ∧ heldS (l.take k) ≤ 100 * k
  | 0 => by simp [heldS]
  | k + 1 => by
    have ih := heldS_le h k
    cases hk : l[k]? with
    | none =>
      have : l.take (k + 1) = l.take k := by rw [List.take_add_one, hk]; simp
      rw [this]; omega
    | some c =>
      have := h k c hk
      rw [heldS_snoc hk]; omega
theorem claimS_le {l : List C} (h : smallC l) : ∀ k, 0 ≤ claimS (l.take k) ∧ claimS (l.take k) ≤ 100 * k
  | 0 => by simp [claimS]
  | k + 1 => by
    have ih := claimS_le h k
    cases hk : l[k]? with
    | none =>
      have : l.take (k + 1) = l.take k := by rw [List.take_add_one, hk]; simp
      rw [this]; omega
    | some c =>
      have := h k c hk
      rw [claimS_snoc hk]; omega

theorem claimable_any (w : World) (A Q : Option Addr) (ac qc : Nat) (x : Hall) (n : Int) :
    Calls Try.prog 27 #[.agg #[.int .i64 x.frames, .int .i64 x.budget, .slice A x.cs.length ac, .slice Q x.q.length qc], .int .i64 n] w fun e w' => e = .returned (.bool (okClaim x n)) ∧ Below w.heap.size w w' := by
  by_cases h1 : (1 : Int) ≤ n
  · rcases Int.lt_or_le x.budget x.frames with h2 | h2
    all_goals
      go_enter Try.func27, Try.ntmps27
      go_wp2_with fail
      go_ret
      refine ⟨ret_bool ?_, (Below.refl _ _).alloc (Nat.le_refl _) _⟩
      rw [okClaim, decide_eq_true h1, Bool.true_and, Hall.least]
      split
      · first | rfl | omega
      · first | rfl | (congr 1; apply propext; omega)
  · go_enter Try.func27, Try.ntmps27
    go_wp2_with fail
    go_ret
    refine ⟨ret_bool ?_, (Below.refl _ _).alloc (Nat.le_refl _) _⟩
    rw [okClaim, decide_eq_false (by omega), Bool.false_and]

/-- what a box is made of, and what comes of it -/
theorem hall_box (w : World) (A Q : Option Addr) (ac qc : Nat) (x : Hall) (t : TypeId) : ∃ W, W = w.alloc (.cells #[.int .i64 x.frames, .int .i64 x.budget, .slice A x.cs.length ac, .slice Q x.q.length qc] t) ∧ Below w.heap.size w W ∧ W.heap.size = w.heap.size + 1 ∧ HB w.heap.size x A ac Q qc W :=
  ⟨_, rfl, (Below.refl _ _).alloc (Nat.le_refl _) _, by simp, HB.of (heap_alloc_new w _)⟩

set_option maxHeartbeats 2000000 in
theorem left_any (w : World) (A Q : Option Addr) (ac qc : Nat) (x : Hall) (hx : x.small) (hr : Rd C.cells 3 w w.heap.size A x.cs) :
    Calls Try.prog 45 #[.agg #[.int .i64 x.frames, .int .i64 x.budget, .slice A x.cs.length ac, .slice Q x.q.length qc]] w fun e w' => e = .returned (.int .i64 x.left) ∧ Below w.heap.size w w' := by
  obtain ⟨W, hW, hbW, hsW, hB⟩ := hall_box w A Q ac qc x 25
  have Hr := Lib.hid (hr.up hbW)
  have HbW := Lib.hid hbW
  have HB' := Lib.hid hB
  obtain ⟨c0, c1, c2, c3, _, _, _, _, lt⟩ := hB
  have hW' := hW.symm
  have Hx := Lib.hid hx
  clear hW hbW hr hx
  go_enter Try.func45, Try.ntmps45
  go_wp2_with fail
  go_loopg [3, 11] x.cs.length (fun g n i wr => ∃ k : Nat, k ≤ x.cs.length ∧ g = x.cs.length - k ∧ i = .int .i64 k ∧ n = .int .i64 (x.frames - heldS (x.cs.take k)) ∧ Below W.heap.size W wr)
  case atStart => exact ⟨0, Nat.zero_le _, rfl, rfl, by simp [heldS], Below.refl _ _⟩
  case round =>
    obtain ⟨k, hk, hg, rfl, rfl, hb⟩ := hrel
    have Hg := Lib.hid hg; clear hg
    have h1 := Hx.out.f1; have h2 := Hx.out.f2; have h3 := Hx.out.len; have h4 := heldS_le Hx.out.cl k
    by_cases hlt : k < x.cs.length
    · obtain ⟨c, b, off, hc, rfl, hbb, hcell⟩ := rd_c Hr.out hlt
      obtain ⟨g0, g1, g2⟩ := hcell wr hb
      have h5 := Hx.out.cl k c hc
      have hki : (k : Int) < (x.cs.length : Int) := by omega
      have hsn := heldS_snoc hc
      have ew : IntKind.i64.wrap (x.frames - heldS (x.cs.take k) - c.held) = x.frames - heldS (x.cs.take (k + 1)) := by rw [IntWalk.i64_in _ (by omega), hsn]; omega
      have Hsn := Lib.hid hsn
      clear hcell hc hW' c0 c1 c2 c3 lt h1 h2 h4 h5 hsn
      go_wp2_with fail
      go_roundg (x.cs.length - (k + 1))
      case measure => have := Hg.out; omega
      case rel => exact ⟨k + 1, by omega, rfl, by go_num, rfl, hb.alloc hb.size _⟩
    · obtain rfl : k = x.cs.length := by omega
      go_wp2_with fail
      go_ret
      refine ⟨ret_val ?_, bnext HbW.out hb⟩
      rw [List.take_length]; rfl

theorem openQ_nil (f : Int) (cs : List C) : openQ f cs [] = false := rfl
theorem openQ_full {f : Int} {cs : List C} {q : List T} (h : 8 ≤ cs.length) : openQ f cs q = false := by
  cases q with
  | nil => rfl
  | cons t q => simp only [openQ]; rw [decide_eq_false (by omega), Bool.false_and]
theorem openQ_at {f : Int} {cs : List C} {q : List T} {t : T} (h : cs.length ≤ 7) (ht : q[0]? = some t) : openQ f cs q = decide (t.claim + claimS cs ≤ 2 * f) := by
  cases q with
  | nil => simp at ht
  | cons u q => simp at ht; subst ht; simp only [openQ]; rw [decide_eq_true h, Bool.true_and]
set_option maxHeartbeats 2000000 in
theorem open_any (w : World) (A Q : Option Addr) (ac qc : Nat) (x : Hall) (hx : x.small) (hr : Rd C.cells 3 w w.heap.size A x.cs) (hq : Rd T.cells 2 w w.heap.size Q x.q) :
    Calls Try.prog 46 #[.agg #[.int .i64 x.frames, .int .i64 x.budget, .slice A x.cs.length ac, .slice Q x.q.length qc]] w fun e w' => e = .returned (.bool x.open) ∧ Below w.heap.size w w' := by
  obtain ⟨W, hW, hbW, hsW, hB⟩ := hall_box w A Q ac qc x 25
  have Hr := Lib.hid (hr.up hbW)
  have Hq := Lib.hid (hq.up hbW)
  have HbW := Lib.hid hbW
  have HB' := Lib.hid hB
  obtain ⟨c0, c1, c2, c3, _, _, _, _, lt⟩ := hB
  have hW' := hW.symm
  have Hx := Lib.hid hx
  have h3 := hx.len
  clear hW hbW hr hx hq
  by_cases hq0 : x.q.length = 0
  · have hqi : ((x.q.length : Int) == 0) = true := by rw [hq0]; rfl
    have hne : x.open = false := by
      have : x.q = [] := List.eq_nil_of_length_eq_zero hq0
      rw [Hall.open, this]; rfl
    have Hne := Lib.hid hne; clear hne hq0
    go_enter Try.func46, Try.ntmps46
    go_wp2_with fail
    go_ret
    exact ⟨ret_bool Hne.out.symm, HbW.out⟩
  have hqi : ((x.q.length : Int) == 0) = false := by rw [beq_eq_false_iff_ne]; omega
  by_cases h8 : (8 : Int) ≤ (x.cs.length : Int)
  · go_enter Try.func46, Try.ntmps46
    go_wp2_with fail
    go_ret
    exact ⟨ret_bool (openQ_full (by omega)).symm, HbW.out⟩
  obtain ⟨t, b, off, ht, rfl, hbb, hcell⟩ := rd_t Hq.out (k := 0) (by omega)
  obtain ⟨g0, g1⟩ := hcell W (Below.refl _ _)
  simp only [Nat.zero_mul, Nat.add_zero] at g0 g1
  have h5 := Hx.out.tk 0 t ht
  have hop := openQ_at (f := x.frames) (cs := x.cs) (by omega) ht
  have Hop := Lib.hid hop
  have hql : (0 : Int) < (x.q.length : Int) := by omega
  have hqn : 0 < x.q.length := by omega
  clear hop hcell ht
  go_enter Try.func46, Try.ntmps46
  go_wp2_with fail
  go_loopg [3, 24] x.cs.length (fun g n i wr => ∃ k : Nat, k ≤ x.cs.length ∧ g = x.cs.length - k ∧ i = .int .i64 k ∧ n = .int .i64 (t.claim + claimS (x.cs.take k)) ∧ Below W.heap.size W wr)
  case atStart => exact ⟨0, Nat.zero_le _, rfl, rfl, by simp [claimS], Below.refl _ _⟩
  case round =>
    obtain ⟨k, hk, hg, rfl, rfl, hb⟩ := hrel
    have Hg := Lib.hid hg; clear hg
    have h1 := Hx.out.f1; have h2 := Hx.out.f2; have h4 := claimS_le Hx.out.cl k
    clear hW' g0 g1
    by_cases hlt : k < x.cs.length
    · obtain ⟨c, b, off, hc, rfl, hbb, hcell⟩ := rd_c Hr.out hlt
      obtain ⟨g0, g1, g2⟩ := hcell wr hb
      have h6 := Hx.out.cl k c hc
      have hki : (k : Int) < (x.cs.length : Int) := by omega
      have hsn := claimS_snoc hc
      have ew : IntKind.i64.wrap (t.claim + claimS (x.cs.take k) + c.claim) = t.claim + claimS (x.cs.take (k + 1)) := by rw [IntWalk.i64_in _ (by omega), hsn]; omega
      have Hsn := Lib.hid hsn
      clear hcell hc c0 c1 c2 c3 lt h1 h2 h4 h5 h6 hsn
      go_wp2_with fail
      go_roundg (x.cs.length - (k + 1))
      case measure => have := Hg.out; omega
      case rel => exact ⟨k + 1, by omega, rfl, by go_num, rfl, hb.alloc hb.size _⟩
    · obtain rfl : k = x.cs.length := by omega
      have e0 := (HB'.out.up hb (by omega)).c0
      rw [List.take_length] at h4 ⊢
      have ew : IntKind.i64.wrap (2 * x.frames) = 2 * x.frames := IntWalk.i64_in _ (by omega)
      have hNr : w.heap.size < wr.heap.size := by have := hb.size; omega
      clear h4 h5
      go_wp2_with fail
      go_ret
      exact ⟨ret_bool Hop.out.symm, bnext HbW.out hb⟩
end Go.Proofs.Ythhfhgkkfaghoaa
