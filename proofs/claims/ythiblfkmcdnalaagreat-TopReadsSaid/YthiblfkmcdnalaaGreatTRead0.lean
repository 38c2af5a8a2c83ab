/- slices.Backward over the waiting writes: its iterator's contract. -/
import Derived.RangeFuncNested
import Derived.RangeFuncBound
import Derived.RangeFuncCalls
import Derived.RangeFuncLeaves
import Derived.RangeFuncWrites
import Derived.RangeFuncBox
import Derived.Shelf.Abstract
import Derived.Shelf.RegionOpen
import Derived.OwnWalkIn
import Derived.TacticsInMore
import Derived.LoopNIn
import Derived.LoopIn
import Derived.Test.YthiblfkmcdnalaaGreatTDisk1
namespace Go.Proofs.YthiblfkmcdnalaaGreat
set_option maxRecDepth 1000000
open Go.RowKit Go.Shelf
set_option maxRecDepth 1000000

attribute [local go_sem] Oper.semAt_some

/-- what has come when k rounds are over -/
def upto {α : Type} (f : Nat → α) (k : Nat) : List α := (List.range k).map f
theorem upto_succ {α : Type} (f : Nat → α) (k : Nat) : upto f (k + 1) = upto f k ++ [f k] := by simp [upto, List.range_succ]
theorem upto_len {α : Type} (f : Nat → α) (k : Nat) : (upto f k).length = k := by simp [upto]
/-- the k-th one from the end -/
def dn (l : List Wr) (k : Nat) : Nat × Wr := (l.length - 1 - k, l[l.length - 1 - k]?.getD ⟨0, ⟨#[]⟩⟩)
theorem dn_at {l : List Wr} {r k : Nat} {x : Wr} (h : r + 1 + k = l.length) (hx : l[r]? = some x) : dn l k = (r, x) := by
  have e : l.length - 1 - k = r := by omega
  simp [dn, e, hx]

set_option maxHeartbeats 2000000 in
theorem back1_in (F : Fence) (n : Nat) (h1 : F.fn 101) (hro : F.round = none) (hn : 1 ≤ n) (l Bs n₀ cap : Nat) (A : Option Addr) (zl : List Wr) (J Jx : List (Nat × Wr) → World → Prop)
    (hY : ∀ pre x W, J pre W → pre.length < zl.length → YieldAt F (n - 1) Tryz.prog l #[.int .i64 (x.1 : Int), .agg #[.int .i64 x.2.pos, .string x.2.data]] W fun e W' =>
      (e = .returned (.bool true) ∧ J (pre ++ [x]) W' ∧ Below n₀ W W') ∨ (e = .returned (.bool false) ∧ Jx (pre ++ [x]) W'))
    (W : World) (hBs : W.cell? ⟨Bs, 0, none⟩ = some (.slice A zl.length cap)) (hBn : Bs < n₀) (hzl : zl.length ≤ 1000) (hr : Rd Wr.cells 2 W n₀ A zl) (h0 : J [] W) :
    CallsIn F n Tryz.prog 101 #[.func (.yield l) #[] #[], .pointer (some ⟨Bs, 0, none⟩)] W fun e W' => (∃ v, e = .returned v) ∧
      ((∃ ys, ys = upto (dn zl) zl.length ∧ J ys W') ∨ (∃ pre, (∃ k, k ≤ zl.length ∧ pre = upto (dn zl) k) ∧ Jx pre W')) := by
  refine callsIn_of_wp Tryz.func101 rfl h1 ?_ hro
  simp only [Tryz.ntmps101, List.size_toArray, List.length_cons, List.length_nil, Nat.reduceAdd, Nat.reduceSub, Array.replicate_succ, Array.replicate_zero, List.push_toArray, List.append_toArray, List.nil_append, List.cons_append]
  have Hr := Lib.hid hr; clear hr
  gi_wp2
  gi_loopw [3] (fun i wr => ∃ r k : Nat, r + k = zl.length ∧ i = .int .i64 ((r : Int) - 1) ∧ J (upto (dn zl) k) wr ∧ Below n₀ W wr)
    (fun i _ => (intOf i + 1).toNat)
  case atStart => exact ⟨zl.length, 0, rfl, rfl, h0, Below.refl _ _⟩
  case round =>
    obtain ⟨r, k, hrk, rfl, hJs, hnx⟩ := hrel
    have hBs' := (hnx.cell (p := ⟨Bs, 0, none⟩) hBn).trans hBs
    cases r with
    | zero =>
      rw [show ((0 : Nat) : Int) - 1 = -1 from rfl]
      obtain rfl : k = zl.length := by omega
      gi_wp2
      go_end0
      exact ⟨⟨_, rfl⟩, .inl ⟨_, rfl, hJs⟩⟩
    | succ r =>
      rw [show ((r + 1 : Nat) : Int) - 1 = r from by omega]
      have hrl : r < zl.length := by omega
      obtain ⟨x, b, off, hx, hA, hb, hc⟩ := Hr.out.at_ hrl
      have g0 := hc wr hnx 0 (.int .i64 x.pos) rfl
      have g1 := hc wr hnx 1 (.string x.data) rfl
      simp only [Nat.add_zero] at g0
      obtain ⟨fn, tmps, assign, body, hy, hR⟩ := hY _ (r, x) wr hJs (by rw [upto_len]; omega)
      dsimp only at hy
      have Hx := Lib.hid hx
      have Hrk := Lib.hid hrk
      have hri : (r : Int) < (zl.length : Int) := by omega
      clear hc hx hrk hBs
      subst hA
      gi_wp2
      refine hR.mono ?_
      have hd := dn_at Hrk.out Hx.out
      rintro e W3 (⟨rfl, hJ3, hk3⟩ | ⟨rfl, hJx3⟩)
      · gi_wp2
        go_roundw
        case rel => exact ⟨r, k + 1, by have := Hrk.out; omega, rfl, by rw [upto_succ, hd]; exact hJ3, hnx.trans hk3⟩
        case measure => simp [intOf]
      · gi_wp2
        refine bodyPost_ret (results_none rfl _ _ _) rfl ?_
        exact ⟨⟨_, rfl⟩, .inr ⟨_, ⟨k + 1, by have := Hrk.out; omega, by rw [upto_succ, hd]⟩, hJx3⟩⟩
end Go.Proofs.YthiblfkmcdnalaaGreat
