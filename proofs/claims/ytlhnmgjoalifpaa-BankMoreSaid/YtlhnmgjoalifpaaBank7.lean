/- The contract of lockkeeperlaw10.awake: the fixed answer is true. -/
import Derived.Test.YtlhnmgjoalifpaaBank3
import Derived.Test.YtlhnmgjoalifpaaEqual
namespace Go.Proofs.Ytlhnmgjoalifpaa
open Go.RowKit

theorem nat_ints (o : List Nat) : o.flatMap natCells = (o.map (fun n : Nat => (n : Int))).flatMap icells := by
  induction o with
  | nil => rfl
  | cons n o ih => rw [List.flatMap_cons, List.map_cons, List.flatMap_cons, ih]; rfl
/-- Ints of the call's own lie in memory. -/
theorem Rd.of_nats {w : World} {base : Nat} {A : Option Addr} {c : Nat} {o : List Nat} {e : TypeId} (h : w.ownsRow base e 1 (.slice A o.length c) o.length (o.flatMap natCells)) : Rd icells 1 w w.heap.size A (o.map (fun n : Nat => (n : Int))) := by
  rw [nat_ints] at h
  exact Rd.of_own h (fun _ => rfl) (by decide)

def two : List C := [⟨1, 2, 1⟩, ⟨2, 3, 2⟩]
set_option maxHeartbeats 1000000 in
theorem awake_any (w : World) : Calls Try.prog 10 #[] w fun e w' => e = .returned (.bool true) ∧ Below w.heap.size w w' := by
  go_enter Try.func10, Try.ntmps10
  have e1 : ordB 1 two = ([0, 1], true) := by decide
  have e2 : safeB 1 two = true := by decide
  have e3 : safeB 0 two = false := by decide
  have e4 : rightB two = true := by decide
  have e5 : decide ((([0, 1] : List Nat).map (fun n : Nat => (n : Int))) = [0, 1]) = true := by decide
  have E1 := Lib.hid e1; clear e1
  have E2 := Lib.hid e2; clear e2
  have E3 := Lib.hid e3; clear e3
  have E4 := Lib.hid e4; clear e4
  have E5 := Lib.hid e5; clear e5
  go_wp2_with fail
  obtain ⟨W, hW⟩ : ∃ W, W = (w.alloc (.cells #[.int .i64 1, .int .i64 2, .int .i64 1, .int .i64 2, .int .i64 3, .int .i64 2] 37)) := ⟨_, rfl⟩
  have hr0 : Rd C.cells 3 W W.heap.size (some ⟨w.heap.size, 0, none⟩) two := by
    rw [hW]
    exact Rd.of_own (base := 0) (World.ownsRow_lit w #[.int .i64 1, .int .i64 2, .int .i64 1, .int .i64 2, .int .i64 3, .int .i64 2] 2 (Nat.zero_le _) (by decide) rfl) (fun _ => rfl) (by decide)
  have hb0 : Below w.heap.size w W := by rw [hW]; exact (Below.refl _ _).alloc (Nat.le_refl _) _
  rw [← hW]
  clear hW
  refine (order_any W _ 2 two 1 (by decide) (by decide) hr0).mono ?_
  rw [E1.out]
  rintro e w1 ⟨O, oc, rfl, hown, hb1⟩
  have hw1 : Below w.heap.size w w1 := hb0.trans (hb1.mono hb0.size)
  go_wp2_with fail
  have hr1 := Rd.of_nats hown
  obtain ⟨W2, hW2⟩ : ∃ W, W = (w1.alloc (.cells #[.int .i64 0, .int .i64 1] 3)) := ⟨_, rfl⟩
  have hb2 : Below w1.heap.size w1 W2 := by rw [hW2]; exact (Below.refl _ _).alloc (Nat.le_refl _) _
  have hr2 : Rd icells 1 W2 W2.heap.size (some ⟨w1.heap.size, 0, none⟩) [0, 1] := by
    rw [hW2]
    exact Rd.of_own (base := 0) (World.ownsRow_lit w1 #[.int .i64 0, .int .i64 1] 2 (Nat.zero_le _) (by decide) rfl) (fun _ => rfl) (by decide)
  have hw2 : Below w.heap.size w W2 := hw1.trans (hb2.mono hw1.size)
  rw [← hW2]
  clear hW2
  refine (equal_any W2 O _ oc 2 _ [0, 1] (by decide) (hr1.up hb2) hr2).mono ?_
  rw [E5.out]
  rintro e w3 ⟨rfl, hb3⟩
  have hw3 : Below w.heap.size w w3 := hw2.trans (hb3.mono hw2.size)
  have hr3 := ((hr0.up hb1).up hb2).up hb3
  clear hr0 hr1 hr2 hown hb1 hb2 hb3
  go_wp2_with fail
  refine (safe_any w3 _ 2 two 1 (by decide) (by decide) hr3).mono ?_
  rw [E2.out]
  rintro e w4 ⟨rfl, hb4⟩
  have hw4 : Below w.heap.size w w4 := hw3.trans (hb4.mono hw3.size)
  have hr4 := hr3.up hb4
  clear hr3 hb4
  go_wp2_with fail
  refine (safe_any w4 _ 2 two 0 (by decide) (by decide) hr4).mono ?_
  rw [E3.out]
  rintro e w5 ⟨rfl, hb5⟩
  have hw5 : Below w.heap.size w w5 := hw4.trans (hb5.mono hw4.size)
  have hr5 := hr4.up hb5
  clear hr4 hb5
  go_wp2_with fail
  refine (right_any w5 _ 2 two (by decide) (by decide) hr5).mono ?_
  rw [E4.out]
  rintro e w6 ⟨rfl, hb6⟩
  go_wp2_with fail
  go_ret
  exact ⟨rfl, hw5.trans (hb6.mono hw5.size)⟩
end Go.Proofs.Ytlhnmgjoalifpaa
