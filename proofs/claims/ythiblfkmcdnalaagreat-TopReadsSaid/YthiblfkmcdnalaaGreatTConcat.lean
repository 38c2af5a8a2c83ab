/- slices.Concat of two empty slices: nil. Printed by gen_concat.py. -/
import Derived.Test.YthiblfkmcdnalaaGreatProg
import Derived.Test.YthiblfkmcdnalaaGreatTBox
namespace Go.Proofs.YthiblfkmcdnalaaGreat
set_option maxRecDepth 1000000
open Go.RowKit
set_option maxRecDepth 1000000

theorem list_run {P : Program} {ops : Array Oper} {rest : List Oper} {o : Oper} {a : Act} {w : World} {Q : Exit → Act → World → Prop} {v : Value} (hgd : o.guard = none) (hrun : (execOp a.eval o).run P w = .ok (.value v) w) (h : wpList P ops Q rest (a.put o.dst v) w) : wpList P ops Q (o :: rest) a w :=
  wpList_plain hgd fun K hK => by
    unfold Oper.wp
    rw [hrun]
    exact hK _ _ h

set_option maxHeartbeats 1000000 in
theorem grow_nil_Rq (w : World) : Calls Tryz.prog 72 #[.slice none 0 0, .int .i64 0] w fun e w' => e = .returned (.slice none 0 0) ∧ w = w' := by
  go_enter Tryz.func72, Tryz.ntmps72
  go_wp2_with fail
  go_ret
  exact ⟨rfl, rfl⟩
theorem append_nil_Rq (ty : TypeId) (ad : Option Addr) (c : Nat) (w : World) : (Builtin.append_ #[35, 35] ty #[.slice none 0 0, .slice ad 0 c]).run Tryz.prog w = .ok (.slice none 0 0) w := by
  obtain ⟨i0, hi, hz0, hz1, hz2⟩ := info_parts (show (Tryz.prog.info? 81).map (fun i => (i.zero, i.size, i.bytes)) = some (some (.agg #[.int .i64 0, .int .i64 0, .int .i64 0, .string ⟨#[]⟩]), 4, 40) from by kernel_rfl)
  cases ad <;> simp [Builtin.append_, run_underlying Tryz.underlying35, sizeOf, typeInfo, hi, Builtin.lenOf, Builtin.firstCells, loadCells, loadCellsFrom]
set_option maxHeartbeats 2000000 in
theorem concat_nil_Rq (w : World) (g : Nat) (P1 P2 : Option Addr) (c1 c2 : Nat) (hB : Bx g 35 #[.slice P1 0 c1, .slice P2 0 c2] w) :
    Calls Tryz.prog 46 #[.slice (some ⟨g, 0, none⟩) 2 2] w fun e w' => e = .returned (.slice none 0 0) ∧ w = w' := by
  obtain ⟨c00, c01, f00, f01, lt0⟩ := hB.c2
  have hg0 : ∀ k : Nat, k < 2 → ∃ P c, w.cell? ⟨g, k, none⟩ = some (.slice P 0 c) := fun k hk => by
    rcases k with _ | _ | k
    · exact ⟨_, _, c00⟩
    · exact ⟨_, _, c01⟩
    · omega
  have Hg0 := Lib.hid hg0
  clear hg0 c00 c01 f00 f01
  go_enter Tryz.func46, Tryz.ntmps46
  go_wp2_with fail
  go_loopg [3, 11] 2 (fun gh s i wr => ∃ k : Nat, k ≤ 2 ∧ gh = 2 - k ∧ i = .int .i64 k ∧ s = .int .i64 0 ∧ w = wr)
  case atStart => exact ⟨0, Nat.zero_le _, rfl, rfl, rfl, rfl⟩
  case round =>
    obtain ⟨k, hk, hgk, rfl, rfl, rfl⟩ := hrel
    have Hgk := Lib.hid hgk; clear hgk
    by_cases hlt : k < 2
    · obtain ⟨P, c, hc⟩ := Hg0.out k hlt
      have hki : (k : Int) < 2 := by omega
      go_wp2_with fail
      go_roundg (2 - (k + 1))
      case measure => have := Hgk.out; omega
      case rel => exact ⟨k + 1, by omega, rfl, by go_num, rfl, rfl⟩
    · obtain rfl : k = 2 := by omega
      go_wp2_with fail
      refine (grow_nil_Rq _).mono ?_
      rintro e V ⟨rfl, rfl⟩
      go_wp2_with fail
      go_loopg [6, 27] 2 (fun gh s i wr => ∃ k : Nat, k ≤ 2 ∧ gh = 2 - k ∧ i = .int .i64 k ∧ s = .slice none 0 0 ∧ w = wr)
      case atStart => exact ⟨0, Nat.zero_le _, rfl, rfl, rfl, rfl⟩
      case round =>
        obtain ⟨k, hk, hgk2, rfl, rfl, rfl⟩ := hrel
        have Hgk2 := Lib.hid hgk2; clear hgk2
        have hap := append_nil_Rq
        by_cases hlt : k < 2
        · obtain ⟨P, c, hc⟩ := Hg0.out k hlt
          have hki : (k : Int) < 2 := by omega
          clear hap
          go_wp2_with (at_builtin; refine list_run (v := .slice none 0 0) rfl (by simp [execOp, resolve, invoke, builtin, Act.eval, append_nil_Rq, Result.andThen]) ?_)
          go_roundg (2 - (k + 1))
          case measure => have := Hgk2.out; omega
          case rel => exact ⟨k + 1, by omega, rfl, by go_num, rfl, rfl⟩
        · obtain rfl : k = 2 := by omega
          go_wp2_with fail
          go_ret
          exact ⟨rfl, rfl⟩

set_option maxHeartbeats 1000000 in
theorem grow_nil_Jb (w : World) : Calls Tryz.prog 51 #[.slice none 0 0, .int .i64 0] w fun e w' => e = .returned (.slice none 0 0) ∧ w = w' := by
  go_enter Tryz.func51, Tryz.ntmps51
  go_wp2_with fail
  go_ret
  exact ⟨rfl, rfl⟩
theorem append_nil_Jb (ty : TypeId) (ad : Option Addr) (c : Nat) (w : World) : (Builtin.append_ #[38, 38] ty #[.slice none 0 0, .slice ad 0 c]).run Tryz.prog w = .ok (.slice none 0 0) w := by
  obtain ⟨i0, hi, hz0, hz1, hz2⟩ := info_parts (show (Tryz.prog.info? 46).map (fun i => (i.zero, i.size, i.bytes)) = some (some (.agg #[.int .i64 0, .int .i64 0, .int .i64 0, .string ⟨#[]⟩, .int .i64 0]), 5, 48) from by kernel_rfl)
  cases ad <;> simp [Builtin.append_, run_underlying Tryz.underlying38, sizeOf, typeInfo, hi, Builtin.lenOf, Builtin.firstCells, loadCells, loadCellsFrom]
set_option maxHeartbeats 2000000 in
theorem concat_nil_Jb (w : World) (g : Nat) (P1 P2 : Option Addr) (c1 c2 : Nat) (hB : Bx g 38 #[.slice P1 0 c1, .slice P2 0 c2] w) :
    Calls Tryz.prog 25 #[.slice (some ⟨g, 0, none⟩) 2 2] w fun e w' => e = .returned (.slice none 0 0) ∧ w = w' := by
  obtain ⟨c00, c01, f00, f01, lt0⟩ := hB.c2
  have hg0 : ∀ k : Nat, k < 2 → ∃ P c, w.cell? ⟨g, k, none⟩ = some (.slice P 0 c) := fun k hk => by
    rcases k with _ | _ | k
    · exact ⟨_, _, c00⟩
    · exact ⟨_, _, c01⟩
    · omega
  have Hg0 := Lib.hid hg0
  clear hg0 c00 c01 f00 f01
  go_enter Tryz.func25, Tryz.ntmps25
  go_wp2_with fail
  go_loopg [3, 11] 2 (fun gh s i wr => ∃ k : Nat, k ≤ 2 ∧ gh = 2 - k ∧ i = .int .i64 k ∧ s = .int .i64 0 ∧ w = wr)
  case atStart => exact ⟨0, Nat.zero_le _, rfl, rfl, rfl, rfl⟩
  case round =>
    obtain ⟨k, hk, hgk, rfl, rfl, rfl⟩ := hrel
    have Hgk := Lib.hid hgk; clear hgk
    by_cases hlt : k < 2
    · obtain ⟨P, c, hc⟩ := Hg0.out k hlt
      have hki : (k : Int) < 2 := by omega
      go_wp2_with fail
      go_roundg (2 - (k + 1))
      case measure => have := Hgk.out; omega
      case rel => exact ⟨k + 1, by omega, rfl, by go_num, rfl, rfl⟩
    · obtain rfl : k = 2 := by omega
      go_wp2_with fail
      refine (grow_nil_Jb _).mono ?_
      rintro e V ⟨rfl, rfl⟩
      go_wp2_with fail
      go_loopg [6, 27] 2 (fun gh s i wr => ∃ k : Nat, k ≤ 2 ∧ gh = 2 - k ∧ i = .int .i64 k ∧ s = .slice none 0 0 ∧ w = wr)
      case atStart => exact ⟨0, Nat.zero_le _, rfl, rfl, rfl, rfl⟩
      case round =>
        obtain ⟨k, hk, hgk2, rfl, rfl, rfl⟩ := hrel
        have Hgk2 := Lib.hid hgk2; clear hgk2
        have hap := append_nil_Jb
        by_cases hlt : k < 2
        · obtain ⟨P, c, hc⟩ := Hg0.out k hlt
          have hki : (k : Int) < 2 := by omega
          clear hap
          go_wp2_with (at_builtin; refine list_run (v := .slice none 0 0) rfl (by simp [execOp, resolve, invoke, builtin, Act.eval, append_nil_Jb, Result.andThen]) ?_)
          go_roundg (2 - (k + 1))
          case measure => have := Hgk2.out; omega
          case rel => exact ⟨k + 1, by omega, rfl, by go_num, rfl, rfl⟩
        · obtain rfl : k = 2 := by omega
          go_wp2_with fail
          go_ret
          exact ⟨rfl, rfl⟩
end Go.Proofs.YthiblfkmcdnalaaGreat
