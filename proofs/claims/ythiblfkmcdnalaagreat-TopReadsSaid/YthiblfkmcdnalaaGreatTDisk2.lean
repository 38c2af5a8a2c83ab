/- The contract of disk.New. -/
import Derived.Test.YthiblfkmcdnalaaGreatTDisk1
import Derived.Test.YthiblfkmcdnalaaGreatTRepeat
namespace Go.Proofs.YthiblfkmcdnalaaGreat
set_option maxRecDepth 1000000
open Go.RowKit
set_option maxRecDepth 1000000

theorem Tryz.infStr : (Tryz.prog.info? 9).map (fun i => (i.zero, i.size, i.bytes)) = some (some (.string ⟨#[]⟩), 1, 16) := by kernel_rfl
/-- a new disk -/
def newDk (n : Nat) : Dk := ⟨List.replicate n (zs 16), []⟩
/-- k are set, of n -/
def part {α : Type} (a b : α) (n k : Nat) : List α := List.replicate k a ++ List.replicate (n - k) b
theorem part_set {α : Type} {a b : α} {n k : Nat} (h : k < n) : (part a b n k).set k a = part a b n (k + 1) := by
  unfold part
  rw [List.set_append_right _ _ (by simp), List.length_replicate, Nat.sub_self, show n - k = (n - (k + 1)) + 1 from by omega, List.replicate_succ, List.set_cons_zero, List.replicate_succ', List.append_assoc]
  rfl
theorem part_len {α : Type} {a b : α} {n k : Nat} (h : k ≤ n) : (part a b n k).length = n := by simp [part]; omega
theorem flat_repl (a : ByteArray) : ∀ n : Nat, (List.replicate n a).flatMap scells = List.replicate n (Value.string a)
  | 0 => rfl
  | n + 1 => by rw [List.replicate_succ, List.flatMap_cons, flat_repl a n, List.replicate_succ]; rfl
theorem made_one (z a : Value) (n : Nat) : (madeCells #[z] n).toList = part a z n 0 := by
  rw [toList_madeCells_one]
  simp [part]

set_option maxHeartbeats 2000000 in
theorem diskNew_any (w : World) (n : Nat) (h1 : 1 ≤ n) (h64 : n ≤ 64) :
    Calls Tryz.prog 5 #[.int .i64 n] w fun e w' => ∃ s, e = .returned (.tuple #[.agg #[s, .slice none 0 0], .int .i64 0]) ∧ MDk w' s (.slice none 0 0) (newDk n) ∧ Below w.heap.size w w' := by
  obtain ⟨i0, hi, hz0, hz1, hz2⟩ := info_parts Tryz.infStr
  go_enter Tryz.func5, Tryz.ntmps5
  go_wp2_with (at_make; refine wpList_make_full _ rfl _ _ 22 rfl (w.heap.size + 1) 9 i0 (.string ⟨#[]⟩) 1 Tryz.underlying22 hi hz0 hz1 .i64 .i64 _ _ n rfl rfl rfl rfl (by rw [hz2]; omega) (by unfold maxLen; omega) (by simp) ?_)
  intro W ho hg
  try simp only [World.size_alloc] at ho
  rw [made_one _ (.string (zs 16))] at ho
  have hbW : Below w.heap.size w W := ((Below.refl _ w).alloc (Nat.le_refl _) (.cells #[.slice none 0 0, .slice none 0 0] 27)).grown hg (by simp) (by simp)
  have B0 : Bx w.heap.size 27 #[.slice none 0 0, .slice none 0 0] W := (hg.block _ (by simp) (by simp)).trans (Bx.new w _ _)
  have Hi := Lib.hid hi; have Hz0 := Lib.hid hz0; have Hz1 := Lib.hid hz1; have Hz2 := Lib.hid hz2
  have Ho := Lib.hid ho
  have HbW := Lib.hid hbW
  have hsW : w.heap.size + 1 ≤ W.heap.size := B0.lt
  clear hi hz0 hz1 hz2 ho hg hbW
  go_wp2_with fail
  go_loopg [17] n (fun g i wr => ∃ k : Nat, k ≤ n ∧ g = n - k ∧ i = .int .i64 k ∧ wr.ownsRow (w.heap.size + 1) 9 1 (.slice (some ⟨w.heap.size + 1, 0, none⟩) n n) n (part (.string (zs 16)) (.string ⟨#[]⟩) n k) ∧ Below (w.heap.size + 1) W wr)
  case atStart => exact ⟨0, Nat.zero_le _, rfl, rfl, Ho.out, Below.refl _ _⟩
  case round =>
    obtain ⟨k, hk, hgk, rfl, ho, hb⟩ := hrel
    have Hgk := Lib.hid hgk; clear hgk
    have Ho1 := Lib.hid ho; clear ho
    have Hb := Lib.hid hb; clear hb
    by_cases hlt : k < n
    · go_wp2_with fail
      refine (repeat_any _ 16 (by omega)).mono ?_
      rintro e V ⟨rfl, hbV⟩
      have ho2 := own_up Ho1.out hbV
      have k2 := ho2.frozenAt k
      have k1 : V.cell? ⟨w.heap.size + 1, k, none⟩ = some (.string ⟨#[]⟩) := by
        rw [ho2.cellAt k (by omega)]
        simp [part, List.getElem?_append_right, List.getElem?_replicate]
        omega
      have ho3 := (ho2.stored k (.string (zs 16))).1
      rw [part_set hlt] at ho3
      have Ho3 := Lib.hid ho3
      have Hb3 := Lib.hid (show Below (w.heap.size + 1) W (V.setCell ⟨w.heap.size + 1, k, none⟩ (.string (zs 16))) from (Hb.out.trans (hbV.mono (by have := Hb.out.size; omega))).setCell (p := ⟨w.heap.size + 1, k, none⟩) (Nat.le_refl _) _)
      have hkk : (k : Int) < (n : Int) := by omega
      clear ho2 ho3 hbV
      go_wp2_with fail
      go_roundg (n - (k + 1))
      case measure => have := Hgk.out; omega
      case rel => exact ⟨k + 1, by omega, rfl, by go_num, Ho3.out, Hb3.out⟩
    · obtain rfl : k = n := by omega
      have B1 := B0.upB Hb.out (by omega)
      obtain ⟨c00, c01, f00, f01, lt0⟩ := B1.c2
      go_wp2_with fail
      refine bodyPost_ret (v := .tuple #[.agg #[.slice (some ⟨w.heap.size + 1, 0, none⟩) k k, .slice none 0 0], .int .i64 0]) (by simp [results, Tryz.results5, go_sem, c00, c01]) rfl ?_
      obtain ⟨U, hU, _, hkU, _, hbU⟩ := st_2_0_2 (.slice (some ⟨w.heap.size + 1, 0, none⟩) k k) (.slice none 0 0) B1
      rw [hU]
      refine ⟨_, rfl, ⟨?_, Sl.nil⟩, hbU _ _ (HbW.out.trans (Hb.out.mono (by omega))) (Nat.le_refl _)⟩
      refine (Sl.of_own (base := w.heap.size + 1) (f := scells) (l := List.replicate k (zs 16)) (n := k) ?_ (by simp) s_len (by decide)).off B1 (by decide) hkU
      have := Ho1.out
      rw [flat_repl]
      simpa [part] using this
end Go.Proofs.YthiblfkmcdnalaaGreat
