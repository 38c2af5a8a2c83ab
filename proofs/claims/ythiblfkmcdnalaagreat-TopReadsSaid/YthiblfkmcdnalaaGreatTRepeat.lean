/- strings.Repeat: the library's own text, by the shelf's contract, laid at this program in plain words. Printed by mkrepeat.py. -/
import Derived.Test.YthiblfkmcdnalaaGreatProg
import Derived.Test.YthiblfkmcdnalaaGreatTop0
import Derived.Shelf.Strings.Repeat
namespace Go.Proofs.YthiblfkmcdnalaaGreat
set_option maxRecDepth 1000000
open Go.RowKit Go.Shelf
set_option maxRecDepth 1000000

def Tryz.lays105_ren : Go.Shelf.Ren := ⟨fun | 105 => 13 | 212 => 33 | 99 => 34 | 165 => 35 | 166 => 36 | 170 => 37 | 169 => 38 | 263 => 64 | 264 => 65 | 206 => 66 | 240 => 67 | 241 => 68 | 276 => 98 | 277 => 99 | n => n, fun | 9 => 9 | 3 => 3 | 4 => 4 | 20 => 20 | 0 => 0 | 46 => 122 | 109 => 123 | 5 => 5 | 72 => 129 | 76 => 133 | 51 => 161 | 146 => 162 | 53 => 164 | 148 => 165 | 70 => 126 | 37 => 127 | 75 => 132 | 127 => 167 | 164 => 201 | 80 => 136 | n => n, fun | n => n⟩
theorem Tryz.lays105 : Lays.n105 Tryz.prog Tryz.lays105_ren := {
  mixed := by kernel_rfl,
  f99 := Tryz.func34.trans (congrArg some (by kernel_rfl)),
  f105 := Tryz.func13.trans (congrArg some (by kernel_rfl)),
  f165 := Tryz.func35.trans (congrArg some (by kernel_rfl)),
  f166 := Tryz.func36.trans (congrArg some (by kernel_rfl)),
  f169 := Tryz.func38.trans (congrArg some (by kernel_rfl)),
  f170 := Tryz.func37.trans (congrArg some (by kernel_rfl)),
  f206 := Tryz.func66.trans (congrArg some (by kernel_rfl)),
  f212 := Tryz.func33.trans (congrArg some (by kernel_rfl)),
  f240 := Tryz.func67.trans (congrArg some (by kernel_rfl)),
  f241 := Tryz.func68.trans (congrArg some (by kernel_rfl)),
  f263 := Tryz.func64.trans (congrArg some (by kernel_rfl)),
  f264 := Tryz.func65.trans (congrArg some (by kernel_rfl)),
  f276 := Tryz.func98.trans (congrArg some (by kernel_rfl)),
  f277 := Tryz.func99.trans (congrArg some (by kernel_rfl)),
  t0 := Tryz.underlying0,
  a0 := Tryz.isAgg0,
  z0 := Tryz.sizeOf0,
  v0 := Tryz.zeroValue0,
  t3 := Tryz.underlying3,
  a3 := Tryz.isAgg3,
  z3 := Tryz.sizeOf3,
  v3 := Tryz.zeroValue3,
  t4 := Tryz.underlying4,
  a4 := Tryz.isAgg4,
  z4 := Tryz.sizeOf4,
  v4 := Tryz.zeroValue4,
  t5 := Tryz.underlying5,
  a5 := Tryz.isAgg5,
  z5 := Tryz.sizeOf5,
  v5 := Tryz.zeroValue5,
  t9 := Tryz.underlying9,
  a9 := Tryz.isAgg9,
  z9 := Tryz.sizeOf9,
  v9 := Tryz.zeroValue9,
  t20 := Tryz.underlying20,
  a20 := Tryz.isAgg20,
  z20 := Tryz.sizeOf20,
  v20 := Tryz.zeroValue20,
  t37 := Tryz.underlying127,
  a37 := Tryz.isAgg127,
  z37 := Tryz.sizeOf127,
  v37 := Tryz.zeroValue127,
  t46 := Tryz.underlying122,
  a46 := Tryz.isAgg122,
  z46 := Tryz.sizeOf122,
  v46 := Tryz.zeroValue122,
  t51 := Tryz.underlying161,
  a51 := Tryz.isAgg161,
  z51 := Tryz.sizeOf161,
  v51 := Tryz.zeroValue161,
  t53 := Tryz.underlying164,
  a53 := Tryz.isAgg164,
  z53 := Tryz.sizeOf164,
  v53 := Tryz.zeroValue164,
  t70 := Tryz.underlying126,
  a70 := Tryz.isAgg126,
  z70 := Tryz.sizeOf126,
  v70 := Tryz.zeroValue126,
  t72 := Tryz.underlying129,
  a72 := Tryz.isAgg129,
  z72 := Tryz.sizeOf129,
  v72 := Tryz.zeroValue129,
  t75 := Tryz.underlying132,
  a75 := Tryz.isAgg132,
  z75 := Tryz.sizeOf132,
  v75 := Tryz.zeroValue132,
  t76 := Tryz.underlying133,
  a76 := Tryz.isAgg133,
  z76 := Tryz.sizeOf133,
  v76 := Tryz.zeroValue133,
  t109 := Tryz.underlying123,
  a109 := Tryz.isAgg123,
  z109 := Tryz.sizeOf123,
  v109 := Tryz.zeroValue123,
  t127 := Tryz.underlying167,
  a127 := Tryz.isAgg167,
  z127 := Tryz.sizeOf167,
  v127 := Tryz.zeroValue167,
  t146 := Tryz.underlying162,
  a146 := Tryz.isAgg162,
  z146 := Tryz.sizeOf162,
  v146 := Tryz.zeroValue162,
  t148 := Tryz.underlying165,
  a148 := Tryz.isAgg165,
  z148 := Tryz.sizeOf165,
  v148 := Tryz.zeroValue165,
  t164 := Tryz.underlying201,
  a164 := Tryz.isAgg201,
  z164 := Tryz.sizeOf201,
  v164 := Tryz.zeroValue201 }
theorem Tryz.bex105 : Builder.Extra Tryz.prog Tryz.lays105_ren := {
  sizeBuilder := by kernel_rfl,
  liesBuilder := by kernel_rfl,
  t5 := Tryz.underlying5,
  a5 := Tryz.isAgg5,
  z5 := Tryz.sizeOf5,
  v5 := Tryz.zeroValue5,
  infoByte := by kernel_rfl,
  cellsByte := by kernel_rfl,
  sizeByte := by kernel_rfl,
  neB5 := by decide }

/-- n noughts -/
def zs (n : Nat) : ByteArray := ⟨(List.replicate n (0 : UInt8)).toArray⟩
theorem zs_size (n : Nat) : (zs n).size = n := by simp [zs, ByteArray.size]
theorem repeat_zero : ∀ n : Nat, Lib.repeatL [(0 : UInt8)] n = List.replicate n 0 := by
  intro n
  induction n with
  | zero => rfl
  | succ n ih => rw [List.replicate_succ, ← ih]; rfl
theorem repeat_any (w : World) (n : Nat) (hn : n ≤ 1000) :
    Calls Tryz.prog 13 #[.string ⟨#[0]⟩, .int .i64 n] w fun e w' => e = .returned (.string (zs n)) ∧ Below w.heap.size w w' := by
  have := Any.strings_Repeat Tryz.lays105 Tryz.bex105 ⟨#[0]⟩ n w (by omega) (by show 1 * n ≤ _; omega)
  refine Calls.mono this fun e w' ⟨he, hb⟩ => ⟨?_, hb⟩
  rw [he]
  show Ending.returned (.string ⟨(Lib.repeatL [0] n).toArray⟩) = _
  rw [repeat_zero]
  rfl
end Go.Proofs.YthiblfkmcdnalaaGreat
