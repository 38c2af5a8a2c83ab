/-
  No cell of these rows narrows 'for every input' (looked for: loops, veiled, ifaces, maps, wideKeys, modest, calm, conditions, laid).
  DERIVED. THE GIVEN ROWS OF THIS SEAT. 7 by the template 'for every input the law returns true; each argument reads behind the call as it read before'; 0 by the template 'total and deterministic' (their statements: YtbnegkkjgkignaaTotals.lean).
  GIVEN WITH THE SEED: the statements are not yours to turn. If you find one false, say at which input.
  Laid BY PROGRAM, IN A SANDBOX (cutbox-rows.mjs): the forced cells as the released guide's own fill.sh prints them over the translation 5a61de2bbbe3cf7c… (all of the seat's roots in one cut). By AI agents, Wed Nov 11 2026. No macro, syntax, notation, axiom, sorry.
-/
import Derived.Test.YtbnegkkjgkignaaChecked
import GoSem.Claim
import GoSem.ClaimJoined
import GoSem.ClaimMapViews
import Derived.JoinedTies
import Derived.KernelRfl
namespace Go.Proofs.Ytbnegkkjgkignaa
/- THE CELL 'sum', in the pinned program and in every row, IS THE sha256 OF THE DUMP (.gsa) THAT YtbnegkkjgkignaaProg.lean LOADS. Nothing in Lean hashes anything: it is a label: what it is worth is what the hold of that sum in a sandbox is worth. -/
noncomputable def Try.pinned : Pinned := { name := "ytbnegkkjgkignaa", sum := "5a61de2bbbe3cf7ccf821564d4c9d9d7a48e562cdd4c3a013df0faa8d2d21806", checked := Try.checked }
namespace Rows
def none {H : Type} : Left H := { results := [], args := [] }

/-- 'lockkeeperlaw18.OpsExact': WHATEVER THE INPUT: true; the input reads as it did. -/
def opsExactSpec : ChangeSpec := { name := "opsExact", fn := fun _ => fun
  | [d1, d2, d3] => { results := [.lit (.bool true)], args := [d1, d2, d3] }
  | _ => none }
def opsExactRow : OpenClaim := { program := "ytbnegkkjgkignaa", sum := "5a61de2bbbe3cf7ccf821564d4c9d9d7a48e562cdd4c3a013df0faa8d2d21806", func := "lockkeeper/lockkeeperlaw18.OpsExact", spec := "opsExact", inPlace := ["slices.overlaps[lockkeeper/api.Page]"], apart := false }
def OpsExactSaid : Prop := opsExactRow.holds Try.pinned (OpenSpec.ofChange opsExactSpec)

/-- ITS FALSE NEIGHBOUR: 'it returns false'. Refute it at one input. -/
def opsExactWrong : ChangeSpec := { name := "opsExact", fn := fun _ => fun
  | [d1, d2, d3] => { results := [.lit (.bool false)], args := [d1, d2, d3] }
  | _ => none }
def OpsExactWrongFalsely : Prop := opsExactRow.holds Try.pinned (OpenSpec.ofChange opsExactWrong)

/-- 'lockkeeperlaw18.OpsAll': WHATEVER THE INPUT: true; the input reads as it did. -/
def opsAllSpec : ChangeSpec := { name := "opsAll", fn := fun _ => fun
  | [d] => { results := [.lit (.bool true)], args := [d] }
  | _ => none }
def opsAllRow : OpenClaim := { program := "ytbnegkkjgkignaa", sum := "5a61de2bbbe3cf7ccf821564d4c9d9d7a48e562cdd4c3a013df0faa8d2d21806", func := "lockkeeper/lockkeeperlaw18.OpsAll", spec := "opsAll", inPlace := ["slices.overlaps[lockkeeper/api.Page]"], apart := false }
def OpsAllSaid : Prop := opsAllRow.holds Try.pinned (OpenSpec.ofChange opsAllSpec)

/-- ITS FALSE NEIGHBOUR: 'it returns false'. Refute it at one input. -/
def opsAllWrong : ChangeSpec := { name := "opsAll", fn := fun _ => fun
  | [d] => { results := [.lit (.bool false)], args := [d] }
  | _ => none }
def OpsAllWrongFalsely : Prop := opsAllRow.holds Try.pinned (OpenSpec.ofChange opsAllWrong)

/-- 'lockkeeperlaw18.OpsApart': WHATEVER THE INPUT: true; the input reads as it did. -/
def opsApartSpec : ChangeSpec := { name := "opsApart", fn := fun _ => fun
  | [d1, d2, d3] => { results := [.lit (.bool true)], args := [d1, d2, d3] }
  | _ => none }
def opsApartRow : OpenClaim := { program := "ytbnegkkjgkignaa", sum := "5a61de2bbbe3cf7ccf821564d4c9d9d7a48e562cdd4c3a013df0faa8d2d21806", func := "lockkeeper/lockkeeperlaw18.OpsApart", spec := "opsApart", inPlace := ["slices.overlaps[lockkeeper/api.Page]"], apart := false }
def OpsApartSaid : Prop := opsApartRow.holds Try.pinned (OpenSpec.ofChange opsApartSpec)

/-- ITS FALSE NEIGHBOUR: 'it returns false'. Refute it at one input. -/
def opsApartWrong : ChangeSpec := { name := "opsApart", fn := fun _ => fun
  | [d1, d2, d3] => { results := [.lit (.bool false)], args := [d1, d2, d3] }
  | _ => none }
def OpsApartWrongFalsely : Prop := opsApartRow.holds Try.pinned (OpenSpec.ofChange opsApartWrong)

/-- 'lockkeeperlaw18.OpsLast': WHATEVER THE INPUT: true; the input reads as it did. -/
def opsLastSpec : ChangeSpec := { name := "opsLast", fn := fun _ => fun
  | [d1, d2] => { results := [.lit (.bool true)], args := [d1, d2] }
  | _ => none }
def opsLastRow : OpenClaim := { program := "ytbnegkkjgkignaa", sum := "5a61de2bbbe3cf7ccf821564d4c9d9d7a48e562cdd4c3a013df0faa8d2d21806", func := "lockkeeper/lockkeeperlaw18.OpsLast", spec := "opsLast", inPlace := ["slices.overlaps[lockkeeper/api.Page]"], apart := false }
def OpsLastSaid : Prop := opsLastRow.holds Try.pinned (OpenSpec.ofChange opsLastSpec)

/-- ITS FALSE NEIGHBOUR: 'it returns false'. Refute it at one input. -/
def opsLastWrong : ChangeSpec := { name := "opsLast", fn := fun _ => fun
  | [d1, d2] => { results := [.lit (.bool false)], args := [d1, d2] }
  | _ => none }
def OpsLastWrongFalsely : Prop := opsLastRow.holds Try.pinned (OpenSpec.ofChange opsLastWrong)

/-- 'lockkeeperlaw18.OpsBack': WHATEVER THE INPUT: true; the input reads as it did. -/
def opsBackSpec : ChangeSpec := { name := "opsBack", fn := fun _ => fun
  | [d1, d2] => { results := [.lit (.bool true)], args := [d1, d2] }
  | _ => none }
def opsBackRow : OpenClaim := { program := "ytbnegkkjgkignaa", sum := "5a61de2bbbe3cf7ccf821564d4c9d9d7a48e562cdd4c3a013df0faa8d2d21806", func := "lockkeeper/lockkeeperlaw18.OpsBack", spec := "opsBack", inPlace := ["slices.overlaps[lockkeeper/api.Page]"], apart := false }
def OpsBackSaid : Prop := opsBackRow.holds Try.pinned (OpenSpec.ofChange opsBackSpec)

/-- ITS FALSE NEIGHBOUR: 'it returns false'. Refute it at one input. -/
def opsBackWrong : ChangeSpec := { name := "opsBack", fn := fun _ => fun
  | [d1, d2] => { results := [.lit (.bool false)], args := [d1, d2] }
  | _ => none }
def OpsBackWrongFalsely : Prop := opsBackRow.holds Try.pinned (OpenSpec.ofChange opsBackWrong)

/-- 'lockkeeperlaw18.OpsReads': WHATEVER THE INPUT: true; the input reads as it did. -/
def opsReadsSpec : ChangeSpec := { name := "opsReads", fn := fun _ => fun
  | [d1, d2] => { results := [.lit (.bool true)], args := [d1, d2] }
  | _ => none }
def opsReadsRow : OpenClaim := { program := "ytbnegkkjgkignaa", sum := "5a61de2bbbe3cf7ccf821564d4c9d9d7a48e562cdd4c3a013df0faa8d2d21806", func := "lockkeeper/lockkeeperlaw18.OpsReads", spec := "opsReads", inPlace := ["slices.overlaps[lockkeeper/api.Page]"], apart := false }
def OpsReadsSaid : Prop := opsReadsRow.holds Try.pinned (OpenSpec.ofChange opsReadsSpec)

/-- ITS FALSE NEIGHBOUR: 'it returns false'. Refute it at one input. -/
def opsReadsWrong : ChangeSpec := { name := "opsReads", fn := fun _ => fun
  | [d1, d2] => { results := [.lit (.bool false)], args := [d1, d2] }
  | _ => none }
def OpsReadsWrongFalsely : Prop := opsReadsRow.holds Try.pinned (OpenSpec.ofChange opsReadsWrong)

/-- 'lockkeeperlaw18.OpsPages': WHATEVER THE INPUT: true; the input reads as it did. -/
def opsPagesSpec : ChangeSpec := { name := "opsPages", fn := fun _ => fun
  | [d] => { results := [.lit (.bool true)], args := [d] }
  | _ => none }
def opsPagesRow : OpenClaim := { program := "ytbnegkkjgkignaa", sum := "5a61de2bbbe3cf7ccf821564d4c9d9d7a48e562cdd4c3a013df0faa8d2d21806", func := "lockkeeper/lockkeeperlaw18.OpsPages", spec := "opsPages", inPlace := ["slices.overlaps[lockkeeper/api.Page]"], apart := false }
def OpsPagesSaid : Prop := opsPagesRow.holds Try.pinned (OpenSpec.ofChange opsPagesSpec)

/-- ITS FALSE NEIGHBOUR: 'it returns false'. Refute it at one input. -/
def opsPagesWrong : ChangeSpec := { name := "opsPages", fn := fun _ => fun
  | [d] => { results := [.lit (.bool false)], args := [d] }
  | _ => none }
def OpsPagesWrongFalsely : Prop := opsPagesRow.holds Try.pinned (OpenSpec.ofChange opsPagesWrong)

/- THE SECOND FORM. 'bulk': how many values and letters a reading holds, each counted each time it is reached (what is shared counts as often as it is met; a slice's spare places count too). A statement '..UptoSaid' is the law's where the arguments, and the package variables that the reading takes, are together of bulk at most 1048576: NARROWER than '..Said'. Prove '..Said' where nothing that the law and all that it calls make is longer than what came in: it says more and counts as full. Else prove '..UptoSaid'. A law counts once. -/
mutual
def uptoBulk {H : Type} : DataW H → Nat
  | .lit (.string bytes) => bytes.length + 1
  | .lit _ => 1
  | .nil => 1
  | .ptr d => uptoBulk d + 1
  | .slice elems spare => uptoBulkAll elems + uptoBulkAll spare + 1
  | .agg parts => uptoBulkAll parts + 1
  | .iface _ d => uptoBulk d + 1
  | .map entries => uptoBulkEntries entries + 1
  | .held _ => 1
def uptoBulkAll {H : Type} : List (DataW H) → Nat
  | [] => 0
  | d :: r => uptoBulk d + uptoBulkAll r
def uptoBulkEntries {H : Type} : List (Lit × DataW H) → Nat
  | [] => 0
  | x :: r => uptoBulkEntry x + uptoBulkEntries r
def uptoBulkEntry {H : Type} : Lit × DataW H → Nat
  | (.string bytes, d) => bytes.length + uptoBulk d + 1
  | (_, d) => uptoBulk d + 1
 end
def uptoSmall : (H : Type) → List (DataW H) → Bool := fun _ ds => decide (uptoBulkAll ds ≤ 1048576)
def OpenSpec.upto (s : _root_.Go.ChangeSpec) : _root_.Go.OpenSpec := { _root_.Go.OpenSpec.ofChange s with cond := some uptoSmall }

/-- 'lockkeeperlaw18.OpsExact', WHERE WHAT IT READS IS OF BULK AT MOST 1048576: true; the input reads as it did. -/
def opsExactUptoRow : OpenClaim := { program := "ytbnegkkjgkignaa", sum := "5a61de2bbbe3cf7ccf821564d4c9d9d7a48e562cdd4c3a013df0faa8d2d21806", func := "lockkeeper/lockkeeperlaw18.OpsExact", spec := "opsExact", inPlace := ["slices.overlaps[lockkeeper/api.Page]"], apart := false, narrowed := true }
def OpsExactUptoSaid : Prop := opsExactUptoRow.holds Try.pinned (OpenSpec.upto opsExactSpec)

/-- 'lockkeeperlaw18.OpsAll', WHERE WHAT IT READS IS OF BULK AT MOST 1048576: true; the input reads as it did. -/
def opsAllUptoRow : OpenClaim := { program := "ytbnegkkjgkignaa", sum := "5a61de2bbbe3cf7ccf821564d4c9d9d7a48e562cdd4c3a013df0faa8d2d21806", func := "lockkeeper/lockkeeperlaw18.OpsAll", spec := "opsAll", inPlace := ["slices.overlaps[lockkeeper/api.Page]"], apart := false, narrowed := true }
def OpsAllUptoSaid : Prop := opsAllUptoRow.holds Try.pinned (OpenSpec.upto opsAllSpec)

/-- 'lockkeeperlaw18.OpsApart', WHERE WHAT IT READS IS OF BULK AT MOST 1048576: true; the input reads as it did. -/
def opsApartUptoRow : OpenClaim := { program := "ytbnegkkjgkignaa", sum := "5a61de2bbbe3cf7ccf821564d4c9d9d7a48e562cdd4c3a013df0faa8d2d21806", func := "lockkeeper/lockkeeperlaw18.OpsApart", spec := "opsApart", inPlace := ["slices.overlaps[lockkeeper/api.Page]"], apart := false, narrowed := true }
def OpsApartUptoSaid : Prop := opsApartUptoRow.holds Try.pinned (OpenSpec.upto opsApartSpec)

/-- 'lockkeeperlaw18.OpsLast', WHERE WHAT IT READS IS OF BULK AT MOST 1048576: true; the input reads as it did. -/
def opsLastUptoRow : OpenClaim := { program := "ytbnegkkjgkignaa", sum := "5a61de2bbbe3cf7ccf821564d4c9d9d7a48e562cdd4c3a013df0faa8d2d21806", func := "lockkeeper/lockkeeperlaw18.OpsLast", spec := "opsLast", inPlace := ["slices.overlaps[lockkeeper/api.Page]"], apart := false, narrowed := true }
def OpsLastUptoSaid : Prop := opsLastUptoRow.holds Try.pinned (OpenSpec.upto opsLastSpec)

/-- 'lockkeeperlaw18.OpsBack', WHERE WHAT IT READS IS OF BULK AT MOST 1048576: true; the input reads as it did. -/
def opsBackUptoRow : OpenClaim := { program := "ytbnegkkjgkignaa", sum := "5a61de2bbbe3cf7ccf821564d4c9d9d7a48e562cdd4c3a013df0faa8d2d21806", func := "lockkeeper/lockkeeperlaw18.OpsBack", spec := "opsBack", inPlace := ["slices.overlaps[lockkeeper/api.Page]"], apart := false, narrowed := true }
def OpsBackUptoSaid : Prop := opsBackUptoRow.holds Try.pinned (OpenSpec.upto opsBackSpec)

/-- 'lockkeeperlaw18.OpsReads', WHERE WHAT IT READS IS OF BULK AT MOST 1048576: true; the input reads as it did. -/
def opsReadsUptoRow : OpenClaim := { program := "ytbnegkkjgkignaa", sum := "5a61de2bbbe3cf7ccf821564d4c9d9d7a48e562cdd4c3a013df0faa8d2d21806", func := "lockkeeper/lockkeeperlaw18.OpsReads", spec := "opsReads", inPlace := ["slices.overlaps[lockkeeper/api.Page]"], apart := false, narrowed := true }
def OpsReadsUptoSaid : Prop := opsReadsUptoRow.holds Try.pinned (OpenSpec.upto opsReadsSpec)

/-- 'lockkeeperlaw18.OpsPages', WHERE WHAT IT READS IS OF BULK AT MOST 1048576: true; the input reads as it did. -/
def opsPagesUptoRow : OpenClaim := { program := "ytbnegkkjgkignaa", sum := "5a61de2bbbe3cf7ccf821564d4c9d9d7a48e562cdd4c3a013df0faa8d2d21806", func := "lockkeeper/lockkeeperlaw18.OpsPages", spec := "opsPages", inPlace := ["slices.overlaps[lockkeeper/api.Page]"], apart := false, narrowed := true }
def OpsPagesUptoSaid : Prop := opsPagesUptoRow.holds Try.pinned (OpenSpec.upto opsPagesSpec)

end Rows
end Go.Proofs.Ytbnegkkjgkignaa
