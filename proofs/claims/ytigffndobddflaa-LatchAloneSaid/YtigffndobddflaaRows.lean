/-
  No cell of these rows narrows 'for every input' (looked for: loops, veiled, ifaces, maps, wideKeys, modest, calm, conditions, laid).
  DERIVED. THE GIVEN ROWS OF THIS SEAT. 6 by the template 'for every input the law returns true; each argument reads behind the call as it read before'; 0 by the template 'total and deterministic' (their statements: YtigffndobddflaaTotals.lean).
  GIVEN WITH THE SEED: the statements are not yours to turn. If you find one false, say at which input.
  Laid BY PROGRAM, IN A SANDBOX (cutbox-rows.mjs): the forced cells as the released guide's own fill.sh prints them over the translation 96a416a40aa1dc91… (all of the seat's roots in one cut). By AI agents, Wed Nov 11 2026. No macro, syntax, notation, axiom, sorry.
-/
import Derived.Test.YtigffndobddflaaChecked
import GoSem.Claim
import GoSem.ClaimJoined
import GoSem.ClaimMapViews
import Derived.JoinedTies
import Derived.KernelRfl
namespace Go.Proofs.Ytigffndobddflaa
/- THE CELL 'sum', in the pinned program and in every row, IS THE sha256 OF THE DUMP (.gsa) THAT YtigffndobddflaaProg.lean LOADS. Nothing in Lean hashes anything: it is a label: what it is worth is what the hold of that sum in a sandbox is worth. -/
noncomputable def Try.pinned : Pinned := { name := "ytigffndobddflaa", sum := "96a416a40aa1dc919ac970a29e96aa4686e14bd2cf9b888984982debe693048f", checked := Try.checked }
namespace Rows
def none {H : Type} : Left H := { results := [], args := [] }

/-- 'lockkeeperlaw08.LatchExact': WHATEVER THE INPUT: true; the input reads as it did. -/
def latchExactSpec : ChangeSpec := { name := "latchExact", fn := fun _ => fun
  | [d1, d2, d3] => { results := [.lit (.bool true)], args := [d1, d2, d3] }
  | _ => none }
def latchExactRow : OpenClaim := { program := "ytigffndobddflaa", sum := "96a416a40aa1dc919ac970a29e96aa4686e14bd2cf9b888984982debe693048f", func := "lockkeeper/lockkeeperlaw08.LatchExact", spec := "latchExact", inPlace := ["slices.overlaps[int]"], unfollowed := true, recurses := true, apart := false }
def LatchExactSaid : Prop := latchExactRow.holds Try.pinned (OpenSpec.ofChange latchExactSpec)

/-- ITS FALSE NEIGHBOUR: 'it returns false'. Refute it at one input. -/
def latchExactWrong : ChangeSpec := { name := "latchExact", fn := fun _ => fun
  | [d1, d2, d3] => { results := [.lit (.bool false)], args := [d1, d2, d3] }
  | _ => none }
def LatchExactWrongFalsely : Prop := latchExactRow.holds Try.pinned (OpenSpec.ofChange latchExactWrong)

/-- 'lockkeeperlaw08.LatchAlone': WHATEVER THE INPUT: true; the input reads as it did. -/
def latchAloneSpec : ChangeSpec := { name := "latchAlone", fn := fun _ => fun
  | [d] => { results := [.lit (.bool true)], args := [d] }
  | _ => none }
def latchAloneRow : OpenClaim := { program := "ytigffndobddflaa", sum := "96a416a40aa1dc919ac970a29e96aa4686e14bd2cf9b888984982debe693048f", func := "lockkeeper/lockkeeperlaw08.LatchAlone", spec := "latchAlone", inPlace := ["slices.overlaps[int]"], unfollowed := true, recurses := true, apart := false }
def LatchAloneSaid : Prop := latchAloneRow.holds Try.pinned (OpenSpec.ofChange latchAloneSpec)

/-- ITS FALSE NEIGHBOUR: 'it returns false'. Refute it at one input. -/
def latchAloneWrong : ChangeSpec := { name := "latchAlone", fn := fun _ => fun
  | [d] => { results := [.lit (.bool false)], args := [d] }
  | _ => none }
def LatchAloneWrongFalsely : Prop := latchAloneRow.holds Try.pinned (OpenSpec.ofChange latchAloneWrong)

/-- 'lockkeeperlaw08.LatchEnds': WHATEVER THE INPUT: true; the input reads as it did. -/
def latchEndsSpec : ChangeSpec := { name := "latchEnds", fn := fun _ => fun
  | [d] => { results := [.lit (.bool true)], args := [d] }
  | _ => none }
def latchEndsRow : OpenClaim := { program := "ytigffndobddflaa", sum := "96a416a40aa1dc919ac970a29e96aa4686e14bd2cf9b888984982debe693048f", func := "lockkeeper/lockkeeperlaw08.LatchEnds", spec := "latchEnds", inPlace := ["slices.overlaps[int]"], unfollowed := true, recurses := true, apart := false }
def LatchEndsSaid : Prop := latchEndsRow.holds Try.pinned (OpenSpec.ofChange latchEndsSpec)

/-- ITS FALSE NEIGHBOUR: 'it returns false'. Refute it at one input. -/
def latchEndsWrong : ChangeSpec := { name := "latchEnds", fn := fun _ => fun
  | [d] => { results := [.lit (.bool false)], args := [d] }
  | _ => none }
def LatchEndsWrongFalsely : Prop := latchEndsRow.holds Try.pinned (OpenSpec.ofChange latchEndsWrong)

/-- 'lockkeeperlaw08.LatchReaders': WHATEVER THE INPUT: true; the input reads as it did. -/
def latchReadersSpec : ChangeSpec := { name := "latchReaders", fn := fun _ => fun
  | [d1, d2] => { results := [.lit (.bool true)], args := [d1, d2] }
  | _ => none }
def latchReadersRow : OpenClaim := { program := "ytigffndobddflaa", sum := "96a416a40aa1dc919ac970a29e96aa4686e14bd2cf9b888984982debe693048f", func := "lockkeeper/lockkeeperlaw08.LatchReaders", spec := "latchReaders", inPlace := ["slices.overlaps[int]"], unfollowed := true, recurses := true, apart := false }
def LatchReadersSaid : Prop := latchReadersRow.holds Try.pinned (OpenSpec.ofChange latchReadersSpec)

/-- ITS FALSE NEIGHBOUR: 'it returns false'. Refute it at one input. -/
def latchReadersWrong : ChangeSpec := { name := "latchReaders", fn := fun _ => fun
  | [d1, d2] => { results := [.lit (.bool false)], args := [d1, d2] }
  | _ => none }
def LatchReadersWrongFalsely : Prop := latchReadersRow.holds Try.pinned (OpenSpec.ofChange latchReadersWrong)

/-- 'lockkeeperlaw08.LatchGives': WHATEVER THE INPUT: true; the input reads as it did. -/
def latchGivesSpec : ChangeSpec := { name := "latchGives", fn := fun _ => fun
  | [d1, d2, d3] => { results := [.lit (.bool true)], args := [d1, d2, d3] }
  | _ => none }
def latchGivesRow : OpenClaim := { program := "ytigffndobddflaa", sum := "96a416a40aa1dc919ac970a29e96aa4686e14bd2cf9b888984982debe693048f", func := "lockkeeper/lockkeeperlaw08.LatchGives", spec := "latchGives", inPlace := ["slices.overlaps[int]"], unfollowed := true, recurses := true, apart := false }
def LatchGivesSaid : Prop := latchGivesRow.holds Try.pinned (OpenSpec.ofChange latchGivesSpec)

/-- ITS FALSE NEIGHBOUR: 'it returns false'. Refute it at one input. -/
def latchGivesWrong : ChangeSpec := { name := "latchGives", fn := fun _ => fun
  | [d1, d2, d3] => { results := [.lit (.bool false)], args := [d1, d2, d3] }
  | _ => none }
def LatchGivesWrongFalsely : Prop := latchGivesRow.holds Try.pinned (OpenSpec.ofChange latchGivesWrong)

/-- 'lockkeeperlaw08.LatchWriters': WHATEVER THE INPUT: true; the input reads as it did. -/
def latchWritersSpec : ChangeSpec := { name := "latchWriters", fn := fun _ => fun
  | [d] => { results := [.lit (.bool true)], args := [d] }
  | _ => none }
def latchWritersRow : OpenClaim := { program := "ytigffndobddflaa", sum := "96a416a40aa1dc919ac970a29e96aa4686e14bd2cf9b888984982debe693048f", func := "lockkeeper/lockkeeperlaw08.LatchWriters", spec := "latchWriters", inPlace := ["slices.overlaps[int]"], unfollowed := true, recurses := true, apart := false }
def LatchWritersSaid : Prop := latchWritersRow.holds Try.pinned (OpenSpec.ofChange latchWritersSpec)

/-- ITS FALSE NEIGHBOUR: 'it returns false'. Refute it at one input. -/
def latchWritersWrong : ChangeSpec := { name := "latchWriters", fn := fun _ => fun
  | [d] => { results := [.lit (.bool false)], args := [d] }
  | _ => none }
def LatchWritersWrongFalsely : Prop := latchWritersRow.holds Try.pinned (OpenSpec.ofChange latchWritersWrong)

/- THE SECOND FORM. 'bulk': how many values and letters a reading holds, each counted each time it is reached (what is shared counts as often as it is met; a slice's spare places count too). A statement '..UptoSaid' is the law's where the arguments, and the package variables that the reading takes, are together of bulk at most 1048576: NARROWER than '..Said'. Prove '..Said' where nothing that the law and all that it calls make is longer than what came in: it says more and counts as full. Else prove '..UptoSaid'. A law counts once. -/
mutual
def uptoBulk {H : Type} : DataW H → Nat
  | .lit (.string bytes) => bytes.length + 1
  | .lit _ => 1
  | .nil => 1
  | .ptr d => uptoBulk d + 1
  | .slice elems spare => uptoBulkAll elems + uptoBulkAll spare + 1
  | .agg parts => uptoBulkAll parts + 1
  | .iface _ d => uptoBulk d + 1
  | .map entries => uptoBulkEntries entries + 1
  | .held _ => 1
def uptoBulkAll {H : Type} : List (DataW H) → Nat
  | [] => 0
  | d :: r => uptoBulk d + uptoBulkAll r
def uptoBulkEntries {H : Type} : List (Lit × DataW H) → Nat
  | [] => 0
  | x :: r => uptoBulkEntry x + uptoBulkEntries r
def uptoBulkEntry {H : Type} : Lit × DataW H → Nat
  | (.string bytes, d) => bytes.length + uptoBulk d + 1
  | (_, d) => uptoBulk d + 1
 end
def uptoSmall : (H : Type) → List (DataW H) → Bool := fun _ ds => decide (uptoBulkAll ds ≤ 1048576)
def OpenSpec.upto (s : _root_.Go.ChangeSpec) : _root_.Go.OpenSpec := { _root_.Go.OpenSpec.ofChange s with cond := some uptoSmall }

/-- 'lockkeeperlaw08.LatchExact', WHERE WHAT IT READS IS OF BULK AT MOST 1048576: true; the input reads as it did. -/
def latchExactUptoRow : OpenClaim := { program := "ytigffndobddflaa", sum := "96a416a40aa1dc919ac970a29e96aa4686e14bd2cf9b888984982debe693048f", func := "lockkeeper/lockkeeperlaw08.LatchExact", spec := "latchExact", inPlace := ["slices.overlaps[int]"], unfollowed := true, recurses := true, apart := false, narrowed := true }
def LatchExactUptoSaid : Prop := latchExactUptoRow.holds Try.pinned (OpenSpec.upto latchExactSpec)

/-- 'lockkeeperlaw08.LatchAlone', WHERE WHAT IT READS IS OF BULK AT MOST 1048576: true; the input reads as it did. -/
def latchAloneUptoRow : OpenClaim := { program := "ytigffndobddflaa", sum := "96a416a40aa1dc919ac970a29e96aa4686e14bd2cf9b888984982debe693048f", func := "lockkeeper/lockkeeperlaw08.LatchAlone", spec := "latchAlone", inPlace := ["slices.overlaps[int]"], unfollowed := true, recurses := true, apart := false, narrowed := true }
def LatchAloneUptoSaid : Prop := latchAloneUptoRow.holds Try.pinned (OpenSpec.upto latchAloneSpec)

/-- 'lockkeeperlaw08.LatchEnds', WHERE WHAT IT READS IS OF BULK AT MOST 1048576: true; the input reads as it did. -/
def latchEndsUptoRow : OpenClaim := { program := "ytigffndobddflaa", sum := "96a416a40aa1dc919ac970a29e96aa4686e14bd2cf9b888984982debe693048f", func := "lockkeeper/lockkeeperlaw08.LatchEnds", spec := "latchEnds", inPlace := ["slices.overlaps[int]"], unfollowed := true, recurses := true, apart := false, narrowed := true }
def LatchEndsUptoSaid : Prop := latchEndsUptoRow.holds Try.pinned (OpenSpec.upto latchEndsSpec)

/-- 'lockkeeperlaw08.LatchReaders', WHERE WHAT IT READS IS OF BULK AT MOST 1048576: true; the input reads as it did. -/
def latchReadersUptoRow : OpenClaim := { program := "ytigffndobddflaa", sum := "96a416a40aa1dc919ac970a29e96aa4686e14bd2cf9b888984982debe693048f", func := "lockkeeper/lockkeeperlaw08.LatchReaders", spec := "latchReaders", inPlace := ["slices.overlaps[int]"], unfollowed := true, recurses := true, apart := false, narrowed := true }
def LatchReadersUptoSaid : Prop := latchReadersUptoRow.holds Try.pinned (OpenSpec.upto latchReadersSpec)

/-- 'lockkeeperlaw08.LatchGives', WHERE WHAT IT READS IS OF BULK AT MOST 1048576: true; the input reads as it did. -/
def latchGivesUptoRow : OpenClaim := { program := "ytigffndobddflaa", sum := "96a416a40aa1dc919ac970a29e96aa4686e14bd2cf9b888984982debe693048f", func := "lockkeeper/lockkeeperlaw08.LatchGives", spec := "latchGives", inPlace := ["slices.overlaps[int]"], unfollowed := true, recurses := true, apart := false, narrowed := true }
def LatchGivesUptoSaid : Prop := latchGivesUptoRow.holds Try.pinned (OpenSpec.upto latchGivesSpec)

/-- 'lockkeeperlaw08.LatchWriters', WHERE WHAT IT READS IS OF BULK AT MOST 1048576: true; the input reads as it did. -/
def latchWritersUptoRow : OpenClaim := { program := "ytigffndobddflaa", sum := "96a416a40aa1dc919ac970a29e96aa4686e14bd2cf9b888984982debe693048f", func := "lockkeeper/lockkeeperlaw08.LatchWriters", spec := "latchWriters", inPlace := ["slices.overlaps[int]"], unfollowed := true, recurses := true, apart := false, narrowed := true }
def LatchWritersUptoSaid : Prop := latchWritersUptoRow.holds Try.pinned (OpenSpec.upto latchWritersSpec)

end Rows
end Go.Proofs.Ytigffndobddflaa
