/-
  No cell of these rows narrows 'for every input' (looked for: loops, veiled, ifaces, maps, wideKeys, modest, calm, conditions, laid).
  DERIVED. THE GIVEN ROWS OF THIS SEAT. 6 by the template 'for every input the law returns true; each argument reads behind the call as it read before'; 0 by the template 'total and deterministic' (their statements: YthhfhgkkfaghoaaTotals.lean).
  GIVEN WITH THE SEED: the statements are not yours to turn. If you find one false, say at which input.
  Laid BY PROGRAM, IN A SANDBOX (cutbox-rows.mjs): the forced cells as the released guide's own fill.sh prints them over the translation 05d26ee5785711e2… (all of the seat's roots in one cut). By AI agents, Wed Nov 11 2026. No macro, syntax, notation, axiom, sorry.
-/
import Derived.Test.YthhfhgkkfaghoaaChecked
import GoSem.Claim
import GoSem.ClaimJoined
import GoSem.ClaimMapViews
import Derived.JoinedTies
import Derived.KernelRfl
namespace Go.Proofs.Ythhfhgkkfaghoaa
/- THE CELL 'sum', in the pinned program and in every row, IS THE sha256 OF THE DUMP (.gsa) THAT YthhfhgkkfaghoaaProg.lean LOADS. Nothing in Lean hashes anything: it is a label: what it is worth is what the hold of that sum in a sandbox is worth. -/
noncomputable def Try.pinned : Pinned := { name := "ythhfhgkkfaghoaa", sum := "05d26ee5785711e2ad005ede1bc046fc0b348d152641b356675ccb27d89b5331", checked := Try.checked }
namespace Rows
def none {H : Type} : Left H := { results := [], args := [] }

/-- 'lockkeeperlaw11.AdmitComes': WHATEVER THE INPUT: true; the input reads as it did. -/
def admitComesSpec : ChangeSpec := { name := "admitComes", fn := fun _ => fun
  | [d1, d2, d3] => { results := [.lit (.bool true)], args := [d1, d2, d3] }
  | _ => none }
def admitComesRow : OpenClaim := { program := "ythhfhgkkfaghoaa", sum := "05d26ee5785711e2ad005ede1bc046fc0b348d152641b356675ccb27d89b5331", func := "lockkeeper/lockkeeperlaw11.AdmitComes", spec := "admitComes", unfollowed := true, recurses := true, apart := false }
def AdmitComesSaid : Prop := admitComesRow.holds Try.pinned (OpenSpec.ofChange admitComesSpec)

/-- ITS FALSE NEIGHBOUR: 'it returns false'. Refute it at one input. -/
def admitComesWrong : ChangeSpec := { name := "admitComes", fn := fun _ => fun
  | [d1, d2, d3] => { results := [.lit (.bool false)], args := [d1, d2, d3] }
  | _ => none }
def AdmitComesWrongFalsely : Prop := admitComesRow.holds Try.pinned (OpenSpec.ofChange admitComesWrong)

/-- 'lockkeeperlaw11.AdmitEnds': WHATEVER THE INPUT: true; the input reads as it did. -/
def admitEndsSpec : ChangeSpec := { name := "admitEnds", fn := fun _ => fun
  | [d] => { results := [.lit (.bool true)], args := [d] }
  | _ => none }
def admitEndsRow : OpenClaim := { program := "ythhfhgkkfaghoaa", sum := "05d26ee5785711e2ad005ede1bc046fc0b348d152641b356675ccb27d89b5331", func := "lockkeeper/lockkeeperlaw11.AdmitEnds", spec := "admitEnds", unfollowed := true, recurses := true, apart := false }
def AdmitEndsSaid : Prop := admitEndsRow.holds Try.pinned (OpenSpec.ofChange admitEndsSpec)

/-- ITS FALSE NEIGHBOUR: 'it returns false'. Refute it at one input. -/
def admitEndsWrong : ChangeSpec := { name := "admitEnds", fn := fun _ => fun
  | [d] => { results := [.lit (.bool false)], args := [d] }
  | _ => none }
def AdmitEndsWrongFalsely : Prop := admitEndsRow.holds Try.pinned (OpenSpec.ofChange admitEndsWrong)

/-- 'lockkeeperlaw11.AdmitOnes': WHATEVER THE INPUT: true; the input reads as it did. -/
def admitOnesSpec : ChangeSpec := { name := "admitOnes", fn := fun _ => fun
  | [d] => { results := [.lit (.bool true)], args := [d] }
  | _ => none }
def admitOnesRow : OpenClaim := { program := "ythhfhgkkfaghoaa", sum := "05d26ee5785711e2ad005ede1bc046fc0b348d152641b356675ccb27d89b5331", func := "lockkeeper/lockkeeperlaw11.AdmitOnes", spec := "admitOnes", unfollowed := true, recurses := true, apart := false }
def AdmitOnesSaid : Prop := admitOnesRow.holds Try.pinned (OpenSpec.ofChange admitOnesSpec)

/-- ITS FALSE NEIGHBOUR: 'it returns false'. Refute it at one input. -/
def admitOnesWrong : ChangeSpec := { name := "admitOnes", fn := fun _ => fun
  | [d] => { results := [.lit (.bool false)], args := [d] }
  | _ => none }
def AdmitOnesWrongFalsely : Prop := admitOnesRow.holds Try.pinned (OpenSpec.ofChange admitOnesWrong)

/-- 'lockkeeperlaw11.AdmitPins': WHATEVER THE INPUT: true; the input reads as it did. -/
def admitPinsSpec : ChangeSpec := { name := "admitPins", fn := fun _ => fun
  | [d1, d2] => { results := [.lit (.bool true)], args := [d1, d2] }
  | _ => none }
def admitPinsRow : OpenClaim := { program := "ythhfhgkkfaghoaa", sum := "05d26ee5785711e2ad005ede1bc046fc0b348d152641b356675ccb27d89b5331", func := "lockkeeper/lockkeeperlaw11.AdmitPins", spec := "admitPins", unfollowed := true, recurses := true, apart := false }
def AdmitPinsSaid : Prop := admitPinsRow.holds Try.pinned (OpenSpec.ofChange admitPinsSpec)

/-- ITS FALSE NEIGHBOUR: 'it returns false'. Refute it at one input. -/
def admitPinsWrong : ChangeSpec := { name := "admitPins", fn := fun _ => fun
  | [d1, d2] => { results := [.lit (.bool false)], args := [d1, d2] }
  | _ => none }
def AdmitPinsWrongFalsely : Prop := admitPinsRow.holds Try.pinned (OpenSpec.ofChange admitPinsWrong)

/-- 'lockkeeperlaw11.AdmitSafe': WHATEVER THE INPUT: true; the input reads as it did. -/
def admitSafeSpec : ChangeSpec := { name := "admitSafe", fn := fun _ => fun
  | [d1, d2, d3] => { results := [.lit (.bool true)], args := [d1, d2, d3] }
  | _ => none }
def admitSafeRow : OpenClaim := { program := "ythhfhgkkfaghoaa", sum := "05d26ee5785711e2ad005ede1bc046fc0b348d152641b356675ccb27d89b5331", func := "lockkeeper/lockkeeperlaw11.AdmitSafe", spec := "admitSafe", unfollowed := true, recurses := true, apart := false }
def AdmitSafeSaid : Prop := admitSafeRow.holds Try.pinned (OpenSpec.ofChange admitSafeSpec)

/-- ITS FALSE NEIGHBOUR: 'it returns false'. Refute it at one input. -/
def admitSafeWrong : ChangeSpec := { name := "admitSafe", fn := fun _ => fun
  | [d1, d2, d3] => { results := [.lit (.bool false)], args := [d1, d2, d3] }
  | _ => none }
def AdmitSafeWrongFalsely : Prop := admitSafeRow.holds Try.pinned (OpenSpec.ofChange admitSafeWrong)

/-- 'lockkeeperlaw11.AdmitBack': WHATEVER THE INPUT: true; the input reads as it did. -/
def admitBackSpec : ChangeSpec := { name := "admitBack", fn := fun _ => fun
  | [d1, d2] => { results := [.lit (.bool true)], args := [d1, d2] }
  | _ => none }
def admitBackRow : OpenClaim := { program := "ythhfhgkkfaghoaa", sum := "05d26ee5785711e2ad005ede1bc046fc0b348d152641b356675ccb27d89b5331", func := "lockkeeper/lockkeeperlaw11.AdmitBack", spec := "admitBack", unfollowed := true, recurses := true, apart := false }
def AdmitBackSaid : Prop := admitBackRow.holds Try.pinned (OpenSpec.ofChange admitBackSpec)

/-- ITS FALSE NEIGHBOUR: 'it returns false'. Refute it at one input. -/
def admitBackWrong : ChangeSpec := { name := "admitBack", fn := fun _ => fun
  | [d1, d2] => { results := [.lit (.bool false)], args := [d1, d2] }
  | _ => none }
def AdmitBackWrongFalsely : Prop := admitBackRow.holds Try.pinned (OpenSpec.ofChange admitBackWrong)

/- THE SECOND FORM. 'bulk': how many values and letters a reading holds, each counted each time it is reached (what is shared counts as often as it is met; a slice's spare places count too). A statement '..UptoSaid' is the law's where the arguments, and the package variables that the reading takes, are together of bulk at most 1048576: NARROWER than '..Said'. Prove '..Said' where nothing that the law and all that it calls make is longer than what came in: it says more and counts as full. Else prove '..UptoSaid'. A law counts once. -/
mutual
def uptoBulk {H : Type} : DataW H → Nat
  | .lit (.string bytes) => bytes.length + 1
  | .lit _ => 1
  | .nil => 1
  | .ptr d => uptoBulk d + 1
  | .slice elems spare => uptoBulkAll elems + uptoBulkAll spare + 1
  | .agg parts => uptoBulkAll parts + 1
  | .iface _ d => uptoBulk d + 1
  | .map entries => uptoBulkEntries entries + 1
  | .held _ => 1
def uptoBulkAll {H : Type} : List (DataW H) → Nat
  | [] => 0
  | d :: r => uptoBulk d + uptoBulkAll r
def uptoBulkEntries {H : Type} : List (Lit × DataW H) → Nat
  | [] => 0
  | x :: r => uptoBulkEntry x + uptoBulkEntries r
def uptoBulkEntry {H : Type} : Lit × DataW H → Nat
  | (.string bytes, d) => bytes.length + uptoBulk d + 1
  | (_, d) => uptoBulk d + 1
 end
def uptoSmall : (H : Type) → List (DataW H) → Bool := fun _ ds => decide (uptoBulkAll ds ≤ 1048576)
def OpenSpec.upto (s : _root_.Go.ChangeSpec) : _root_.Go.OpenSpec := { _root_.Go.OpenSpec.ofChange s with cond := some uptoSmall }

/-- 'lockkeeperlaw11.AdmitComes', WHERE WHAT IT READS IS OF BULK AT MOST 1048576: true; the input reads as it did. -/
def admitComesUptoRow : OpenClaim := { program := "ythhfhgkkfaghoaa", sum := "05d26ee5785711e2ad005ede1bc046fc0b348d152641b356675ccb27d89b5331", func := "lockkeeper/lockkeeperlaw11.AdmitComes", spec := "admitComes", unfollowed := true, recurses := true, apart := false, narrowed := true }
def AdmitComesUptoSaid : Prop := admitComesUptoRow.holds Try.pinned (OpenSpec.upto admitComesSpec)

/-- 'lockkeeperlaw11.AdmitEnds', WHERE WHAT IT READS IS OF BULK AT MOST 1048576: true; the input reads as it did. -/
def admitEndsUptoRow : OpenClaim := { program := "ythhfhgkkfaghoaa", sum := "05d26ee5785711e2ad005ede1bc046fc0b348d152641b356675ccb27d89b5331", func := "lockkeeper/lockkeeperlaw11.AdmitEnds", spec := "admitEnds", unfollowed := true, recurses := true, apart := false, narrowed := true }
def AdmitEndsUptoSaid : Prop := admitEndsUptoRow.holds Try.pinned (OpenSpec.upto admitEndsSpec)

/-- 'lockkeeperlaw11.AdmitOnes', WHERE WHAT IT READS IS OF BULK AT MOST 1048576: true; the input reads as it did. -/
def admitOnesUptoRow : OpenClaim := { program := "ythhfhgkkfaghoaa", sum := "05d26ee5785711e2ad005ede1bc046fc0b348d152641b356675ccb27d89b5331", func := "lockkeeper/lockkeeperlaw11.AdmitOnes", spec := "admitOnes", unfollowed := true, recurses := true, apart := false, narrowed := true }
def AdmitOnesUptoSaid : Prop := admitOnesUptoRow.holds Try.pinned (OpenSpec.upto admitOnesSpec)

/-- 'lockkeeperlaw11.AdmitPins', WHERE WHAT IT READS IS OF BULK AT MOST 1048576: true; the input reads as it did. -/
def admitPinsUptoRow : OpenClaim := { program := "ythhfhgkkfaghoaa", sum := "05d26ee5785711e2ad005ede1bc046fc0b348d152641b356675ccb27d89b5331", func := "lockkeeper/lockkeeperlaw11.AdmitPins", spec := "admitPins", unfollowed := true, recurses := true, apart := false, narrowed := true }
def AdmitPinsUptoSaid : Prop := admitPinsUptoRow.holds Try.pinned (OpenSpec.upto admitPinsSpec)

/-- 'lockkeeperlaw11.AdmitSafe', WHERE WHAT IT READS IS OF BULK AT MOST 1048576: true; the input reads as it did. -/
def admitSafeUptoRow : OpenClaim := { program := "ythhfhgkkfaghoaa", sum := "05d26ee5785711e2ad005ede1bc046fc0b348d152641b356675ccb27d89b5331", func := "lockkeeper/lockkeeperlaw11.AdmitSafe", spec := "admitSafe", unfollowed := true, recurses := true, apart := false, narrowed := true }
def AdmitSafeUptoSaid : Prop := admitSafeUptoRow.holds Try.pinned (OpenSpec.upto admitSafeSpec)

/-- 'lockkeeperlaw11.AdmitBack', WHERE WHAT IT READS IS OF BULK AT MOST 1048576: true; the input reads as it did. -/
def admitBackUptoRow : OpenClaim := { program := "ythhfhgkkfaghoaa", sum := "05d26ee5785711e2ad005ede1bc046fc0b348d152641b356675ccb27d89b5331", func := "lockkeeper/lockkeeperlaw11.AdmitBack", spec := "admitBack", unfollowed := true, recurses := true, apart := false, narrowed := true }
def AdmitBackUptoSaid : Prop := admitBackUptoRow.holds Try.pinned (OpenSpec.upto admitBackSpec)

end Rows
end Go.Proofs.Ythhfhgkkfaghoaa
