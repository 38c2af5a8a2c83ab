/-
  No cell of these rows narrows 'for every input' (looked for: loops, veiled, ifaces, maps, wideKeys, modest, calm, conditions, laid).
  DERIVED. THE GIVEN ROWS OF THIS SEAT. 7 by the template 'for every input the law returns true; each argument reads behind the call as it read before'; 0 by the template 'total and deterministic' (their statements: YtlhnmgjoalifpaaTotals.lean).
  GIVEN WITH THE SEED: the statements are not yours to turn. If you find one false, say at which input.
  Laid BY PROGRAM, IN A SANDBOX (cutbox-rows.mjs): the forced cells as the released guide's own fill.sh prints them over the translation b04c7f6ac0172534… (all of the seat's roots in one cut). By AI agents, Wed Nov 11 2026. No macro, syntax, notation, axiom, sorry.
-/
import Derived.Test.YtlhnmgjoalifpaaChecked
import GoSem.Claim
import GoSem.ClaimJoined
import GoSem.ClaimMapViews
import Derived.JoinedTies
import Derived.KernelRfl
namespace Go.Proofs.Ytlhnmgjoalifpaa
/- THE CELL 'sum', in the pinned program and in every row, IS THE sha256 OF THE DUMP (.gsa) THAT YtlhnmgjoalifpaaProg.lean LOADS. Nothing in Lean hashes anything: it is a label: what it is worth is what the hold of that sum in a sandbox is worth. -/
noncomputable def Try.pinned : Pinned := { name := "ytlhnmgjoalifpaa", sum := "b04c7f6ac0172534d272371e8c3ab5ccd4b12bdcf2f065a47059ad9d5d1b4008", checked := Try.checked }
namespace Rows
def none {H : Type} : Left H := { results := [], args := [] }

/-- 'lockkeeperlaw10.BankOrder': WHATEVER THE INPUT: true; the input reads as it did. -/
def bankOrderSpec : ChangeSpec := { name := "bankOrder", fn := fun _ => fun
  | [d1, d2] => { results := [.lit (.bool true)], args := [d1, d2] }
  | _ => none }
def bankOrderRow : OpenClaim := { program := "ytlhnmgjoalifpaa", sum := "b04c7f6ac0172534d272371e8c3ab5ccd4b12bdcf2f065a47059ad9d5d1b4008", func := "lockkeeper/lockkeeperlaw10.BankOrder", spec := "bankOrder", apart := false }
def BankOrderSaid : Prop := bankOrderRow.holds Try.pinned (OpenSpec.ofChange bankOrderSpec)

/-- ITS FALSE NEIGHBOUR: 'it returns false'. Refute it at one input. -/
def bankOrderWrong : ChangeSpec := { name := "bankOrder", fn := fun _ => fun
  | [d1, d2] => { results := [.lit (.bool false)], args := [d1, d2] }
  | _ => none }
def BankOrderWrongFalsely : Prop := bankOrderRow.holds Try.pinned (OpenSpec.ofChange bankOrderWrong)

/-- 'lockkeeperlaw10.BankSafe': WHATEVER THE INPUT: true; the input reads as it did. -/
def bankSafeSpec : ChangeSpec := { name := "bankSafe", fn := fun _ => fun
  | [d1, d2] => { results := [.lit (.bool true)], args := [d1, d2] }
  | _ => none }
def bankSafeRow : OpenClaim := { program := "ytlhnmgjoalifpaa", sum := "b04c7f6ac0172534d272371e8c3ab5ccd4b12bdcf2f065a47059ad9d5d1b4008", func := "lockkeeper/lockkeeperlaw10.BankSafe", spec := "bankSafe", recurses := true, apart := false }
def BankSafeSaid : Prop := bankSafeRow.holds Try.pinned (OpenSpec.ofChange bankSafeSpec)

/-- ITS FALSE NEIGHBOUR: 'it returns false'. Refute it at one input. -/
def bankSafeWrong : ChangeSpec := { name := "bankSafe", fn := fun _ => fun
  | [d1, d2] => { results := [.lit (.bool false)], args := [d1, d2] }
  | _ => none }
def BankSafeWrongFalsely : Prop := bankSafeRow.holds Try.pinned (OpenSpec.ofChange bankSafeWrong)

/-- 'lockkeeperlaw10.BankMore': WHATEVER THE INPUT: true; the input reads as it did. -/
def bankMoreSpec : ChangeSpec := { name := "bankMore", fn := fun _ => fun
  | [d1, d2, d3, d4] => { results := [.lit (.bool true)], args := [d1, d2, d3, d4] }
  | _ => none }
def bankMoreRow : OpenClaim := { program := "ytlhnmgjoalifpaa", sum := "b04c7f6ac0172534d272371e8c3ab5ccd4b12bdcf2f065a47059ad9d5d1b4008", func := "lockkeeper/lockkeeperlaw10.BankMore", spec := "bankMore", apart := false }
def BankMoreSaid : Prop := bankMoreRow.holds Try.pinned (OpenSpec.ofChange bankMoreSpec)

/-- ITS FALSE NEIGHBOUR: 'it returns false'. Refute it at one input. -/
def bankMoreWrong : ChangeSpec := { name := "bankMore", fn := fun _ => fun
  | [d1, d2, d3, d4] => { results := [.lit (.bool false)], args := [d1, d2, d3, d4] }
  | _ => none }
def BankMoreWrongFalsely : Prop := bankMoreRow.holds Try.pinned (OpenSpec.ofChange bankMoreWrong)

/-- 'lockkeeperlaw10.BankFirst': WHATEVER THE INPUT: true; the input reads as it did. -/
def bankFirstSpec : ChangeSpec := { name := "bankFirst", fn := fun _ => fun
  | [d1, d2] => { results := [.lit (.bool true)], args := [d1, d2] }
  | _ => none }
def bankFirstRow : OpenClaim := { program := "ytlhnmgjoalifpaa", sum := "b04c7f6ac0172534d272371e8c3ab5ccd4b12bdcf2f065a47059ad9d5d1b4008", func := "lockkeeper/lockkeeperlaw10.BankFirst", spec := "bankFirst", apart := false }
def BankFirstSaid : Prop := bankFirstRow.holds Try.pinned (OpenSpec.ofChange bankFirstSpec)

/-- ITS FALSE NEIGHBOUR: 'it returns false'. Refute it at one input. -/
def bankFirstWrong : ChangeSpec := { name := "bankFirst", fn := fun _ => fun
  | [d1, d2] => { results := [.lit (.bool false)], args := [d1, d2] }
  | _ => none }
def BankFirstWrongFalsely : Prop := bankFirstRow.holds Try.pinned (OpenSpec.ofChange bankFirstWrong)

/-- 'lockkeeperlaw10.BankOne': WHATEVER THE INPUT: true; the input reads as it did. -/
def bankOneSpec : ChangeSpec := { name := "bankOne", fn := fun _ => fun
  | [d1, d2, d3] => { results := [.lit (.bool true)], args := [d1, d2, d3] }
  | _ => none }
def bankOneRow : OpenClaim := { program := "ytlhnmgjoalifpaa", sum := "b04c7f6ac0172534d272371e8c3ab5ccd4b12bdcf2f065a47059ad9d5d1b4008", func := "lockkeeper/lockkeeperlaw10.BankOne", spec := "bankOne", apart := false }
def BankOneSaid : Prop := bankOneRow.holds Try.pinned (OpenSpec.ofChange bankOneSpec)

/-- ITS FALSE NEIGHBOUR: 'it returns false'. Refute it at one input. -/
def bankOneWrong : ChangeSpec := { name := "bankOne", fn := fun _ => fun
  | [d1, d2, d3] => { results := [.lit (.bool false)], args := [d1, d2, d3] }
  | _ => none }
def BankOneWrongFalsely : Prop := bankOneRow.holds Try.pinned (OpenSpec.ofChange bankOneWrong)

/-- 'lockkeeperlaw10.BankTurned': WHATEVER THE INPUT: true; the input reads as it did. -/
def bankTurnedSpec : ChangeSpec := { name := "bankTurned", fn := fun _ => fun
  | [d1, d2, d3] => { results := [.lit (.bool true)], args := [d1, d2, d3] }
  | _ => none }
def bankTurnedRow : OpenClaim := { program := "ytlhnmgjoalifpaa", sum := "b04c7f6ac0172534d272371e8c3ab5ccd4b12bdcf2f065a47059ad9d5d1b4008", func := "lockkeeper/lockkeeperlaw10.BankTurned", spec := "bankTurned", apart := false }
def BankTurnedSaid : Prop := bankTurnedRow.holds Try.pinned (OpenSpec.ofChange bankTurnedSpec)

/-- ITS FALSE NEIGHBOUR: 'it returns false'. Refute it at one input. -/
def bankTurnedWrong : ChangeSpec := { name := "bankTurned", fn := fun _ => fun
  | [d1, d2, d3] => { results := [.lit (.bool false)], args := [d1, d2, d3] }
  | _ => none }
def BankTurnedWrongFalsely : Prop := bankTurnedRow.holds Try.pinned (OpenSpec.ofChange bankTurnedWrong)

/-- 'lockkeeperlaw10.BankFilled': WHATEVER THE INPUT: true; the input reads as it did. -/
def bankFilledSpec : ChangeSpec := { name := "bankFilled", fn := fun _ => fun
  | [d] => { results := [.lit (.bool true)], args := [d] }
  | _ => none }
def bankFilledRow : OpenClaim := { program := "ytlhnmgjoalifpaa", sum := "b04c7f6ac0172534d272371e8c3ab5ccd4b12bdcf2f065a47059ad9d5d1b4008", func := "lockkeeper/lockkeeperlaw10.BankFilled", spec := "bankFilled", apart := false }
def BankFilledSaid : Prop := bankFilledRow.holds Try.pinned (OpenSpec.ofChange bankFilledSpec)

/-- ITS FALSE NEIGHBOUR: 'it returns false'. Refute it at one input. -/
def bankFilledWrong : ChangeSpec := { name := "bankFilled", fn := fun _ => fun
  | [d] => { results := [.lit (.bool false)], args := [d] }
  | _ => none }
def BankFilledWrongFalsely : Prop := bankFilledRow.holds Try.pinned (OpenSpec.ofChange bankFilledWrong)

/- THE SECOND FORM. 'bulk': how many values and letters a reading holds, each counted each time it is reached (what is shared counts as often as it is met; a slice's spare places count too). A statement '..UptoSaid' is the law's where the arguments, and the package variables that the reading takes, are together of bulk at most 1048576: NARROWER than '..Said'. Prove '..Said' where nothing that the law and all that it calls make is longer than what came in: it says more and counts as full. Else prove '..UptoSaid'. A law counts once. -/
mutual
def uptoBulk {H : Type} : DataW H → Nat
  | .lit (.string bytes) => bytes.length + 1
  | .lit _ => 1
  | .nil => 1
  | .ptr d => uptoBulk d + 1
  | .slice elems spare => uptoBulkAll elems + uptoBulkAll spare + 1
  | .agg parts => uptoBulkAll parts + 1
  | .iface _ d => uptoBulk d + 1
  | .map entries => uptoBulkEntries entries + 1
  | .held _ => 1
def uptoBulkAll {H : Type} : List (DataW H) → Nat
  | [] => 0
  | d :: r => uptoBulk d + uptoBulkAll r
def uptoBulkEntries {H : Type} : List (Lit × DataW H) → Nat
  | [] => 0
  | x :: r => uptoBulkEntry x + uptoBulkEntries r
def uptoBulkEntry {H : Type} : Lit × DataW H → Nat
  | (.string bytes, d) => bytes.length + uptoBulk d + 1
  | (_, d) => uptoBulk d + 1
 end
def uptoSmall : (H : Type) → List (DataW H) → Bool := fun _ ds => decide (uptoBulkAll ds ≤ 1048576)
def OpenSpec.upto (s : _root_.Go.ChangeSpec) : _root_.Go.OpenSpec := { _root_.Go.OpenSpec.ofChange s with cond := some uptoSmall }

/-- 'lockkeeperlaw10.BankOrder', WHERE WHAT IT READS IS OF BULK AT MOST 1048576: true; the input reads as it did. -/
def bankOrderUptoRow : OpenClaim := { program := "ytlhnmgjoalifpaa", sum := "b04c7f6ac0172534d272371e8c3ab5ccd4b12bdcf2f065a47059ad9d5d1b4008", func := "lockkeeper/lockkeeperlaw10.BankOrder", spec := "bankOrder", apart := false, narrowed := true }
def BankOrderUptoSaid : Prop := bankOrderUptoRow.holds Try.pinned (OpenSpec.upto bankOrderSpec)

/-- 'lockkeeperlaw10.BankSafe', WHERE WHAT IT READS IS OF BULK AT MOST 1048576: true; the input reads as it did. -/
def bankSafeUptoRow : OpenClaim := { program := "ytlhnmgjoalifpaa", sum := "b04c7f6ac0172534d272371e8c3ab5ccd4b12bdcf2f065a47059ad9d5d1b4008", func := "lockkeeper/lockkeeperlaw10.BankSafe", spec := "bankSafe", recurses := true, apart := false, narrowed := true }
def BankSafeUptoSaid : Prop := bankSafeUptoRow.holds Try.pinned (OpenSpec.upto bankSafeSpec)

/-- 'lockkeeperlaw10.BankMore', WHERE WHAT IT READS IS OF BULK AT MOST 1048576: true; the input reads as it did. -/
def bankMoreUptoRow : OpenClaim := { program := "ytlhnmgjoalifpaa", sum := "b04c7f6ac0172534d272371e8c3ab5ccd4b12bdcf2f065a47059ad9d5d1b4008", func := "lockkeeper/lockkeeperlaw10.BankMore", spec := "bankMore", apart := false, narrowed := true }
def BankMoreUptoSaid : Prop := bankMoreUptoRow.holds Try.pinned (OpenSpec.upto bankMoreSpec)

/-- 'lockkeeperlaw10.BankFirst', WHERE WHAT IT READS IS OF BULK AT MOST 1048576: true; the input reads as it did. -/
def bankFirstUptoRow : OpenClaim := { program := "ytlhnmgjoalifpaa", sum := "b04c7f6ac0172534d272371e8c3ab5ccd4b12bdcf2f065a47059ad9d5d1b4008", func := "lockkeeper/lockkeeperlaw10.BankFirst", spec := "bankFirst", apart := false, narrowed := true }
def BankFirstUptoSaid : Prop := bankFirstUptoRow.holds Try.pinned (OpenSpec.upto bankFirstSpec)

/-- 'lockkeeperlaw10.BankOne', WHERE WHAT IT READS IS OF BULK AT MOST 1048576: true; the input reads as it did. -/
def bankOneUptoRow : OpenClaim := { program := "ytlhnmgjoalifpaa", sum := "b04c7f6ac0172534d272371e8c3ab5ccd4b12bdcf2f065a47059ad9d5d1b4008", func := "lockkeeper/lockkeeperlaw10.BankOne", spec := "bankOne", apart := false, narrowed := true }
def BankOneUptoSaid : Prop := bankOneUptoRow.holds Try.pinned (OpenSpec.upto bankOneSpec)

/-- 'lockkeeperlaw10.BankTurned', WHERE WHAT IT READS IS OF BULK AT MOST 1048576: true; the input reads as it did. -/
def bankTurnedUptoRow : OpenClaim := { program := "ytlhnmgjoalifpaa", sum := "b04c7f6ac0172534d272371e8c3ab5ccd4b12bdcf2f065a47059ad9d5d1b4008", func := "lockkeeper/lockkeeperlaw10.BankTurned", spec := "bankTurned", apart := false, narrowed := true }
def BankTurnedUptoSaid : Prop := bankTurnedUptoRow.holds Try.pinned (OpenSpec.upto bankTurnedSpec)

/-- 'lockkeeperlaw10.BankFilled', WHERE WHAT IT READS IS OF BULK AT MOST 1048576: true; the input reads as it did. -/
def bankFilledUptoRow : OpenClaim := { program := "ytlhnmgjoalifpaa", sum := "b04c7f6ac0172534d272371e8c3ab5ccd4b12bdcf2f065a47059ad9d5d1b4008", func := "lockkeeper/lockkeeperlaw10.BankFilled", spec := "bankFilled", apart := false, narrowed := true }
def BankFilledUptoSaid : Prop := bankFilledUptoRow.holds Try.pinned (OpenSpec.upto bankFilledSpec)

end Rows
end Go.Proofs.Ytlhnmgjoalifpaa
