/- A slice of the document's clients, in memory of the call's own. -/
import Derived.Test.YthhfhgkkfaghoaaBank3
namespace Go.Proofs.Ythhfhgkkfaghoaa
open Go.RowKit

/-- A slice of clients in memory of the call's own, of the document's type. -/
def RefCs (l : List C) (w : World) (e : Ending) (w' : World) : Prop :=
  ∃ A cap, e = .returned (.slice A l.length cap) ∧ l.length ≤ cap ∧ cap ≤ 9223372036854775807 ∧ w'.ownsRow w.heap.size 65 3 (.slice A l.length cap) l.length (l.flatMap C.cells) ∧ Below w.heap.size w w'

theorem Try.infoRef : (Try.prog.info? 65).map (fun i => (i.zero, i.size, i.bytes)) = some (some (.agg #[.int .i64 0, .int .i64 0, .int .i64 0]), 3, 24) := by kernel_rfl

theorem take_snoc_c {l : List C} {k : Nat} {c : C} (h : l[k]? = some c) : (l.take (k + 1)).flatMap C.cells = (l.take k).flatMap C.cells ++ [.int .i64 c.who, .int .i64 c.claim, .int .i64 c.held] := by
  rw [List.take_add_one, h]; simp [C.cells]
end Go.Proofs.Ythhfhgkkfaghoaa
