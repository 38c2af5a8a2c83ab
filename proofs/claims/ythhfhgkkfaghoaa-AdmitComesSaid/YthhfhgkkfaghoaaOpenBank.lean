/- A slice of clients that came in, opened. -/
import Derived.Test.YthhfhgkkfaghoaaOpen
import Derived.Test.YthhfhgkkfaghoaaBank1
namespace Go.Proofs.Ythhfhgkkfaghoaa
open Go.ChangeShapes Go.WideShapes Go.ChangeAt Go.RowKit

theorem cellsClient : Try.prog.cellsOf 50 = 3 := by kernel_rfl
theorem cellsInt : Try.prog.cellsOf 3 = 1 := by kernel_rfl
theorem open_clients {H : Type} {enc : TypeId × Value → H} {w : World} {A : Option Addr} {len cap : Nat} {d : DataW H} {p : List MemPlace}
    (h : DataW.Trod enc Try.prog w 0 (fun _ => true) true 22 (.slice A len cap) d p) : ∃ l : List C, l.length = len ∧ len ≤ cap ∧ cap ≤ 9223372036854775807 ∧ Rd C.cells 3 w w.heap.size A l := by
  obtain ⟨l, h1, h2, h3, h4, _⟩ := open_list (f := C.cells) (sz := 3) (Q := fun _ => True) Try.underlying22 cellsClient (by decide) (fun _ => rfl) (fun n cs x hcs hx => by
    obtain ⟨y0, y1, y2, m, _, _, q0, q1, q2⟩ := Go.Deep.trod_struct3 Try.underlying50 hx
    match cs, hcs with
    | [c0, c1, c2], _ =>
      simp only [cellsInt, List.drop_zero, List.take_succ_cons, List.take_zero, List.drop_succ_cons] at q0 q1 q2
      obtain ⟨a, e0, _, _⟩ := DataW.trod_int Try.underlying3 q0
      obtain ⟨b, e1, _, _⟩ := DataW.trod_int Try.underlying3 q1
      obtain ⟨c, e2, _, _⟩ := DataW.trod_int Try.underlying3 q2
      simp at e0 e1 e2
      subst e0 e1 e2
      exact ⟨⟨a, b, c⟩, rfl, trivial⟩) h
  exact ⟨l, h1, h2, h3, h4⟩
end Go.Proofs.Ythhfhgkkfaghoaa
