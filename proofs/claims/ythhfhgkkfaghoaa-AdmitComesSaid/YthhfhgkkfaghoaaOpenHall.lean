/- A hall that came in, opened. -/
import Derived.Test.YthhfhgkkfaghoaaOpenBank
import Derived.Test.YthhfhgkkfaghoaaAdm3
import Derived.Lib.SmallJoins
namespace Go.Proofs.Ythhfhgkkfaghoaa
open Go.ChangeShapes Go.WideShapes Go.ChangeAt Go.RowKit

theorem cellsTicket : Try.prog.cellsOf 66 = 2 := by kernel_rfl
theorem cellsHall : Try.prog.cellsOf 25 = 4 := by kernel_rfl
theorem cellsClients : Try.prog.cellsOf 22 = 1 := by kernel_rfl
theorem cellsTickets : Try.prog.cellsOf 23 = 1 := by kernel_rfl
section
variable {H : Type} {enc : TypeId × Value → H} {w : World} {A : Option Addr} {len cap : Nat} {d : DataW H} {p : List MemPlace}
theorem open_tickets (h : DataW.Trod enc Try.prog w 0 (fun _ => true) true 23 (.slice A len cap) d p) : ∃ l : List T, l.length = len ∧ len ≤ cap ∧ cap ≤ 9223372036854775807 ∧ Rd T.cells 2 w w.heap.size A l := by
  obtain ⟨l, h1, h2, h3, h4, _⟩ := open_list (f := T.cells) (sz := 2) (Q := fun _ => True) Try.underlying23 cellsTicket (by decide) (fun _ => rfl) (fun n cs x hcs hx => by
    obtain ⟨xs, m, _, _, hl, hlen, hxx⟩ := DataW.trod_struct Try.underlying66 hx
    match cs, hcs, xs, hlen with
    | [c0, c1], _, [y0, y1], _ =>
      have q0 := hxx 0 _ rfl
      have q1 := hxx 1 _ rfl
      simp [cellsInt] at q0 q1
      obtain ⟨a, e0, _, _⟩ := DataW.trod_int Try.underlying3 q0
      obtain ⟨b, e1, _, _⟩ := DataW.trod_int Try.underlying3 q1
      simp at e0 e1
      subst e0 e1
      exact ⟨⟨a, b⟩, rfl, trivial⟩) h
  exact ⟨l, h1, h2, h3, h4⟩
theorem open_hall {r : Reach} {b0 : Nat} {v : Value} (hv : Value.okWide Try.prog w r b0 25 v) (h : DataW.Trod enc Try.prog w 0 (fun _ => true) true 25 v d p) :
    ∃ A ac Q qc x, v = .agg #[.int .i64 (x : Hall).frames, .int .i64 x.budget, .slice A x.cs.length ac, .slice Q x.q.length qc] ∧ x.cs.length ≤ 9223372036854775807 ∧ x.q.length ≤ 9223372036854775807 ∧ HM w (fun b => b < w.heap.size) x A ac Q qc := by
  obtain ⟨cs, rfl, hsz⟩ := okWide_struct Try.underlying25 hv
  rw [cellsHall] at hsz
  obtain ⟨c0, c1, c2, c3, rfl⟩ := Go.Joins.array4 hsz
  obtain ⟨fuel, hf⟩ := h
  obtain ⟨y0, y1, y2, y3, n, _, _, q0, q1, q2, q3⟩ := Go.Joins.trod_struct4 Try.underlying25 hf
  · simp [Value.cells, cellsInt, cellsClients, cellsTickets] at q0 q1 q2 q3
    obtain ⟨f, e0, _, _⟩ := DataW.trod_int Try.underlying3 q0
    obtain ⟨b, e1, _, _⟩ := DataW.trod_int Try.underlying3 q1
    simp at e0 e1
    subst e0 e1
    have hc : ∃ A ac l, c2 = .slice A (l : List C).length ac ∧ l.length ≤ ac ∧ ac ≤ 9223372036854775807 ∧ Rd C.cells 3 w w.heap.size A l := by
      rcases Go.Deep.open_slice Try.underlying22 q2 with ⟨hcs, _⟩ | ⟨a, len', cap', m, n', D, Pl, hcs, _⟩
      · simp at hcs
        subst hcs
        exact ⟨none, 0, [], rfl, Nat.le_refl _, by decide, Rd.nil⟩
      · simp at hcs
        subst hcs
        obtain ⟨l, h1, h2, h3, h4⟩ := open_clients (H := H) (enc := enc) (w := w) (A := some a) (len := len') (cap := cap') ⟨n, by simpa [Value.cells] using q2⟩
        subst h1
        exact ⟨some a, cap', l, rfl, h2, h3, h4⟩
    have hq : ∃ A ac l, c3 = .slice A (l : List T).length ac ∧ l.length ≤ ac ∧ ac ≤ 9223372036854775807 ∧ Rd T.cells 2 w w.heap.size A l := by
      rcases Go.Deep.open_slice Try.underlying23 q3 with ⟨hcs, _⟩ | ⟨a, len', cap', m, n', D, Pl, hcs, _⟩
      · simp at hcs
        subst hcs
        exact ⟨none, 0, [], rfl, Nat.le_refl _, by decide, Rd.nil⟩
      · simp at hcs
        subst hcs
        obtain ⟨l, h1, h2, h3, h4⟩ := open_tickets (H := H) (enc := enc) (w := w) (A := some a) (len := len') (cap := cap') ⟨n, by simpa [Value.cells] using q3⟩
        subst h1
        exact ⟨some a, cap', l, rfl, h2, h3, h4⟩
    obtain ⟨A, ac, l, rfl, h1, h2, h3⟩ := hc
    obtain ⟨Q, qc, m, rfl, h4, h5, h6⟩ := hq
    exact ⟨A, ac, Q, qc, ⟨f, b, l, m⟩, rfl, by show l.length ≤ _; omega, by show m.length ≤ _; omega, ⟨h3, h6, h1, h2, h4, h5⟩⟩
end
end Go.Proofs.Ythhfhgkkfaghoaa
