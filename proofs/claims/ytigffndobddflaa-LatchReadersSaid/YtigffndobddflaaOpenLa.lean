/- A latch that came in, opened; lists of numbers. -/
import Derived.Test.YtigffndobddflaaOpen
import Derived.Test.YtigffndobddflaaLat1
import Derived.Lib.SmallJoins
namespace Go.Proofs.Ytigffndobddflaa
open Go.ChangeShapes Go.WideShapes Go.ChangeAt Go.RowKit

theorem cellsInt : Try.prog.cellsOf 3 = 1 := by kernel_rfl
theorem cellsBool : Try.prog.cellsOf 4 = 1 := by kernel_rfl
theorem cellsWait : Try.prog.cellsOf 58 = 2 := by kernel_rfl
theorem cellsLatch : Try.prog.cellsOf 25 = 3 := by kernel_rfl
theorem cellsInts : Try.prog.cellsOf 22 = 1 := by kernel_rfl
theorem cellsWaits : Try.prog.cellsOf 23 = 1 := by kernel_rfl
section
variable {H : Type} {enc : TypeId × Value → H} {w : World} {A : Option Addr} {len cap : Nat} {d : DataW H} {p : List MemPlace}
theorem open_ints (h : DataW.Trod enc Try.prog w 0 (fun _ => true) true 22 (.slice A len cap) d p) : ∃ l : List Int, l.length = len ∧ len ≤ cap ∧ cap ≤ 9223372036854775807 ∧ Rd icells 1 w w.heap.size A l := by
  obtain ⟨l, h1, h2, h3, h4, _⟩ := open_list (f := icells) (sz := 1) (Q := fun _ => True) Try.underlying22 cellsInt (by decide) (fun n => rfl) (fun n cs x hcs hx => by
    obtain ⟨a, rfl, _, hw⟩ := DataW.trod_int Try.underlying3 hx
    exact ⟨a, rfl, trivial⟩) h
  exact ⟨l, h1, h2, h3, h4⟩
theorem open_waits (h : DataW.Trod enc Try.prog w 0 (fun _ => true) true 23 (.slice A len cap) d p) : ∃ l : List Wt, l.length = len ∧ len ≤ cap ∧ cap ≤ 9223372036854775807 ∧ Rd Wt.cells 2 w w.heap.size A l := by
  obtain ⟨l, h1, h2, h3, h4, _⟩ := open_list (f := Wt.cells) (sz := 2) (Q := fun _ => True) Try.underlying23 cellsWait (by decide) (fun _ => rfl) (fun n cs x hcs hx => by
    obtain ⟨xs, m, _, _, hl, hlen, hxx⟩ := DataW.trod_struct Try.underlying58 hx
    match cs, hcs, xs, hlen with
    | [c0, c1], _, [y0, y1], _ =>
      have q0 := hxx 0 _ rfl
      have q1 := hxx 1 _ rfl
      simp [cellsInt, cellsBool] at q0 q1
      obtain ⟨a, e0, _, _⟩ := DataW.trod_int Try.underlying3 q0
      obtain ⟨b, e1, _⟩ := DataW.trod_bool Try.underlying4 q1
      simp at e0 e1
      subst e0 e1
      exact ⟨⟨a, b⟩, rfl, trivial⟩) h
  exact ⟨l, h1, h2, h3, h4⟩
theorem open_latch {r : Reach} {b0 : Nat} {v : Value} (hv : Value.okWide Try.prog w r b0 25 v) (h : DataW.Trod enc Try.prog w 0 (fun _ => true) true 25 v d p) :
    ∃ A ac Q qc x, v = .agg #[.slice A (x : La).hs.length ac, .bool x.ex, .slice Q x.q.length qc] ∧ x.hs.length ≤ 9223372036854775807 ∧ x.q.length ≤ 9223372036854775807 ∧ LM w (fun b => b < w.heap.size) x A ac Q qc := by
  obtain ⟨cs, rfl, hsz⟩ := okWide_struct Try.underlying25 hv
  rw [cellsLatch] at hsz
  obtain ⟨c0, c1, c2, rfl⟩ := Go.Joins.array3 hsz
  obtain ⟨fuel, hf⟩ := h
  obtain ⟨y0, y1, y2, n, _, _, q0, q1, q2⟩ := Go.Deep.trod_struct3 Try.underlying25 hf
  simp [Value.cells, cellsBool, cellsInts, cellsWaits] at q0 q1 q2
  obtain ⟨b, e1, _⟩ := DataW.trod_bool Try.underlying4 q1
  simp at e1
  subst e1
  have hc : ∃ A ac l, c0 = .slice A (l : List Int).length ac ∧ l.length ≤ ac ∧ ac ≤ 9223372036854775807 ∧ Rd icells 1 w w.heap.size A l := by
    rcases Go.Deep.open_slice Try.underlying22 q0 with ⟨hcs, _⟩ | ⟨a, len', cap', m, n', D, Pl, hcs, _⟩
    · simp at hcs
      subst hcs
      exact ⟨none, 0, [], rfl, Nat.le_refl _, by decide, Rd.nil⟩
    · simp at hcs
      subst hcs
      obtain ⟨l, h1, h2, h3, h4⟩ := open_ints (H := H) (enc := enc) (w := w) (A := some a) (len := len') (cap := cap') ⟨n, by simpa [Value.cells] using q0⟩
      subst h1
      exact ⟨some a, cap', l, rfl, h2, h3, h4⟩
  have hq : ∃ A ac l, c2 = .slice A (l : List Wt).length ac ∧ l.length ≤ ac ∧ ac ≤ 9223372036854775807 ∧ Rd Wt.cells 2 w w.heap.size A l := by
    rcases Go.Deep.open_slice Try.underlying23 q2 with ⟨hcs, _⟩ | ⟨a, len', cap', m, n', D, Pl, hcs, _⟩
    · simp at hcs
      subst hcs
      exact ⟨none, 0, [], rfl, Nat.le_refl _, by decide, Rd.nil⟩
    · simp at hcs
      subst hcs
      obtain ⟨l, h1, h2, h3, h4⟩ := open_waits (H := H) (enc := enc) (w := w) (A := some a) (len := len') (cap := cap') ⟨n, by simpa [Value.cells] using q2⟩
      subst h1
      exact ⟨some a, cap', l, rfl, h2, h3, h4⟩
  obtain ⟨A, ac, l, rfl, h1, h2, h3⟩ := hc
  obtain ⟨Q, qc, m, rfl, h4, h5, h6⟩ := hq
  exact ⟨A, ac, Q, qc, ⟨l, b, m⟩, rfl, by show l.length ≤ _; omega, by show m.length ≤ _; omega, ⟨h3, h6, h1, h2, h4, h5⟩⟩
end
end Go.Proofs.Ytigffndobddflaa
