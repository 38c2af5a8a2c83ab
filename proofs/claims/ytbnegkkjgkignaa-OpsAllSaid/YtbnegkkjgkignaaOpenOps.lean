/- Arguments of the ops laws, opened: a map of pages, an operation, lists of numbers. -/
import Derived.Test.YtbnegkkjgkignaaOpen
import Derived.Test.YtbnegkkjgkignaaOps8
namespace Go.Proofs.Ytbnegkkjgkignaa
open Go.ChangeShapes Go.WideShapes Go.ChangeAt Go.RowKit

theorem cellsPage : Try.prog.cellsOf 31 = 3 := by kernel_rfl
theorem cellsInt : Try.prog.cellsOf 3 = 1 := by kernel_rfl
theorem cellsStr : Try.prog.cellsOf 9 = 1 := by kernel_rfl
theorem cellsMap : Try.prog.cellsOf 24 = 1 := by kernel_rfl
theorem cellsPages : Try.prog.cellsOf 22 = 1 := by kernel_rfl
section
variable {H : Type} {enc : TypeId × Value → H} {w : World} {A : Option Addr} {len cap : Nat} {d : DataW H} {p : List MemPlace}
theorem open_pages (h : DataW.Trod enc Try.prog w 0 (fun _ => true) true 22 (.slice A len cap) d p) : ∃ l : List Pg, l.length = len ∧ len ≤ cap ∧ cap ≤ 9223372036854775807 ∧ Rd Pg.cells 3 w w.heap.size A l := by
  obtain ⟨l, h1, h2, h3, h4, _⟩ := open_list (f := Pg.cells) (sz := 3) (Q := fun _ => True) Try.underlying22 cellsPage (by decide) (fun _ => rfl) (fun n cs x hcs hx => by
    obtain ⟨y0, y1, y2, m, _, _, q0, q1, q2⟩ := Go.Deep.trod_struct3 Try.underlying31 hx
    match cs, hcs with
    | [c0, c1, c2], _ =>
      simp only [cellsInt, cellsStr, List.drop_zero, List.take_succ_cons, List.take_zero, List.drop_succ_cons] at q0 q1 q2
      obtain ⟨a, e0, _, _⟩ := DataW.trod_int Try.underlying3 q0
      obtain ⟨b, e1, _, _⟩ := DataW.trod_int Try.underlying3 q1
      obtain ⟨c, e2, _, _⟩ := DataW.trod_string Try.underlying9 q2
      simp at e0 e1 e2
      subst e0 e1 e2
      exact ⟨⟨a, b, c⟩, rfl, trivial⟩) h
  exact ⟨l, h1, h2, h3, h4⟩
theorem open_map {r : Reach} {b0 : Nat} {v : Value} (hv : Value.okWide Try.prog w r b0 24 v) (h : DataW.Trod enc Try.prog w 0 (fun _ => true) true 24 v d p) :
    ∃ A cap l, v = .agg #[.slice A (l : List Pg).length cap] ∧ l.length ≤ 9223372036854775807 ∧ Rd Pg.cells 3 w w.heap.size A l := by
  obtain ⟨cs, rfl, hsz⟩ := okWide_struct Try.underlying24 hv
  rw [cellsMap] at hsz
  obtain ⟨c0, rfl⟩ : ∃ c0, cs = #[c0] := by
    obtain ⟨l⟩ := cs
    match l, hsz with
    | [c0], _ => exact ⟨c0, rfl⟩
  obtain ⟨fuel, hf⟩ := h
  obtain ⟨xs, n, _, _, hl, hlen, hx⟩ := DataW.trod_struct Try.underlying24 hf
  match xs, hlen with
  | [y0], _ =>
    have h0 := hx 0 _ rfl
    simp [Value.cells, cellsPages] at h0
    rcases Go.Deep.open_slice Try.underlying22 h0 with ⟨hcs, _⟩ | ⟨a, len', cap', m, n', D, Pl, hcs, _⟩
    · simp at hcs
      subst hcs
      exact ⟨none, 0, [], rfl, by decide, Rd.nil⟩
    · simp at hcs
      subst hcs
      obtain ⟨l, h1, h2, h3, h4⟩ := open_pages (H := H) (enc := enc) (w := w) (A := some a) (len := len') (cap := cap') ⟨n, by simpa [Value.cells] using h0⟩
      subst h1
      exact ⟨some a, cap', l, rfl, by omega, h4⟩
theorem open_ints {ic : Int → List Value} (hic : ∀ n, ic n = [.int .i64 n]) (h : DataW.Trod enc Try.prog w 0 (fun _ => true) true 56 (.slice A len cap) d p) : ∃ l : List Int, l.length = len ∧ len ≤ cap ∧ cap ≤ 9223372036854775807 ∧ Rd ic 1 w w.heap.size A l := by
  obtain ⟨l, h1, h2, h3, h4, _⟩ := open_list (f := ic) (sz := 1) (Q := fun _ => True) Try.underlying56 cellsInt (by decide) (fun n => by rw [hic]; rfl) (fun n cs x hcs hx => by
    obtain ⟨a, rfl, _, hw⟩ := DataW.trod_int Try.underlying3 hx
    exact ⟨a, by rw [hic], trivial⟩) h
  exact ⟨l, h1, h2, h3, h4⟩
theorem cellsOp : Try.prog.cellsOf 26 = 3 := by kernel_rfl
theorem open_op {r : Reach} {b0 : Nat} {v : Value} (hv : Value.okWide Try.prog w r b0 26 v) (h : DataW.Trod enc Try.prog w 0 (fun _ => true) true 26 v d p) :
    ∃ o : Op, v = .agg #[.int .i64 o.kind, .int .i64 o.id, .string o.body] := by
  obtain ⟨cs, rfl, hsz⟩ := okWide_struct Try.underlying26 hv
  rw [cellsOp] at hsz
  obtain ⟨c0, c1, c2, rfl⟩ : ∃ c0 c1 c2, cs = #[c0, c1, c2] := by
    obtain ⟨l⟩ := cs
    match l, hsz with
    | [c0, c1, c2], _ => exact ⟨c0, c1, c2, rfl⟩
  obtain ⟨fuel, hf⟩ := h
  obtain ⟨y0, y1, y2, m, _, _, q0, q1, q2⟩ := Go.Deep.trod_struct3 Try.underlying26 hf
  simp [Value.cells, cellsInt, cellsStr] at q0 q1 q2
  obtain ⟨a, e0, _, _⟩ := DataW.trod_int Try.underlying3 q0
  obtain ⟨b, e1, _, _⟩ := DataW.trod_int Try.underlying3 q1
  obtain ⟨c, e2, _, _⟩ := DataW.trod_string Try.underlying9 q2
  simp at e0 e1 e2
  subst e0 e1 e2
  exact ⟨⟨a, b, c⟩, rfl⟩
end
end Go.Proofs.Ytbnegkkjgkignaa
