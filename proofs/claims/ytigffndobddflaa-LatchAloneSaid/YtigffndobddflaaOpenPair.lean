/- A slice of [2]uint8 that came in, opened. -/
import Derived.Test.YtigffndobddflaaOpenBytes
namespace Go.Proofs.Ytigffndobddflaa
open Go.ChangeShapes Go.WideShapes Go.ChangeAt Go.RowKit

def pcells (x : Int × Int) : List Value := [.int .u8 x.1, .int .u8 x.2]
theorem rd_p {w : World} {B : Nat} {A : Option Addr} {l : List (Int × Int)} (h : Rd pcells 2 w B A l) {k : Nat} (hk : k < l.length) :
    ∃ c b off, l[k]? = some c ∧ A = some ⟨b, off, none⟩ ∧ b < B ∧ ∀ W, Below B w W → W.cell? ⟨b, off + k * 2, none⟩ = some (.int .u8 c.1) ∧ W.cell? ⟨b, off + k * 2 + 1, none⟩ = some (.int .u8 c.2) := by
  obtain ⟨c, b, off, hc, hA, hb, hcell⟩ := h.at_ hk
  exact ⟨c, b, off, hc, hA, hb, fun W hW => ⟨hcell W hW 0 _ rfl, hcell W hW 1 _ rfl⟩⟩
theorem cellsPair : Try.prog.cellsOf 49 = 2 := by kernel_rfl
/-- the list lies in memory, and each number is a byte -/
def PairsAt (w : World) (A : Option Addr) (l : List (Int × Int)) : Prop := Rd pcells 2 w w.heap.size A l ∧ ∀ (k : Nat) (x : Int × Int), l[k]? = some x → (0 ≤ x.1 ∧ x.1 ≤ 255) ∧ (0 ≤ x.2 ∧ x.2 ≤ 255)
theorem open_pairs {H : Type} {enc : TypeId × Value → H} {w : World} {A : Option Addr} {len cap : Nat} {d : DataW H} {p : List MemPlace}
    (h : DataW.Trod enc Try.prog w 0 (fun _ => true) true 46 (.slice A len cap) d p) : ∃ l : List (Int × Int), l.length = len ∧ len ≤ cap ∧ cap ≤ 9223372036854775807 ∧ PairsAt w A l := by
  obtain ⟨l, h1, h2, h3, h4, h5⟩ := open_list (f := pcells) (sz := 2) (Q := fun x : Int × Int => (0 ≤ x.1 ∧ x.1 ≤ 255) ∧ (0 ≤ x.2 ∧ x.2 ≤ 255)) Try.underlying46 cellsPair (by decide) (fun _ => rfl) (fun n cs x hcs hx => by
    obtain ⟨xs, m, _, _, _, hlen, hxx⟩ := DataW.trod_array Try.underlying49 hx
    match cs, hcs, xs, hlen with
    | [c0, c1], _, [y0, y1], _ =>
      have q0 := hxx 0 (by decide)
      have q1 := hxx 1 (by decide)
      simp [cellsU8] at q0 q1
      obtain ⟨a, e0, _, w0⟩ := DataW.trod_int Try.underlying5 q0
      obtain ⟨b, e1, _, w1⟩ := DataW.trod_int Try.underlying5 q1
      simp at e0 e1
      subst e0 e1
      exact ⟨⟨a, b⟩, rfl, bounds_u8 w0, bounds_u8 w1⟩) h
  exact ⟨l, h1, h2, h3, h4, h5⟩
end Go.Proofs.Ytigffndobddflaa
