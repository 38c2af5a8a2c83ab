/- A slice of uint8 that came in, opened. -/
import Derived.Test.YtigffndobddflaaOpen
namespace Go.Proofs.Ytigffndobddflaa
open Go.ChangeShapes Go.WideShapes Go.ChangeAt Go.RowKit

def ucells (n : Int) : List Value := [.int .u8 n]
theorem rd_u {w : World} {B : Nat} {A : Option Addr} {l : List Int} (h : Rd ucells 1 w B A l) {k : Nat} (hk : k < l.length) :
    ∃ c b off, l[k]? = some c ∧ A = some ⟨b, off, none⟩ ∧ b < B ∧ ∀ W, Below B w W → W.cell? ⟨b, off + k, none⟩ = some (.int .u8 c) := by
  obtain ⟨c, b, off, hc, hA, hb, hcell⟩ := h.at_ hk
  exact ⟨c, b, off, hc, hA, hb, fun W hW => by simpa using hcell W hW 0 _ rfl⟩
theorem cellsU8 : Try.prog.cellsOf 5 = 1 := by kernel_rfl
/-- the list lies in memory, and each number is a byte -/
def BytesAt (w : World) (A : Option Addr) (l : List Int) : Prop := Rd ucells 1 w w.heap.size A l ∧ ∀ (k : Nat) (x : Int), l[k]? = some x → 0 ≤ x ∧ x ≤ 255
theorem open_u8s {H : Type} {enc : TypeId × Value → H} {w : World} {A : Option Addr} {len cap : Nat} {d : DataW H} {p : List MemPlace}
    (h : DataW.Trod enc Try.prog w 0 (fun _ => true) true 54 (.slice A len cap) d p) : ∃ l : List Int, l.length = len ∧ len ≤ cap ∧ cap ≤ 9223372036854775807 ∧ BytesAt w A l := by
  obtain ⟨l, h1, h2, h3, h4, h5⟩ := open_list (f := ucells) (sz := 1) (Q := fun x : Int => 0 ≤ x ∧ x ≤ 255) Try.underlying54 cellsU8 (by decide) (fun _ => rfl) (fun n cs x hcs hx => by
    obtain ⟨a, rfl, _, hw⟩ := DataW.trod_int Try.underlying5 hx
    exact ⟨a, rfl, bounds_u8 hw⟩) h
  exact ⟨l, h1, h2, h3, h4, h5⟩
end Go.Proofs.Ytigffndobddflaa
