/- Slices of string and of bool that came in, opened. -/
import Derived.Test.YthiblfkmcdnalaaGreatOpen
import Derived.Test.YthiblfkmcdnalaaGreatTLaw2
namespace Go.Proofs.YthiblfkmcdnalaaGreat
set_option maxRecDepth 1000000
open Go.ChangeShapes Go.WideShapes Go.ChangeAt Go.RowKit

theorem cellsStr : Tryz.prog.cellsOf 9 = 1 := by kernel_rfl
theorem cellsBool : Tryz.prog.cellsOf 4 = 1 := by kernel_rfl
theorem open_strs {H : Type} {enc : TypeId × Value → H} {w : World} {A : Option Addr} {len cap : Nat} {d : DataW H} {p : List MemPlace}
    (h : DataW.Trod enc Tryz.prog w 0 (fun _ => true) true 22 (.slice A len cap) d p) : ∃ l : List ByteArray, l.length = len ∧ len ≤ cap ∧ cap ≤ 9223372036854775807 ∧ Rd scells 1 w w.heap.size A l := by
  obtain ⟨l, h1, h2, h3, h4, _⟩ := open_list (f := scells) (sz := 1) (Q := fun _ : ByteArray => True) Tryz.underlying22 cellsStr (by decide) (fun _ => rfl) (fun n cs x hcs hx => by
    obtain ⟨b, rfl, _, _⟩ := DataW.trod_string Tryz.underlying9 hx
    exact ⟨b, rfl, trivial⟩) h
  exact ⟨l, h1, h2, h3, h4⟩
theorem open_bools {H : Type} {enc : TypeId × Value → H} {w : World} {A : Option Addr} {len cap : Nat} {d : DataW H} {p : List MemPlace}
    (h : DataW.Trod enc Tryz.prog w 0 (fun _ => true) true 23 (.slice A len cap) d p) : ∃ l : List Bool, l.length = len ∧ len ≤ cap ∧ cap ≤ 9223372036854775807 ∧ Rd fcells 1 w w.heap.size A l := by
  obtain ⟨l, h1, h2, h3, h4, _⟩ := open_list (f := fcells) (sz := 1) (Q := fun _ : Bool => True) Tryz.underlying23 cellsBool (by decide) (fun _ => rfl) (fun n cs x hcs hx => by
    obtain ⟨b, rfl, _⟩ := DataW.trod_bool Tryz.underlying4 hx
    exact ⟨b, rfl, trivial⟩) h
  exact ⟨l, h1, h2, h3, h4⟩
end Go.Proofs.YthiblfkmcdnalaaGreat
