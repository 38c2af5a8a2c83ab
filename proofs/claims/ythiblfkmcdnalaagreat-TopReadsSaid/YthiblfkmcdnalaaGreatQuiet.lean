/- A region that draws its order, whose operations read, and whose callees leave all that was there as it was: one walk in the order of the text. -/
import Derived.Test.YthiblfkmcdnalaaGreatMem
import Derived.Deep.Quiet
import Derived.Deep.QuietTactic
namespace Go.Proofs.YthiblfkmcdnalaaGreat
set_option maxRecDepth 1000000
open Go.RowKit

/-- a world that leaves all that was there in w0 as it was -/
structure BW (w0 : World) where
  w : World
  below : Below w0.heap.size w0 w
instance (w0 : World) : Nonempty (BW w0) := ⟨⟨w0, Below.refl _ _⟩⟩

theorem wp_region_bw {P : Program} {id : Nat} {Q : Exit → Act → World → Prop} {a : Act} {w : World} {l : List Oper} (hm : P.follows .mixedOrders = true) (hB : Region.lexB .any l.toArray = true)
    (h : wpQuiet P l.toArray (fun V => ∃ x : BW w, V = x.w) (fun a' => ∀ w', (∃ x : BW w, w' = x.w) → Q .normal a' w') l a) : (Code.region id l.toArray true).wp P Q a w :=
  wp_region_quiet (C := fun V => ∃ x : BW w, V = x.w) hm hB ⟨⟨_, (Below.refl _ w).drew⟩, rfl⟩ (by simpa using h)
theorem bw_nil {w : World} {R : World → Prop} (h : ∀ V, Below w.heap.size w V → R V) : ∀ w', (∃ x : BW w, w' = x.w) → R w' := by
  rintro _ ⟨x, rfl⟩
  exact h x.w x.below
theorem call_bw {P : Program} {f : FuncId} {args : Array Value} {w : World} {x : BW w} {v : Value} (h : Calls P f args x.w fun e w' => e = .returned v ∧ Below x.w.heap.size x.w w') :
    Calls P f args x.w fun e w'' => e = .returned v ∧ ∃ y : BW w, w'' = y.w :=
  h.mono fun _ _ ⟨he, hb⟩ => ⟨he, ⟨⟨_, bnext x.below hb⟩, rfl⟩⟩
theorem bw_cell {w : World} {p : Addr} {v : Value} (h : w.cell? p = some v) (hp : p.block < w.heap.size) : ∀ x : BW w, x.w.cell? p = some v := fun x => (x.below.cell hp).trans h
end Go.Proofs.YthiblfkmcdnalaaGreat
