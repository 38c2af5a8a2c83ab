/- A page as data, and its cells. -/
import Derived.Test.YtbnegkkjgkignaaMem
namespace Go.Proofs.Ytbnegkkjgkignaa
open Go.RowKit

structure Pg where
  id : Int
  ver : Int
  body : ByteArray
  deriving DecidableEq
def Pg.cells (p : Pg) : List Value := [.int .i64 p.id, .int .i64 p.ver, .string p.body]
theorem pg_len (p : Pg) : p.cells.length = 3 := rfl
theorem pg_one : ∀ p : Pg, ∀ u ∈ Pg.cells p, u.oneCell' = true := by
  intro x u hu; simp [Pg.cells] at hu; rcases hu with rfl | rfl | rfl <;> rfl
theorem rd_p {w : World} {B : Nat} {A : Option Addr} {l : List Pg} (h : Rd Pg.cells 3 w B A l) {k : Nat} (hk : k < l.length) :
    ∃ c b off, l[k]? = some c ∧ A = some ⟨b, off, none⟩ ∧ b < B ∧ ∀ W, Below B w W → W.cell? ⟨b, off + k * 3, none⟩ = some (.int .i64 c.id) ∧ W.cell? ⟨b, off + k * 3 + 1, none⟩ = some (.int .i64 c.ver) ∧ W.cell? ⟨b, off + k * 3 + 2, none⟩ = some (.string c.body) := by
  obtain ⟨c, b, off, hc, hA, hb, hcell⟩ := h.at_ hk
  exact ⟨c, b, off, hc, hA, hb, fun W hW => ⟨hcell W hW 0 _ rfl, hcell W hW 1 _ rfl, hcell W hW 2 _ rfl⟩⟩
end Go.Proofs.Ytbnegkkjgkignaa
