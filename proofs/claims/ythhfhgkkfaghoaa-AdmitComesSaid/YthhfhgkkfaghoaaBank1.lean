/- The contract of bank.next: the first client that was not served, and can be. -/
import Derived.Test.YthhfhgkkfaghoaaProg
import Derived.Test.YthhfhgkkfaghoaaMem
import Derived.Test.YthhfhgkkfaghoaaBank0
namespace Go.Proofs.Ythhfhgkkfaghoaa
open Go.RowKit

def C.cells (c : C) : List Value := [.int .i64 c.who, .int .i64 c.claim, .int .i64 c.held]
def bcells (b : Bool) : List Value := [.bool b]
def icells (n : Int) : List Value := [.int .i64 n]

theorem rd_c {w : World} {B : Nat} {A : Option Addr} {l : List C} (h : Rd C.cells 3 w B A l) {k : Nat} (hk : k < l.length) :
    ∃ c b off, l[k]? = some c ∧ A = some ⟨b, off, none⟩ ∧ b < B ∧ ∀ W, Below B w W → W.cell? ⟨b, off + k * 3, none⟩ = some (.int .i64 c.who) ∧ W.cell? ⟨b, off + k * 3 + 1, none⟩ = some (.int .i64 c.claim) ∧ W.cell? ⟨b, off + k * 3 + 2, none⟩ = some (.int .i64 c.held) := by
  obtain ⟨c, b, off, hc, hA, hb, hcell⟩ := h.at_ hk
  exact ⟨c, b, off, hc, hA, hb, fun W hW => ⟨hcell W hW 0 _ rfl, hcell W hW 1 _ rfl, hcell W hW 2 _ rfl⟩⟩
theorem rd_b {w : World} {B : Nat} {A : Option Addr} {l : List Bool} (h : Rd bcells 1 w B A l) {k : Nat} (hk : k < l.length) :
    ∃ c b off, l[k]? = some c ∧ A = some ⟨b, off, none⟩ ∧ b < B ∧ ∀ W, Below B w W → W.cell? ⟨b, off + k, none⟩ = some (.bool c) := by
  obtain ⟨c, b, off, hc, hA, hb, hcell⟩ := h.at_ hk
  exact ⟨c, b, off, hc, hA, hb, fun W hW => by simpa using hcell W hW 0 _ rfl⟩
theorem rd_i {w : World} {B : Nat} {A : Option Addr} {l : List Int} (h : Rd icells 1 w B A l) {k : Nat} (hk : k < l.length) :
    ∃ c b off, l[k]? = some c ∧ A = some ⟨b, off, none⟩ ∧ b < B ∧ ∀ W, Below B w W → W.cell? ⟨b, off + k, none⟩ = some (.int .i64 c) := by
  obtain ⟨c, b, off, hc, hA, hb, hcell⟩ := h.at_ hk
  exact ⟨c, b, off, hc, hA, hb, fun W hW => by simpa using hcell W hW 0 _ rfl⟩

/-- what next answers -/
def nextV (r : Option Nat) : Value := match r with
  | some k => .tuple #[.int .i64 k, .bool true]
  | none => .tuple #[.int .i64 0, .bool false]

/-- all numbers of all clients are small -/
def smallC (l : List C) : Prop := ∀ (k : Nat) (c : C), l[k]? = some c → 0 ≤ c.claim ∧ c.claim ≤ 100 ∧ 0 ≤ c.held ∧ c.held ≤ c.claim

theorem next_any (w : World) (A S : Option Addr) (cap sc : Nat) (l : List C) (sv : List Bool) (free : Int) (hf0 : 0 ≤ free) (hf1 : free ≤ 100000)
    (hn : l.length ≤ 9223372036854775807) (hs : sv.length = l.length) (hr : Rd C.cells 3 w w.heap.size A l) (hq : Rd bcells 1 w w.heap.size S sv) (hsm : smallC l) :
    Calls Try.prog 56 #[.int .i64 free, .slice A l.length cap, .slice S l.length sc] w fun e w' => e = .returned (nextV (nextB free l sv)) ∧ Below w.heap.size w w' := by
  go_enter Try.func56, Try.ntmps56
  go_wp2
  go_loopg [12] l.length (fun g i wr => ∃ k : Nat, k ≤ l.length ∧ g = l.length - k ∧ i = .int .i64 k ∧ (∀ j, j < k → fits free l sv j = false) ∧ Below w.heap.size w wr)
  case atStart => exact ⟨0, Nat.zero_le _, rfl, rfl, fun _ h => absurd h (by omega), Below.refl _ _⟩
  case round =>
    obtain ⟨k, hk, hg, rfl, hno, hb⟩ := hrel
    have Hg := Lib.hid hg; clear hg
    have Hno := Lib.hid hno; clear hno
    by_cases hlt : k < l.length
    · obtain ⟨c, b, off, hc, rfl, hbb, hcell⟩ := rd_c hr hlt
      obtain ⟨v, sb, so, hv, rfl, hsb, hvell⟩ := rd_b hq (k := k) (by omega)
      obtain ⟨g0, g1, g2⟩ := hcell wr hb
      have g3 := hvell wr hb
      have hbw : b < wr.heap.size := by have := hb.size; omega
      have hsw : sb < wr.heap.size := by have := hb.size; omega
      obtain ⟨q1, q2, q3, q4⟩ := hsm k c hc
      have Hc := Lib.hid hc; clear hc
      have Hv := Lib.hid hv; clear hv
      have Hs := Lib.hid hs; clear hs
      have Hr := Lib.hid hr; clear hr
      have Hq := Lib.hid hq; clear hq
      clear hcell hvell hsm
      cases v
      · by_cases hfit : c.claim - c.held ≤ free
        · go_wp2
          go_ret2
          exact ⟨by rw [nextB_some hlt (fits_yes Hc.out Hv.out hfit) Hno.out]; rfl, hb.alloc hb.size _⟩
        · go_wp2
          go_roundg (l.length - (k + 1))
          case measure => have := Hg.out; omega
          case rel => exact ⟨k + 1, by omega, rfl, by go_num, fun j hj => by
            rcases Nat.lt_or_ge j k with h | h
            · exact Hno.out j h
            · obtain rfl : j = k := by omega
              exact fits_no Hc.out (by omega), hb.alloc hb.size _⟩
      · go_wp2
        go_roundg (l.length - (k + 1))
        case measure => have := Hg.out; omega
        case rel => exact ⟨k + 1, by omega, rfl, by go_num, fun j hj => by
            rcases Nat.lt_or_ge j k with h | h
            · exact Hno.out j h
            · obtain rfl : j = k := by omega
              exact fits_served Hv.out, hb.alloc hb.size _⟩
    · have hkl : k = l.length := by omega
      have Hkl := Lib.hid hkl; clear hkl
      go_wp2
      go_ret2
      exact ⟨by rw [nextB_none.2 (fun j hj => Hno.out j (by have := Hkl.out; omega))]; rfl, hb⟩
end Go.Proofs.Ythhfhgkkfaghoaa
