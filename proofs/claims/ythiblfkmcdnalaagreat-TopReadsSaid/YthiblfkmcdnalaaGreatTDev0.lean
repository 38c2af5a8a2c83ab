/- The device of the top seat: words; the contracts of device.request, home, Right. -/
import Derived.Test.YthiblfkmcdnalaaGreatTRead
import Derived.Test.YthiblfkmcdnalaaGreatTDisk2
namespace Go.Proofs.YthiblfkmcdnalaaGreat
set_option maxRecDepth 1000000
open Go.RowKit
set_option maxRecDepth 1000000

/-- a request -/
structure Rq where
  ticket : Int
  kind : Int
  page : Int
  data : ByteArray
def Rq.cells (x : Rq) : List Value := [.int .i64 x.ticket, .int .i64 x.kind, .int .i64 x.page, .string x.data]
theorem rq_len : ∀ x : Rq, x.cells.length = 4 := fun _ => rfl
theorem rq_one : ∀ x : Rq, ∀ u ∈ x.cells, u.oneCell' = true := fun x u hu => by
  simp only [Rq.cells, List.mem_cons, List.mem_nil_iff, or_false] at hu
  rcases hu with rfl | rfl | rfl | rfl <;> rfl
/-- a device -/
structure Dv where
  disk : Dk
  next : Int
  flight : List Rq
def MDv (w : World) (s c f : Value) (d : Dv) : Prop := MDk w s c d.disk ∧ Sl Rq.cells 4 81 w f d.flight
theorem MDv.up {w w' : World} {s c f : Value} {d : Dv} (h : MDv w s c f d) (hb : Below w.heap.size w w') : MDv w' s c f d := ⟨h.1.up hb, h.2.up hb⟩
theorem MDv.len {w : World} {s c f : Value} {d : Dv} (h : MDv w s c f d) : (∃ A ac, s = .slice A d.disk.secs.length ac) ∧ (∃ B bc, c = .slice B d.disk.cache.length bc) ∧ ∃ F fc, f = .slice F d.flight.length fc ∧ d.flight.length ≤ fc ∧ fc ≤ 9223372036854775807 := by
  obtain ⟨h1, ⟨F, fc, rfl, hl, hl2, _⟩⟩ := h
  exact ⟨h1.len.1, h1.len.2, F, fc, rfl, hl, hl2⟩
/-- a request that may be asked -/
def GRq (kind page : Int) (data : ByteArray) : Prop := 1 ≤ page ∧ page ≤ 16 ∧ ((kind = 1 ∧ data = ⟨#[]⟩) ∨ (kind = 2 ∧ data.size = 32))
/-- a good device, with at most one request in flight -/
structure GDv (d : Dv) : Prop where
  disk : GDk d.disk
  next : 0 ≤ d.next ∧ d.next ≤ 1000
  f1 : d.flight.length ≤ 1
  fok : ∀ r ∈ d.flight, 0 ≤ r.ticket ∧ r.ticket < d.next ∧ GRq r.kind r.page r.data
theorem rq_at {w : World} {A : Option Addr} {l : List Rq} (h : Rt Rq.cells 4 81 w A l) {k : Nat} (hk : k < l.length) :
    ∃ x b off, l[k]? = some x ∧ A = some ⟨b, off, none⟩ ∧ b < w.heap.size ∧ ∀ W, Below w.heap.size w W → W.cell? ⟨b, off + k * 4, none⟩ = some (.int .i64 x.ticket) ∧ W.cell? ⟨b, off + k * 4 + 1, none⟩ = some (.int .i64 x.kind) ∧ W.cell? ⟨b, off + k * 4 + 2, none⟩ = some (.int .i64 x.page) ∧ W.cell? ⟨b, off + k * 4 + 3, none⟩ = some (.string x.data) := by
  obtain ⟨x, b, off, h1, h2, h3, h4⟩ := h.at_ hk
  exact ⟨x, b, off, h1, h2, h3, fun W hW => ⟨by have := h4 W hW 0 _ rfl; simpa using this, h4 W hW 1 _ rfl, h4 W hW 2 _ rfl, h4 W hW 3 _ rfl⟩⟩

set_option maxHeartbeats 1000000 in
theorem request_any (w : World) (kind page : Int) (data : ByteArray) (h : GRq kind page data) :
    Calls Tryz.prog 40 #[.int .i64 kind, .int .i64 page, .string data] w fun e w' => e = .returned (.bool true) ∧ w = w' := by
  obtain ⟨h1, h2, ⟨rfl, rfl⟩ | ⟨rfl, h3⟩⟩ := h
  · go_enter Tryz.func40, Tryz.ntmps40
    go_wp2_with fail
    go_ret
    exact ⟨rfl, rfl⟩
  · have h3b : ((data.size : Int) == 32) = true := by rw [h3]; rfl
    clear h3
    go_enter Tryz.func40, Tryz.ntmps40
    go_wp2_with fail
    go_ret
    exact ⟨rfl, rfl⟩

set_option maxHeartbeats 1000000 in
theorem home_any (w : World) (page : Int) (h1 : 0 ≤ page) (h2 : page ≤ 1000) :
    Calls Tryz.prog 48 #[.int .i64 page] w fun e w' => e = .returned (.int .i64 (2 * page + 1)) ∧ w = w' := by
  go_enter Tryz.func48, Tryz.ntmps48
  go_wp2_with fail
  go_ret
  exact ⟨rfl, rfl⟩

set_option maxHeartbeats 4000000 in
theorem devRight_any (w : World) (s c f : Value) (d : Dv) (hg : GDv d) (hm : MDv w s c f d) :
    Calls Tryz.prog 14 #[.agg #[s, c, .int .i64 d.next, f]] w fun e w' => e = .returned (.bool true) ∧ Below w.heap.size w w' := by
  obtain ⟨⟨A, ac, rfl⟩, ⟨B, bc, rfl⟩, ⟨F, fc, rfl, _, _⟩⟩ := hm.len
  obtain ⟨W, hW, hbW, hsW, B0⟩ := box1 w #[.slice A d.disk.secs.length ac, .slice B d.disk.cache.length bc, .int .i64 d.next, .slice F d.flight.length fc] 37
  have Hm := Lib.hid hm; have Hg := Lib.hid hg
  have HbW := Lib.hid hbW
  have hsW' := bsz hsW
  obtain ⟨hn0, hn1⟩ := hg.next
  have hf1 := hg.f1
  have h35 : (35 : Int) ≤ (d.disk.secs.length : Int) := by have := hg.disk.n35; omega
  clear hm hg hbW hsW
  obtain ⟨c00, c01, c02, c03, f00, f01, f02, f03, lt0⟩ := B0.c4
  go_enter Tryz.func14, Tryz.ntmps14
  go_wp2_with fail
  refine (diskRight_any W _ _ d.disk Hg.out.disk (Hm.out.1.up HbW.out)).mono ?_
  rintro e V1 ⟨rfl, hb1⟩
  clear hW c00 c01 c02 c03 f00 f01 f02 f03 lt0
  replace B0 := B0.up hb1
  have Hb1 := Lib.hid (HbW.out.trans (hb1.mono hsW'))
  have hs1 := hb1.size
  clear hb1
  obtain ⟨c00, c01, c02, c03, f00, f01, f02, f03, lt0⟩ := B0.c4
  go_wp2_with fail
  clear c00 c01 c02 c03 f00 f01 f02 f03 lt0
  go_loopg [3, 34] d.flight.length (fun g la i wr => ∃ (k : Nat) (q : Int), k ≤ d.flight.length ∧ g = d.flight.length - k ∧ i = .int .i64 k ∧ la = .int .i64 q ∧ (k = 0 → q = -1) ∧ Below V1.heap.size V1 wr)
  case atStart => exact ⟨0, -1, Nat.zero_le _, rfl, rfl, rfl, fun _ => rfl, Below.refl _ _⟩
  case round =>
    obtain ⟨k, q, hk, hgk, rfl, rfl, hq, hb⟩ := hrel
    have Hgk := Lib.hid hgk; clear hgk
    have hsr := hb.size
    by_cases hlt : k < d.flight.length
    · obtain rfl : k = 0 := by omega
      obtain rfl : q = -1 := hq rfl
      obtain ⟨x, b, off, hx, rfl, hbb, hcell⟩ := rq_at Hm.out.2.rt hlt
      obtain ⟨g0, g1, g2, g3⟩ := hcell wr (Hb1.out.trans (hb.mono Hb1.out.size))
      obtain ⟨t0, t1, hgr⟩ := Hg.out.fok x (List.mem_of_getElem? hx)
      have Hgr := Lib.hid hgr
      have hki : ((0 : Nat) : Int) < (d.flight.length : Int) := by omega
      have hbw : b < wr.heap.size := by have := Hb1.out.size; omega
      replace B0 := B0.up hb
      obtain ⟨c00, c01, c02, c03, f00, f01, f02, f03, lt0⟩ := B0.c4
      have Hb := Lib.hid hb
      clear hcell hx hgr hb hq
      simp only [Nat.zero_mul, Nat.add_zero] at g0 g1 g2 g3
      go_wp2_with fail
      refine (request_any _ _ _ _ Hgr.out).mono ?_
      rintro e V ⟨rfl, rfl⟩
      go_wp2_with fail
      go_roundg (d.flight.length - 1)
      case measure => have := Hgk.out; omega
      case rel => exact ⟨1, _, by omega, rfl, by go_num, rfl, by simp, Hb.out.alloc hsr _⟩
    · obtain rfl : k = d.flight.length := by omega
      clear hq
      go_wp2_with fail
      go_ret
      exact ⟨rfl, Hb1.out.trans (hb.mono Hb1.out.size)⟩
end Go.Proofs.YthiblfkmcdnalaaGreat
