/- The disk of the top seat: words, and the contracts of disk.Right and disk.fits at good disks. -/
import Derived.Test.YthiblfkmcdnalaaGreatTClones
import Derived.Test.YthiblfkmcdnalaaGreatRegT
import Derived.IntWalk
namespace Go.Proofs.YthiblfkmcdnalaaGreat
set_option maxRecDepth 1000000
open Go.RowKit
set_option maxRecDepth 1000000

/-- a write that waits -/
structure Wr where
  pos : Int
  data : ByteArray
def Wr.cells (x : Wr) : List Value := [.int .i64 x.pos, .string x.data]
theorem wr_len : ∀ x : Wr, x.cells.length = 2 := fun _ => rfl
theorem wr_one : ∀ x : Wr, ∀ u ∈ x.cells, u.oneCell' = true := fun x u hu => by
  simp only [Wr.cells, List.mem_cons, List.mem_nil_iff, or_false] at hu
  rcases hu with rfl | rfl <;> rfl
def scells (b : ByteArray) : List Value := [.string b]
theorem s_len : ∀ x : ByteArray, (scells x).length = 1 := fun _ => rfl
theorem s_one : ∀ x : ByteArray, ∀ u ∈ scells x, u.oneCell' = true := fun x u hu => by
  obtain rfl : u = .string x := by simpa [scells] using hu
  rfl
/-- a disk -/
structure Dk where
  secs : List ByteArray
  cache : List Wr
/-- a disk in memory: the values of its two slices -/
def MDk (w : World) (s c : Value) (d : Dk) : Prop := Sl scells 1 9 w s d.secs ∧ Sl Wr.cells 2 169 w c d.cache
theorem MDk.up {w w' : World} {s c : Value} {d : Dk} (h : MDk w s c d) (hb : Below w.heap.size w w') : MDk w' s c d := ⟨h.1.up hb, h.2.up hb⟩
def GWr (x : Wr) : Prop := 0 ≤ x.pos ∧ x.pos < 35 ∧ x.data.size = 16
/-- a good disk of 35 sectors -/
structure GDk (d : Dk) : Prop where
  n35 : d.secs.length = 35
  s16 : ∀ x ∈ d.secs, x.size = 16
  c200 : d.cache.length ≤ 200
  cok : ∀ x ∈ d.cache, GWr x

theorem st_at {w : World} {A : Option Addr} {l : List ByteArray} (h : Rt scells 1 9 w A l) {k : Nat} (hk : k < l.length) :
    ∃ x b off, l[k]? = some x ∧ A = some ⟨b, off, none⟩ ∧ b < w.heap.size ∧ ∀ W, Below w.heap.size w W → W.cell? ⟨b, off + k, none⟩ = some (.string x) := by
  obtain ⟨x, b, off, h1, h2, h3, h4⟩ := h.at_ hk
  exact ⟨x, b, off, h1, h2, h3, fun W hW => by have := h4 W hW 0 _ rfl; simpa using this⟩
theorem wr_at {w : World} {A : Option Addr} {l : List Wr} (h : Rt Wr.cells 2 169 w A l) {k : Nat} (hk : k < l.length) :
    ∃ x b off, l[k]? = some x ∧ A = some ⟨b, off, none⟩ ∧ b < w.heap.size ∧ ∀ W, Below w.heap.size w W → W.cell? ⟨b, off + k * 2, none⟩ = some (.int .i64 x.pos) ∧ W.cell? ⟨b, off + k * 2 + 1, none⟩ = some (.string x.data) := by
  obtain ⟨x, b, off, h1, h2, h3, h4⟩ := h.at_ hk
  exact ⟨x, b, off, h1, h2, h3, fun W hW => ⟨by have := h4 W hW 0 _ rfl; simpa using this, h4 W hW 1 _ rfl⟩⟩

set_option maxHeartbeats 1000000 in
theorem fits_any (w : World) (s c : Value) (d : Dk) (x : Wr) (hg : GDk d) (hx : GWr x) (hm : MDk w s c d) :
    Calls Tryz.prog 69 #[.agg #[s, c], .agg #[.int .i64 x.pos, .string x.data]] w fun e w' => e = .returned (.bool true) ∧ Below w.heap.size w w' := by
  obtain ⟨⟨A, ac, rfl, _, _, _⟩, ⟨B, bc, rfl, _, _, _⟩⟩ := hm
  obtain ⟨h1, h2, h3⟩ := hx
  have h35 : x.pos < (d.secs.length : Int) := by rw [hg.n35]; exact h2
  have H3 : (x.data.size : Int) = 16 := by rw [h3]; rfl
  have h3t : ((x.data.size : Int) == 16) = true := by rw [H3]; rfl
  clear h3 H3 hg
  go_enter Tryz.func69, Tryz.ntmps69
  go_wp2_with fail
  go_ret
  exact ⟨rfl, ((Below.refl _ _).alloc (Nat.le_refl _) _).alloc (by simp) _⟩

set_option maxHeartbeats 4000000 in
theorem diskRight_any (w : World) (s c : Value) (d : Dk) (hg : GDk d) (hm : MDk w s c d) :
    Calls Tryz.prog 39 #[.agg #[s, c]] w fun e w' => e = .returned (.bool true) ∧ Below w.heap.size w w' := by
  have Hm := Lib.hid hm
  obtain ⟨⟨A, ac, rfl, a1, a2, hs⟩, ⟨B, bc, rfl, b1, b2, hc⟩⟩ := hm
  obtain ⟨n, hn⟩ : ∃ n, d.secs.length = n := ⟨_, rfl⟩
  obtain ⟨m, hmm⟩ : ∃ m, d.cache.length = m := ⟨_, rfl⟩
  rw [hn] at a1 ⊢
  rw [hmm] at b1 ⊢
  have hn1 : 1 ≤ n := by have := hg.n35; omega
  have hn64 : n ≤ 64 := by have := hg.n35; omega
  have hm200 : m ≤ 200 := by have := hg.c200; omega
  have Hn := Lib.hid hn; have Hmm := Lib.hid hmm; have Hg := Lib.hid hg; have Hs := Lib.hid hs; have Hc := Lib.hid hc
  clear hn hmm hg hs hc
  go_enter Tryz.func39, Tryz.ntmps39
  go_wp2_with fail
  obtain ⟨W, hW⟩ : ∃ W, W = w.alloc (.cells #[.slice A n ac, .slice B m bc] 27) := ⟨_, rfl⟩
  have HbW := Lib.hid (show Below w.heap.size w W by rw [hW]; exact (Below.refl _ _).alloc (Nat.le_refl _) _)
  have HBx := Lib.hid (show W.heap[w.heap.size]? = some (.cells #[.slice A n ac, .slice B m bc] 27 (0, 0)) by rw [hW]; exact heap_alloc_new _ _)
  rw [← hW]
  clear hW
  go_loopg [26] n (fun g i wr => ∃ k : Nat, k ≤ n ∧ g = n - k ∧ i = .int .i64 k ∧ W = wr)
  case atStart => exact ⟨0, Nat.zero_le _, rfl, rfl, rfl⟩
  case round =>
    obtain ⟨k, hk, hgk, rfl, rfl⟩ := hrel
    have Hgk := Lib.hid hgk; clear hgk
    by_cases hlt : k < n
    · obtain ⟨x, b, off, hx, rfl, hbb, hcell⟩ := st_at Hs.out (k := k) (by rw [Hn.out]; exact hlt)
      have g0 := hcell W HbW.out
      have hx16 : ((x.size : Int) != 16) = false := by rw [Hg.out.s16 x (List.mem_of_getElem? hx)]; rfl
      have hx16' : ((x.size : Int) == 16) = true := by rw [Hg.out.s16 x (List.mem_of_getElem? hx)]; rfl
      have hki : (k : Int) < (n : Int) := by omega
      have hbW : b < W.heap.size := by have := HbW.out.size; omega
      clear hcell hx
      go_wp2_with fail
      go_roundg (n - (k + 1))
      case measure => have := Hgk.out; omega
      case rel => exact ⟨k + 1, by omega, rfl, by go_num, rfl⟩
    · obtain rfl : k = n := by omega
      have c1 := cells_of HBx.out 1
      have lt := lt_of HBx.out
      simp only [List.getElem?_toArray, List.getElem?_cons_succ, List.getElem?_cons_zero] at c1
      go_wp2_with fail
      clear c1 lt
      go_loopg [37] m (fun g i wr => ∃ j : Nat, j ≤ m ∧ g = m - j ∧ i = .int .i64 j ∧ Below W.heap.size W wr)
      case atStart => exact ⟨0, Nat.zero_le _, rfl, rfl, Below.refl _ _⟩
      case round =>
        obtain ⟨j, hj, hgj, rfl, hb⟩ := hrel
        have Hgj := Lib.hid hgj; clear hgj
        have hsr := hb.size
        by_cases hlt : j < m
        · obtain ⟨x, b, off, hx, rfl, hbb, hcell⟩ := wr_at Hc.out (k := j) (by rw [Hmm.out]; exact hlt)
          obtain ⟨g0, g1⟩ := hcell wr (HbW.out.trans (hb.mono HbW.out.size))
          have hji : (j : Int) < (m : Int) := by omega
          have hbW : b < wr.heap.size := by have := HbW.out.size; omega
          have Hx := Lib.hid (Hg.out.cok x (List.mem_of_getElem? hx))
          have hup := up_of HBx.out hb
          have c0 := cells_of hup 0
          have c1 := cells_of hup 1
          have lt := lt_of hup
          simp only [List.getElem?_toArray, List.getElem?_cons_succ, List.getElem?_cons_zero] at c0 c1
          clear hcell hx hup
          have Hb := Lib.hid hb; clear hb
          go_wp2_with fail
          refine (fits_any _ _ _ d x Hg.out Hx.out ?_).mono ?_
          · have := Hm.out.up ((HbW.out.trans (Hb.out.mono HbW.out.size)).alloc (by have := HbW.out.size; omega) (.cells #[.int .i64 x.pos, .string x.data] 169))
            rw [Hn.out, Hmm.out] at this
            exact this
          rintro e V ⟨rfl, hbV⟩
          have hbV' : Below W.heap.size W V := (Hb.out.alloc hsr _).trans (hbV.mono (by simp; omega))
          clear c0 c1 lt g0 g1 hbV
          go_wp2_with fail
          go_roundg (m - (j + 1))
          case measure => have := Hgj.out; omega
          case rel => exact ⟨j + 1, by omega, rfl, by go_num, hbV'⟩
        · obtain rfl : j = m := by omega
          go_wp2_with fail
          go_ret
          exact ⟨rfl, HbW.out.trans (hb.mono HbW.out.size)⟩
end Go.Proofs.YthiblfkmcdnalaaGreat
