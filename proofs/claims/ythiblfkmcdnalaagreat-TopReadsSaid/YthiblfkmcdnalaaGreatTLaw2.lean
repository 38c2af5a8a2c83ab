/- TopReads: the scheduler's states in the law; one contract each of Ask, Pump, Done over them. -/
/- TopReads: one contract each of Ask, Pump, Done over the law's states. -/
/- TopReads: the relations of its walk. -/
import Derived.Test.YthiblfkmcdnalaaGreatTDone
import Derived.Test.YthiblfkmcdnalaaGreatAe18
import Derived.Test.YthiblfkmcdnalaaGreatRegU2
namespace Go.Proofs.YthiblfkmcdnalaaGreat
set_option maxRecDepth 1000000
open Go.RowKit
set_option maxRecDepth 1000000

/-- a scheduler's nine cells -/
structure Scd where
  L : Option Addr
  ln : Nat
  lc : Nat
  at_ : Int
  given : Bool
  J : Option Addr
  jn : Nat
  jc : Nat
  A : Option Addr
  an : Nat
  ac : Nat
  B : Option Addr
  bn : Nat
  bc : Nat
  next : Int
  F : Option Addr
  fn : Nat
  fc : Nat
  O : Option Addr
  on : Nat
  oc : Nat
def Scd.vals (v : Scd) : Array Value := #[.slice v.L v.ln v.lc, .int .i64 v.at_, .bool v.given, .slice v.J v.jn v.jc, .slice v.A v.an v.ac, .slice v.B v.bn v.bc, .int .i64 v.next, .slice v.F v.fn v.fc, .slice v.O v.on v.oc]
def Jb.vals (x : Jb) : Array Value := #[.int .i64 x.who, .int .i64 x.kind, .int .i64 x.page, .string x.data, .int .i64 x.tries]
def Ms (U : World) (v : Scd) (S : Sc) : Prop := MSc U (.slice v.L v.ln v.lc) (.slice v.J v.jn v.jc) (.slice v.A v.an v.ac) (.slice v.B v.bn v.bc) (.slice v.F v.fn v.fc) (.slice v.O v.on v.oc) S ∧ GSc S
theorem Ms.up {U U' : World} {v : Scd} {S : Sc} (h : Ms U v S) (hb : Below U.heap.size U U') : Ms U' v S := ⟨h.1.up hb, h.2⟩
theorem Ms.keep {U U' : World} {v : Scd} {S : Sc} (h : Ms U v S) (hk : ∀ (b : Nat) t cs fr, (t = 140 ∨ t = 3 ∨ t = 38 ∨ t = 46 ∨ t = 9 ∨ t = 169 ∨ t = 81) → U.heap[b]? = some (Obj.cells cs t fr) → U'.heap[b]? = U.heap[b]?) : Ms U' v S :=
  ⟨⟨h.1.lan.keep fun b t cs fr ht => hk b t cs fr (by rcases ht with rfl | rfl <;> simp), h.1.jobs.keep fun b cs fr => hk b _ cs fr (by simp), fun y hy e => (h.1.row y hy e).keep fun b cs fr => hk b _ cs fr (by simp),
    ⟨⟨h.1.dev.1.1.keep fun b cs fr => hk b _ cs fr (by simp), h.1.dev.1.2.keep fun b cs fr => hk b _ cs fr (by simp)⟩, h.1.dev.2.keep fun b cs fr => hk b _ cs fr (by simp)⟩, h.1.out.keep fun b cs fr => hk b _ cs fr (by simp)⟩, h.2⟩
/-- a box of a type of its own is stored into -/
theorem Ms.off {U U' : World} {v : Scd} {S : Sc} {N : Nat} {t : TypeId} {cs : Array Value} (h : Ms U v S) (B : Bx N t cs U) (ht : t = 40 ∨ t = 44) (hk : ∀ g, g ≠ N → U'.heap[g]? = U.heap[g]?) : Ms U' v S :=
  h.keep fun b t' cs' fr ht' hb => hk b (B.ne_type hb (by rcases ht with rfl | rfl <;> rcases ht' with rfl | rfl | rfl | rfl | rfl | rfl | rfl <;> decide))
/-- nothing waits; what is in flight -/
def Qt (U : World) (v : Scd) (dk : Dk) (out : List (Int × Jb)) : Prop :=
  ∃ cst A0 c0 A1 c1 J0 j0 J1 j1 wj, Ms U v ⟨v.at_, v.given, cst, [⟨1, 0, A0, 0, c0⟩, ⟨2, 0, A1, 0, c1⟩], [⟨J0, 0, j0⟩, ⟨J1, 0, j1⟩], wj, dk, v.next, out⟩
def Idle (U : World) (v : Scd) (dk : Dk) (nx : Int) : Prop := v.next ≤ nx ∧ Qt U v dk []
def Fly (U : World) (v : Scd) (dk : Dk) (nx : Int) (who kd p : Int) (x : ByteArray) (t : Int) : Prop := v.next ≤ nx ∧ ∃ tk, Qt U v dk [(tk, ⟨who, kd, p, x, t⟩)]
/-- a write waits in lane 0, or a read in lane 1 -/
def Wt (U : World) (v : Scd) (dk : Dk) (nx : Int) (kd p : Int) (x : ByteArray) : Prop := v.next ≤ nx ∧
  ((kd = 2 ∧ ((v.at_ = 0 ∧ v.given = false) ∨ v.at_ = 1) ∧ ∃ cst A0 c0 A1 c1 J0 j0 J1 j1, cst ≤ 1 * 4 ∧ Ms U v ⟨v.at_, v.given, cst, [⟨1, 0, A0, 1, c0⟩, ⟨2, 0, A1, 0, c1⟩], [⟨J0, 1, j0⟩, ⟨J1, 0, j1⟩], ⟨0, kd, p, x, 0⟩, dk, v.next, []⟩) ∨
   (kd = 1 ∧ ((v.at_ = 1 ∧ v.given = false) ∨ v.at_ = 0) ∧ ∃ cst A0 c0 A1 c1 J0 j0 J1 j1, cst ≤ 2 * 4 ∧ Ms U v ⟨v.at_, v.given, cst, [⟨1, 0, A0, 0, c0⟩, ⟨2, 0, A1, 1, c1⟩], [⟨J0, 0, j0⟩, ⟨J1, 1, j1⟩], ⟨1, kd, p, x, 0⟩, dk, v.next, []⟩))
section
variable {U U' : World} {v : Scd} {dk : Dk} {nx kd p who t : Int} {x : ByteArray} {out : List (Int × Jb)}
theorem Qt.imp (h : Qt U v dk out) (f : ∀ S, Ms U v S → Ms U' v S) : Qt U' v dk out := by
  obtain ⟨a1, a2, a3, a4, a5, a6, a7, a8, a9, a10, h⟩ := h
  exact ⟨a1, a2, a3, a4, a5, a6, a7, a8, a9, a10, f _ h⟩
theorem Idle.imp (h : Idle U v dk nx) (f : ∀ S, Ms U v S → Ms U' v S) : Idle U' v dk nx := ⟨h.1, h.2.imp f⟩
theorem Fly.imp (h : Fly U v dk nx who kd p x t) (f : ∀ S, Ms U v S → Ms U' v S) : Fly U' v dk nx who kd p x t := by
  obtain ⟨h1, tk, h2⟩ := h
  exact ⟨h1, tk, h2.imp f⟩
theorem Wt.imp (h : Wt U v dk nx kd p x) (f : ∀ S, Ms U v S → Ms U' v S) : Wt U' v dk nx kd p x := by
  obtain ⟨h0, h | h⟩ := h
  · obtain ⟨h1, h2, a1, a2, a3, a4, a5, a6, a7, a8, a9, h3, h⟩ := h
    exact ⟨h0, .inl ⟨h1, h2, a1, a2, a3, a4, a5, a6, a7, a8, a9, h3, f _ h⟩⟩
  · obtain ⟨h1, h2, a1, a2, a3, a4, a5, a6, a7, a8, a9, h3, h⟩ := h
    exact ⟨h0, .inr ⟨h1, h2, a1, a2, a3, a4, a5, a6, a7, a8, a9, h3, f _ h⟩⟩
end

/-- two lanes make a good scheduler -/
theorem gsc2 {at_ cst next : Int} {given : Bool} {l0 l1 : Ln} {y0 y1 : Jr} {wj : Jb} {dk : Dk} {out : List (Int × Jb)} (hc : 1 ≤ cst ∧ cst ≤ 8) (ha : 0 ≤ at_ ∧ at_ < 2)
    (h0 : y0.n = l0.n ∧ y0.n ≤ y0.cap ∧ y0.cap ≤ 9223372036854775807 ∧ (y0.n = 1 → wj.who = 0 ∧ wj.tries = 0 ∧ GRq wj.kind wj.page wj.data ∧ costK wj.kind = cst))
    (h1 : y1.n = l1.n ∧ y1.n ≤ y1.cap ∧ y1.cap ≤ 9223372036854775807 ∧ (y1.n = 1 → wj.who = 1 ∧ wj.tries = 0 ∧ GRq wj.kind wj.page wj.data ∧ costK wj.kind = cst))
    (hd : GDv ⟨dk, next, out.map fun x => ⟨x.1, x.2.kind, x.2.page, x.2.data⟩⟩) (ho : ∀ x ∈ out, 0 ≤ x.2.who ∧ x.2.who < 2 ∧ 1 ≤ x.2.tries ∧ x.2.tries ≤ 3) : GSc ⟨at_, given, cst, [l0, l1], [y0, y1], wj, dk, next, out⟩ := by
  refine ⟨hc, by simp, rfl, by simpa using ha, ?_, hd, by simpa using ho⟩
  intro k y l hy hl
  rcases k with _ | _ | k
  · obtain rfl := Option.some.inj hy
    obtain rfl := Option.some.inj hl
    simpa using h0
  · obtain rfl := Option.some.inj hy
    obtain rfl := Option.some.inj hl
    simpa using h1
  · simp at hy
/-- what a good scheduler with two lanes says of each -/
theorem gsc2_row {at_ cst next : Int} {given : Bool} {l0 l1 : Ln} {y0 y1 : Jr} {wj : Jb} {dk : Dk} {out : List (Int × Jb)} (h : GSc ⟨at_, given, cst, [l0, l1], [y0, y1], wj, dk, next, out⟩) :
    (1 ≤ cst ∧ cst ≤ 8) ∧ (0 ≤ at_ ∧ at_ < 2) ∧ (y0.n = l0.n ∧ y0.n ≤ y0.cap ∧ y0.cap ≤ 9223372036854775807) ∧ (y1.n = l1.n ∧ y1.n ≤ y1.cap ∧ y1.cap ≤ 9223372036854775807) ∧ GDv ⟨dk, next, out.map fun x => ⟨x.1, x.2.kind, x.2.page, x.2.data⟩⟩ := by
  have a := h.rows 0 y0 l0 rfl rfl
  have b := h.rows 1 y1 l1 rfl rfl
  exact ⟨h.c, by simpa using h.at_, ⟨a.1, a.2.1, a.2.2.1⟩, ⟨b.1, b.2.1, b.2.2.1⟩, h.dev⟩

theorem wr_gdk {dk : Dk} {p : Int} {x : ByteArray} (h : GDk dk) (h1 : 1 ≤ p) (h2 : p ≤ 16) (hx : x.size = 32) (hc : dk.cache.length ≤ 190) : GDk { dk with cache := dk.cache ++ halves p x } := by
  refine ⟨h.n35, h.s16, ?_, ?_⟩
  · simp [halves]; omega
  · intro y hy
    rcases List.mem_append.1 hy with hy | hy
    · exact h.cok y hy
    · exact halves_ok h1 h2 hx y hy
/-- the half pages that were written last are read -/
theorem read_halves {dk : Dk} {k : Nat} {x : ByteArray} (hx : x.size = 32) : (({ dk with cache := dk.cache ++ halves ((k : Int) + 1) x } : Dk).read (2 * ((k : Int) + 1) + 1).toNat ++ ({ dk with cache := dk.cache ++ halves ((k : Int) + 1) x } : Dk).read (2 * ((k : Int) + 1) + 1 + 1).toNat) = x := by
  have e1 : (2 * ((k : Int) + 1) + 1).toNat = 2 * k + 3 := by omega
  have e2 : (2 * ((k : Int) + 1) + 1 + 1).toNat = 2 * k + 4 := by omega
  have r1 : ({ dk with cache := dk.cache ++ halves ((k : Int) + 1) x } : Dk).read (2 * k + 3) = x.extract 0 16 := by
    unfold Dk.read halves
    simp only [List.reverse_append, List.reverse_cons, List.reverse_nil, List.nil_append, List.cons_append]
    rw [List.find?_cons_of_neg (by simp; omega), List.find?_cons_of_pos (by simp; omega)]
  have r2 : ({ dk with cache := dk.cache ++ halves ((k : Int) + 1) x } : Dk).read (2 * k + 4) = x.extract 16 32 := by
    unfold Dk.read halves
    simp only [List.reverse_append, List.reverse_cons, List.reverse_nil, List.nil_append, List.cons_append]
    rw [List.find?_cons_of_pos (by simp; omega)]
  rw [e1, e2, r1, r2]
  apply ByteArray.ext
  rw [ByteArray.data_append, ByteArray.data_extract, ByteArray.data_extract, Array.extract_append_extract]
  simp
  have : x.data.size = 32 := hx
  omega
end Go.Proofs.YthiblfkmcdnalaaGreat

namespace Go.Proofs.YthiblfkmcdnalaaGreat
set_option maxRecDepth 1000000
open Go.RowKit
set_option maxRecDepth 1000000

def wrD (dk : Dk) (p : Int) (x : ByteArray) : Dk := { dk with cache := dk.cache ++ halves p x }
def rd2 (dk : Dk) (p : Int) : ByteArray := dk.read (2 * p + 1).toNat ++ dk.read (2 * p + 1 + 1).toNat
/-- how a job ends: the disk, the wanted pages -/
def Fin2 (kd p : Int) (x : ByteArray) (dk dk' : Dk) (wa wa' : List ByteArray) : Prop := (dk' = dk ∧ wa' = wa) ∨ (kd = 2 ∧ dk' = wrD dk p x ∧ wa' = wa.set p.toNat x)
/-- at the head of round r -/
def In (r : Nat) (U : World) (v : Scd) (dk dk' : Dk) (wa wa' : List ByteArray) (nx kd p : Int) (x : ByteArray) : Prop :=
  (r = 0 ∧ dk' = dk ∧ wa' = wa ∧ Wt U v dk nx kd p x) ∨ (1 ≤ r ∧ r ≤ 2 ∧ v.at_ = 2 - kd ∧ dk' = dk ∧ wa' = wa ∧ Fly U v dk (nx + r + 1) (2 - kd) kd p x (r + 1)) ∨ (1 ≤ r ∧ v.at_ = 2 - kd ∧ Fin2 kd p x dk dk' wa wa' ∧ Idle U v dk' (nx + 3))
/-- behind Pump -/
def Mid (r : Nat) (U : World) (v : Scd) (dk dk' : Dk) (wa wa' : List ByteArray) (nx kd p : Int) (x : ByteArray) : Prop :=
  (r ≤ 2 ∧ v.at_ = 2 - kd ∧ dk' = dk ∧ wa' = wa ∧ Fly U v dk (nx + r + 1) (2 - kd) kd p x (r + 1)) ∨ (1 ≤ r ∧ v.at_ = 2 - kd ∧ Fin2 kd p x dk dk' wa wa' ∧ Idle U v dk' (nx + 3))
/-- behind Done -/
def DoneP (r : Nat) (U : World) (v : Scd) (j : Jb) (E : Int) (told : Bool) (dk dk' : Dk) (wa wa' : List ByteArray) (nx kd p : Int) (x : ByteArray) : Prop :=
  (told = false ∧ In (r + 1) U v dk dk' wa wa' nx kd p x) ∨
  (v.at_ = 2 - kd ∧ told = true ∧ E = 8 ∧ dk' = dk ∧ wa' = wa ∧ Idle U v dk (nx + 3)) ∨
  (v.at_ = 2 - kd ∧ told = true ∧ E = 0 ∧ kd = 2 ∧ j.kind = 2 ∧ j.data = x ∧ dk' = dk ∧ wa' = wa ∧ Idle U v (wrD dk p x) (nx + 3)) ∨
  (v.at_ = 2 - kd ∧ told = true ∧ E = 0 ∧ kd = 1 ∧ j.kind = 1 ∧ j.data = rd2 dk p ∧ dk' = dk ∧ wa' = wa ∧ Idle U v dk (nx + 3))
section
variable {U U' : World} {v : Scd} {j : Jb} {E : Int} {told : Bool} {dk dk' : Dk} {wa wa' : List ByteArray} {nx kd p : Int} {x : ByteArray} {r : Nat}
theorem In.imp (h : In r U v dk dk' wa wa' nx kd p x) (f : ∀ S, Ms U v S → Ms U' v S) : In r U' v dk dk' wa wa' nx kd p x := by
  rcases h with ⟨a, b, c, h⟩ | ⟨a, b, c, d, e, h⟩ | ⟨a, b, c, h⟩
  · exact .inl ⟨a, b, c, h.imp f⟩
  · exact .inr (.inl ⟨a, b, c, d, e, h.imp f⟩)
  · exact .inr (.inr ⟨a, b, c, h.imp f⟩)
theorem Mid.imp (h : Mid r U v dk dk' wa wa' nx kd p x) (f : ∀ S, Ms U v S → Ms U' v S) : Mid r U' v dk dk' wa wa' nx kd p x := by
  rcases h with ⟨b, c, d, e, h⟩ | ⟨a, b, c, h⟩
  · exact .inl ⟨b, c, d, e, h.imp f⟩
  · exact .inr ⟨a, b, c, h.imp f⟩
theorem DoneP.imp (h : DoneP r U v j E told dk dk' wa wa' nx kd p x) (f : ∀ S, Ms U v S → Ms U' v S) : DoneP r U' v j E told dk dk' wa wa' nx kd p x := by
  rcases h with ⟨a, h⟩ | ⟨a, b, c, d, e, h⟩ | ⟨a, b, c, d, e, g, i, k, h⟩ | ⟨a, b, c, d, e, g, i, k, h⟩
  · exact .inl ⟨a, h.imp f⟩
  · exact .inr (.inl ⟨a, b, c, d, e, h.imp f⟩)
  · exact .inr (.inr (.inl ⟨a, b, c, d, e, g, i, k, h.imp f⟩))
  · exact .inr (.inr (.inr ⟨a, b, c, d, e, g, i, k, h.imp f⟩))
end

/-- a wait becomes a flight, else nothing is new -/
theorem lawPump (w : World) (v : Scd) (dk dk' : Dk) (wa wa' : List ByteArray) (nx kd p : Int) (x : ByteArray) (r : Nat) (hr4 : r ≤ 3) (hn : nx ≤ 900) (h : In r w v dk dk' wa wa' nx kd p x) :
    Calls Tryz.prog 8 #[.agg v.vals] w fun e w' => ∃ v', e = .returned (.agg v'.vals) ∧ Mid r w' v' dk dk' wa wa' nx kd p x ∧ Below w.heap.size w w' := by
  rcases h with ⟨rfl, rfl, rfl, hn0, ⟨rfl, ha, cst, A0, c0, A1, c1, J0, j0, J1, j1, hc, hm, hg⟩ | ⟨rfl, ha, cst, A0, c0, A1, c1, J0, j0, J1, j1, hc, hm, hg⟩⟩ | h
  · have hrow := gsc2_row hg
    have hjob := ((hg.rows 0 ⟨J0, 1, j0⟩ ⟨1, 0, A0, 1, c0⟩ rfl rfl).2.2.2 rfl)
    refine (pump_yes0 w _ _ _ _ _ _ v.at_ cst 1 2 v.given A0 A1 J0 J1 c0 c1 j0 j1 _ dk' v.next hg hc (by omega) ha hm).mono ?_
    rintro e w' ⟨lv, jv, f, ov, rfl, ⟨LA, lcp, A2, c2, hc2, hM⟩, hb⟩
    obtain ⟨⟨L, lc, rfl⟩, ⟨J, jc, rfl⟩, _, _, ⟨F, fc, rfl, _, _⟩, ⟨O, oc, rfl, _, _⟩⟩ := hM.len
    obtain ⟨hcc, _, _, hy1, hd⟩ := hrow
    refine ⟨⟨L, _, lc, 0, true, J, _, jc, v.A, v.an, v.ac, v.B, v.bn, v.bc, v.next + 1, F, _, fc, O, _, oc⟩, rfl, .inl ⟨by omega, by simp, rfl, rfl, show v.next + 1 ≤ nx + ((0 : Nat) : Int) + 1 from by omega, v.next, cst, LA, lcp, A1, c1, A2, c2, J1, j1, _, hM, ?_⟩, hb⟩
    refine gsc2 hcc ⟨show (0 : Int) ≤ 0 from by decide, show (0 : Int) < 2 from by decide⟩ ⟨rfl, Nat.zero_le _, hc2, fun e => absurd e (by simp)⟩ ⟨hy1.1, hy1.2.1, hy1.2.2, fun e => absurd e (by simp)⟩ ⟨hd.disk, ⟨show 0 ≤ v.next + 1 from by have h : 0 ≤ v.next := hd.next.1; omega, show v.next + 1 ≤ 1000 from by omega⟩, by simp, ?_⟩ (by simp)
    intro q hq
    obtain rfl : q = _ := by simpa using hq
    exact ⟨hd.next.1, show v.next < v.next + 1 from by omega, hjob.2.2.1⟩
  · have hrow := gsc2_row hg
    have hjob := ((hg.rows 1 ⟨J1, 1, j1⟩ ⟨2, 0, A1, 1, c1⟩ rfl rfl).2.2.2 rfl)
    refine (pump_yes1 w _ _ _ _ _ _ v.at_ cst 2 1 v.given A1 A0 J1 J0 c1 c0 j1 j0 _ dk' v.next hg hc (by omega) ha hm).mono ?_
    rintro e w' ⟨lv, jv, f, ov, rfl, ⟨LA, lcp, A2, c2, hc2, hM⟩, hb⟩
    obtain ⟨⟨L, lc, rfl⟩, ⟨J, jc, rfl⟩, _, _, ⟨F, fc, rfl, _, _⟩, ⟨O, oc, rfl, _, _⟩⟩ := hM.len
    obtain ⟨hcc, _, hy0, _, hd⟩ := hrow
    refine ⟨⟨L, _, lc, 1, true, J, _, jc, v.A, v.an, v.ac, v.B, v.bn, v.bc, v.next + 1, F, _, fc, O, _, oc⟩, rfl, .inl ⟨by omega, by simp, rfl, rfl, show v.next + 1 ≤ nx + ((0 : Nat) : Int) + 1 from by omega, v.next, cst, A0, c0, LA, lcp, J0, j0, A2, c2, _, hM, ?_⟩, hb⟩
    refine gsc2 hcc ⟨show (0 : Int) ≤ 1 from by decide, show (1 : Int) < 2 from by decide⟩ ⟨hy0.1, hy0.2.1, hy0.2.2, fun e => absurd e (by simp)⟩ ⟨rfl, Nat.zero_le _, hc2, fun e => absurd e (by simp)⟩ ⟨hd.disk, ⟨show 0 ≤ v.next + 1 from by have h : 0 ≤ v.next := hd.next.1; omega, show v.next + 1 ≤ 1000 from by omega⟩, by simp, ?_⟩ (by simp)
    intro q hq
    obtain rfl : q = _ := by simpa using hq
    exact ⟨hd.next.1, show v.next < v.next + 1 from by omega, hjob.2.2.1⟩
  · have idle : ∀ (d : Dk) out, Qt w v d out → Calls Tryz.prog 8 #[.agg v.vals] w fun e w' => ∃ v', e = .returned (.agg v'.vals) ∧ (v'.at_ = v.at_ ∧ v'.next = v.next ∧ Qt w' v' d out) ∧ Below w.heap.size w w' := by
      rintro d out ⟨cst, A0, c0, A1, c1, J0, j0, J1, j1, wj, hm, hg⟩
      refine (pump_idle w _ _ _ _ _ _ _ hg (by simp) hm).mono ?_
      rintro e w' ⟨jv, ov, rfl, hM, hb⟩
      obtain ⟨_, ⟨J, jc, rfl⟩, _, _, _, ⟨O, oc, rfl, _, _⟩⟩ := hM.len
      exact ⟨⟨v.L, v.ln, v.lc, v.at_, v.given, J, _, jc, v.A, v.an, v.ac, v.B, v.bn, v.bc, v.next, v.F, v.fn, v.fc, O, _, oc⟩, rfl, ⟨rfl, rfl, cst, A0, c0, A1, c1, J0, j0, J1, j1, wj, hM, hg⟩, hb⟩
    rcases h with ⟨h1, h2, hat, rfl, rfl, hn1, tk, hq⟩ | ⟨h1, hat, hf, hn1, hq⟩
    · refine (idle _ _ hq).mono ?_
      rintro e w' ⟨v', rfl, ⟨e1, e2, hq'⟩, hb⟩
      exact ⟨v', rfl, .inl ⟨h2, e1.trans hat, rfl, rfl, by rw [e2]; exact hn1, tk, hq'⟩, hb⟩
    · refine (idle _ _ hq).mono ?_
      rintro e w' ⟨v', rfl, ⟨e1, e2, hq'⟩, hb⟩
      exact ⟨v', rfl, .inr ⟨h1, e1.trans hat, hf, by rw [e2]; exact hn1, hq'⟩, hb⟩

theorem fin_fault {dk : Dk} {next tk kd p : Int} {x : ByteArray} (hg : GDv ⟨dk, next, [⟨tk, kd, p, x⟩]⟩) : FinC true dk next tk kd p x 8 dk x := fun w s c f hm =>
  (finish_fault w s c f dk next ⟨tk, kd, p, x⟩ hg hm).mono fun e w' h => ⟨c, h⟩
theorem fin_write {dk : Dk} {next tk p : Int} {x : ByteArray} (hg : GDv ⟨dk, next, [⟨tk, 2, p, x⟩]⟩) (h1 : 1 ≤ p) (h2 : p ≤ 16) (hx : x.size = 32) (hc : dk.cache.length ≤ 190) : FinC false dk next tk 2 p x 0 (wrD dk p x) x := fun w s c f hm =>
  finish_write w s c f dk next tk p x hg h1 h2 hx hc hm
theorem fin_read {dk : Dk} {next tk p : Int} (hg : GDv ⟨dk, next, [⟨tk, 1, p, ⟨#[]⟩⟩]⟩) (h1 : 1 ≤ p) (h2 : p ≤ 16) : FinC false dk next tk 1 p ⟨#[]⟩ 0 dk (rd2 dk p) := fun w s c f hm =>
  (finish_read w s c f dk next tk p hg h1 h2 hm).mono fun e w' h => ⟨c, h⟩

theorem lawDone (w : World) (v : Scd) (dk dk' : Dk) (wa wa' : List ByteArray) (nx kd p : Int) (x : ByteArray) (r : Nat) (fault : Bool) (hr4 : r ≤ 3) (hn : nx ≤ 900) (hrq : GRq kd p x) (hcl : dk.cache.length ≤ 190) (h : Mid r w v dk dk' wa wa' nx kd p x) :
    Calls Tryz.prog 9 #[.agg v.vals, .int .i64 0, .bool fault] w fun e w' => (∃ v' j E told, e = .returned (.tuple #[.agg v'.vals, .agg j.vals, .int .i64 E, .bool told]) ∧ DoneP r w' v' j E told dk dk' wa wa' nx kd p x) ∧ Below w.heap.size w w' := by
  rcases h with ⟨h1, hat, rfl, rfl, hn1, tk, cst, A0, c0, A1, c1, J0, j0, J1, j1, wj, hm, hg⟩ | ⟨h1, hat, hf, hn1, cst, A0, c0, A1, c1, J0, j0, J1, j1, wj, hm, hg⟩
  · obtain ⟨hcc, haa, hy0, hy1, hd⟩ := gsc2_row hg
    have hd1 : GDv ⟨dk', v.next, [⟨tk, kd, p, x⟩]⟩ := hd
    have hgdk : GDk dk' := hd.disk
    have hnn := hd.next
    simp only at hnn
    have quiet : ∀ (D : Dk), GDk D → GSc ⟨v.at_, v.given, cst, [⟨1, 0, A0, 0, c0⟩, ⟨2, 0, A1, 0, c1⟩], [⟨J0, 0, j0⟩, ⟨J1, 0, j1⟩], wj, D, v.next, []⟩ := fun D hD =>
      gsc2 hcc haa ⟨hy0.1, hy0.2.1, hy0.2.2, by simp⟩ ⟨hy1.1, hy1.2.1, hy1.2.2, by simp⟩ ⟨hD, hnn, by simp, by simp⟩ (by simp)
    cases fault with
    | false =>
      obtain ⟨hp1, hp2, ⟨rfl, rfl⟩ | ⟨rfl, hx⟩⟩ := hrq
      · refine (done_told0 w _ _ _ _ _ _ v.at_ cst v.next tk (2 - 1) 1 p (r + 1) ⟨#[]⟩ (rd2 dk' p) v.given false _ _ wj dk' dk' hg (fin_read hd1 hp1 hp2) hm).mono ?_
        rintro e w' ⟨c', rfl, hM, hb⟩
        obtain ⟨_, _, _, ⟨B, bc, rfl⟩, _, _⟩ := hM.len
        refine ⟨⟨⟨v.L, v.ln, v.lc, v.at_, v.given, v.J, v.jn, v.jc, v.A, v.an, v.ac, B, _, bc, v.next, none, 0, 0, none, 0, 0⟩, ⟨2 - 1, 1, p, rd2 dk' p, r + 1⟩, 0, true, rfl, .inr (.inr (.inr ⟨hat, rfl, rfl, rfl, rfl, rfl, rfl, rfl, by simp only; omega, cst, A0, c0, A1, c1, J0, j0, J1, j1, wj, hM, quiet _ hgdk⟩))⟩, hb⟩
      · refine (done_told0 w _ _ _ _ _ _ v.at_ cst v.next tk (2 - 2) 2 p (r + 1) x x v.given false _ _ wj dk' (wrD dk' p x) hg (fin_write hd1 hp1 hp2 hx hcl) hm).mono ?_
        rintro e w' ⟨c', rfl, hM, hb⟩
        obtain ⟨_, _, _, ⟨B, bc, rfl⟩, _, _⟩ := hM.len
        refine ⟨⟨⟨v.L, v.ln, v.lc, v.at_, v.given, v.J, v.jn, v.jc, v.A, v.an, v.ac, B, _, bc, v.next, none, 0, 0, none, 0, 0⟩, ⟨2 - 2, 2, p, x, r + 1⟩, 0, true, rfl, .inr (.inr (.inl ⟨hat, rfl, rfl, rfl, rfl, rfl, rfl, rfl, by simp only; omega, cst, A0, c0, A1, c1, J0, j0, J1, j1, wj, hM, quiet _ (wr_gdk hgdk hp1 hp2 hx hcl)⟩))⟩, hb⟩
    | true =>
      rcases Nat.lt_or_ge r 2 with hr2 | hr2
      · refine (done_retry w _ _ _ _ _ _ v.at_ cst v.next tk (2 - kd) kd p (r + 1) x x v.given true _ _ wj dk' dk' hg (fin_fault hd1) (by omega) (by omega) ⟨hgdk, hnn, by simp, by simp⟩ hrq hm).mono ?_
        rintro e w' ⟨c', f', ov', rfl, hM, hb⟩
        obtain ⟨_, _, _, ⟨B, bc, rfl⟩, ⟨F, fc, rfl, _, _⟩, ⟨O, oc, rfl, _, _⟩⟩ := hM.len
        refine ⟨⟨⟨v.L, v.ln, v.lc, v.at_, v.given, v.J, v.jn, v.jc, v.A, v.an, v.ac, B, _, bc, v.next + 1, F, _, fc, O, _, oc⟩, ⟨0, 0, 0, ⟨#[]⟩, 0⟩, 0, false, rfl, .inl ⟨rfl, .inr (.inl ⟨by omega, by omega, hat, rfl, rfl, by simp only; omega, v.next, cst, A0, c0, A1, c1, J0, j0, J1, j1, wj, ?_, ?_⟩)⟩⟩, hb⟩
        · have : ((r + 1 : Nat) : Int) + 1 = (r : Int) + 1 + 1 := by omega
          rw [this]
          exact hM
        · refine gsc2 hcc haa ⟨hy0.1, hy0.2.1, hy0.2.2, by simp⟩ ⟨hy1.1, hy1.2.1, hy1.2.2, by simp⟩ ⟨hgdk, by simp only; omega, by simp, ?_⟩ ?_
          · intro q hq
            obtain rfl : q = _ := by simpa using hq
            exact ⟨hnn.1, show v.next < v.next + 1 from by omega, hrq⟩
          · intro q hq
            obtain rfl : q = _ := by simpa using hq
            have := hg.out _ (List.mem_cons_self ..)
            simp only [List.length_cons, List.length_nil] at this ⊢
            omega
      · obtain rfl : r = 2 := by omega
        refine (done_told8 w _ _ _ _ _ _ v.at_ cst v.next tk (2 - kd) kd p x x v.given true _ _ wj dk' dk' hg (fin_fault hd1) hm).mono ?_
        rintro e w' ⟨c', rfl, hM, hb⟩
        obtain ⟨_, _, _, ⟨B, bc, rfl⟩, _, _⟩ := hM.len
        exact ⟨⟨⟨v.L, v.ln, v.lc, v.at_, v.given, v.J, v.jn, v.jc, v.A, v.an, v.ac, B, _, bc, v.next, none, 0, 0, none, 0, 0⟩, ⟨2 - kd, kd, p, x, 3⟩, 8, true, rfl, .inr (.inl ⟨hat, rfl, rfl, rfl, rfl, by simp only; omega, cst, A0, c0, A1, c1, J0, j0, J1, j1, wj, hM, quiet _ hgdk⟩)⟩, hb⟩
  · refine (done_idle w _ _ _ _ _ _ v.at_ cst v.next v.given fault _ _ wj dk' hg hm).mono ?_
    rintro e w' ⟨rfl, hb⟩
    exact ⟨⟨v, ⟨0, 0, 0, ⟨#[]⟩, 0⟩, 1, false, rfl, .inl ⟨rfl, .inr (.inr ⟨by omega, hat, hf, hn1, cst, A0, c0, A1, c1, J0, j0, J1, j1, wj, hm.up hb, hg⟩)⟩⟩, hb⟩

theorem lawAsk (w : World) (v : Scd) (dk : Dk) (nx kd p : Int) (x : ByteArray) (hrq : GRq kd p x) (ha : (kd = 2 ∧ ((v.at_ = 0 ∧ v.given = false) ∨ v.at_ = 1)) ∨ (kd = 1 ∧ v.at_ = 0)) (h : Idle w v dk nx) :
    Calls Tryz.prog 7 #[.agg v.vals, .agg #[.int .i64 (2 - kd), .int .i64 kd, .int .i64 p, .string x, .int .i64 0]] w fun e w' => ∃ v', e = .returned (.tuple #[.agg v'.vals, .int .i64 0]) ∧ Wt w' v' dk nx kd p x ∧ Below w.heap.size w w' := by
  obtain ⟨hn, cst, A0, c0, A1, c1, J0, j0, J1, j1, wj, hm, hg⟩ := h
  obtain ⟨hcc, haa, hy0, hy1, hd⟩ := gsc2_row hg
  rcases ha with ⟨rfl, ha⟩ | ⟨rfl, ha⟩
  · refine (ask_any w _ _ _ _ _ _ _ 0 2 p x ⟨1, 0, A0, 0, c0⟩ ⟨J0, 0, j0⟩ hg (by simp) rfl rfl hrq hm).mono ?_
    rintro e w' ⟨lv, jv, rfl, ⟨B1, b1, B2, b2, hb1, hb2, hM⟩, hb⟩
    obtain ⟨⟨L, lc, rfl⟩, ⟨J, jc, rfl⟩, _⟩ := hM.len
    refine ⟨⟨L, _, lc, v.at_, v.given, J, _, jc, v.A, v.an, v.ac, v.B, v.bn, v.bc, v.next, v.F, v.fn, v.fc, v.O, v.on, v.oc⟩, rfl, ⟨hn, .inl ⟨rfl, ha, costK 2, B1, b1, A1, c1, B2, b2, J1, j1, by decide, hM, ?_⟩⟩, hb⟩
    exact gsc2 (by decide) haa ⟨rfl, hb1, hb2, fun _ => ⟨rfl, rfl, hrq, rfl⟩⟩ ⟨hy1.1, hy1.2.1, hy1.2.2, by simp⟩ hd (by simp)
  · refine (ask_any w _ _ _ _ _ _ _ 1 1 p x ⟨2, 0, A1, 0, c1⟩ ⟨J1, 0, j1⟩ hg (by simp) rfl rfl hrq hm).mono ?_
    rintro e w' ⟨lv, jv, rfl, ⟨B1, b1, B2, b2, hb1, hb2, hM⟩, hb⟩
    obtain ⟨⟨L, lc, rfl⟩, ⟨J, jc, rfl⟩, _⟩ := hM.len
    refine ⟨⟨L, _, lc, v.at_, v.given, J, _, jc, v.A, v.an, v.ac, v.B, v.bn, v.bc, v.next, v.F, v.fn, v.fc, v.O, v.on, v.oc⟩, rfl, ⟨hn, .inr ⟨rfl, .inr ha, costK 1, A0, c0, B1, b1, J0, j0, B2, b2, by decide, hM, ?_⟩⟩, hb⟩
    exact gsc2 (by decide) haa ⟨hy0.1, hy0.2.1, hy0.2.2, by simp⟩ ⟨rfl, hb1, hb2, fun _ => ⟨rfl, rfl, hrq, rfl⟩⟩ hd (by simp)
end Go.Proofs.YthiblfkmcdnalaaGreat

namespace Go.Proofs.YthiblfkmcdnalaaGreat
set_option maxRecDepth 1000000
open Go.RowKit
set_option maxRecDepth 1000000

def fcells (b : Bool) : List Value := [.bool b]
theorem rd_f {w : World} {B : Nat} {A : Option Addr} {l : List Bool} (h : Rd fcells 1 w B A l) {k : Nat} (hk : k < l.length) :
    ∃ c b off, l[k]? = some c ∧ A = some ⟨b, off, none⟩ ∧ b < B ∧ ∀ W, Below B w W → W.cell? ⟨b, off + k, none⟩ = some (.bool c) := by
  obtain ⟨c, b, off, hc, hA, hb, hcell⟩ := h.at_ hk
  exact ⟨c, b, off, hc, hA, hb, fun W hW => by simpa using hcell W hW 0 _ rfl⟩
theorem rd_d {w : World} {B : Nat} {A : Option Addr} {l : List ByteArray} (h : Rd scells 1 w B A l) {k : Nat} (hk : k < l.length) :
    ∃ c b off, l[k]? = some c ∧ A = some ⟨b, off, none⟩ ∧ b < B ∧ ∀ W, Below B w W → W.cell? ⟨b, off + k, none⟩ = some (.string c) := by
  obtain ⟨c, b, off, hc, hA, hb, hcell⟩ := h.at_ hk
  exact ⟨c, b, off, hc, hA, hb, fun W hW => by simpa using hcell W hW 0 _ rfl⟩
theorem gdk_new : GDk (newDk 35) := ⟨by simp [newDk], fun x hx => by
  simp only [newDk] at hx
  rw [List.eq_of_mem_replicate hx, zs_size], by simp [newDk], fun x hx => by simp [newDk] at hx⟩
def waC (wa : List ByteArray) : Array Value := (wa.map Value.string).toArray
theorem waC_get {wa : List ByteArray} {j : Nat} (h : j < wa.length) : (waC wa)[j]? = some (.string (wa.getD j ⟨#[]⟩)) := by
  simp [waC, h, List.getD]
theorem waC_set (wa : List ByteArray) (j : Nat) (x : ByteArray) : (waC wa).setIfInBounds j (.string x) = waC (wa.set j x) := by
  simp [waC, List.map_set]
theorem getD_rep (n j : Nat) : (List.replicate n (⟨#[]⟩ : ByteArray)).getD j ⟨#[]⟩ = ⟨#[]⟩ := by
  simp only [List.getD, List.getElem?_replicate]
  split <;> rfl
/-- the law's state at the head of the outer loop, k sectors done -/
structure LawI (w : World) (N7 N9 : Nat) (k : Nat) (v : Scd) (dk : Dk) (wa : List ByteArray) (U : World) : Prop where
  bs : Bx N7 40 v.vals U
  bw : Bx N9 44 (waC wa) U
  id : Idle U v dk (6 * k)
  at_ : (v.at_ = 0 ∧ v.given = false) ∨ v.at_ = 1
  wl : wa.length = 17
  wn : ∀ j, k < j → wa.getD j ⟨#[]⟩ = ⟨#[]⟩
  cl : dk.cache.length ≤ 2 * k
  bel : Below w.heap.size w U

def JL (k : Nat) (x : ByteArray) : List Jb := [⟨0, 2, (k : Int) + 1, x, 0⟩, ⟨1, 1, (k : Int) + 1, ⟨#[]⟩, 0⟩]
/-- .. at the head of the jobs' loop, m jobs done -/
structure LawJ (w : World) (N7 N9 : Nat) (AP : Option Addr) (k m : Nat) (x : ByteArray) (v : Scd) (dk : Dk) (wa : List ByteArray) (U : World) : Prop where
  bs : Bx N7 40 v.vals U
  bw : Bx N9 44 (waC wa) U
  jr : Rt Jb.cells 5 46 U AP (JL k x)
  id : Idle U v dk (6 * k + 3 * m)
  at_ : (m = 0 ∧ ((v.at_ = 0 ∧ v.given = false) ∨ v.at_ = 1)) ∨ (m = 1 ∧ v.at_ = 0) ∨ (m = 2 ∧ v.at_ = 1)
  wl : wa.length = 17
  wn : ∀ j, k + 1 < j → wa.getD j ⟨#[]⟩ = ⟨#[]⟩
  wr : wa.getD (k + 1) ⟨#[]⟩ = ⟨#[]⟩ ∨ rd2 dk ((k : Int) + 1) = wa.getD (k + 1) ⟨#[]⟩
  w0 : m = 0 → wa.getD (k + 1) ⟨#[]⟩ = ⟨#[]⟩
  cl : dk.cache.length ≤ 2 * k + 2
  c0 : m = 0 → dk.cache.length ≤ 2 * k
  bel : Below w.heap.size w U
/-- what stands beside the scheduler -/
structure LawB (w : World) (N9 : Nat) (AP : Option Addr) (k : Nat) (x : ByteArray) (wa' : List ByteArray) (U : World) : Prop where
  bw : Bx N9 44 (waC wa') U
  jr : Rt Jb.cells 5 46 U AP (JL k x)
  wl : wa'.length = 17
  bel : Below w.heap.size w U
theorem LawB.up {w U U' : World} {N9 k : Nat} {AP : Option Addr} {x : ByteArray} {wa' : List ByteArray} (h : LawB w N9 AP k x wa' U) (hb : Below U.heap.size U U') : LawB w N9 AP k x wa' U' :=
  ⟨h.bw.up hb, h.jr.up hb, h.wl, h.bel.trans (hb.mono h.bel.size)⟩
theorem LawB.off {w U U' : World} {N7 N9 k : Nat} {AP : Option Addr} {x : ByteArray} {wa' : List ByteArray} {cs : Array Value} (h : LawB w N9 AP k x wa' U) (B : Bx N7 40 cs U) (h7 : w.heap.size ≤ N7) (h79 : N7 < N9) (hk : ∀ g, g ≠ N7 → U'.heap[g]? = U.heap[g]?) (hb : ∀ (B : Nat) (a : World), Below B a U → B ≤ N7 → Below B a U') : LawB w N9 AP k x wa' U' :=
  ⟨h.bw.keep (hk _ (by omega)), h.jr.keep fun b cs fr hb => hk b (B.ne_type hb (by decide)), h.wl, hb _ _ h.bel h7⟩
/-- .. at the head of the rounds' loop, r rounds done -/
structure LawR (w : World) (N7 N9 : Nat) (AP : Option Addr) (k r : Nat) (x : ByteArray) (v : Scd) (dk dk' : Dk) (wa wa' : List ByteArray) (nx kd p : Int) (xd : ByteArray) (U : World) : Prop where
  bs : Bx N7 40 v.vals U
  b : LawB w N9 AP k x wa' U
  st : In r U v dk dk' wa wa' nx kd p xd
theorem jl_rt (w : World) (k : Nat) (x : ByteArray) : Rt Jb.cells 5 46 (w.alloc (.cells #[.int .i64 0, .int .i64 2, .int .i64 ((k : Int) + 1), .string x, .int .i64 0, .int .i64 1, .int .i64 1, .int .i64 ((k : Int) + 1), .string ⟨#[]⟩, .int .i64 0] 46)) (some ⟨w.heap.size, 0, none⟩) (JL k x) := fun _ => ⟨w.heap.size, 0, _, _, rfl, Bx.new _ _ _, fun i y hy j v hv => by
  rcases i with _ | _ | i
  · obtain rfl := Option.some.inj hy
    rcases j with _ | _ | _ | _ | _ | j
    iterate 5 (obtain rfl := Option.some.inj hv; rfl)
    simp [Jb.cells] at hv
  · obtain rfl := Option.some.inj hy
    rcases j with _ | _ | _ | _ | _ | j
    iterate 5 (obtain rfl := Option.some.inj hv; rfl)
    simp [Jb.cells] at hv
  · simp [JL] at hy⟩
theorem LawI.jobs {w U U' : World} {N7 N9 k : Nat} {AP : Option Addr} {x : ByteArray} {v : Scd} {dk : Dk} {wa : List ByteArray} (h : LawI w N7 N9 k v dk wa U) (hb : Below U.heap.size U U') (hj : Rt Jb.cells 5 46 U' AP (JL k x)) : LawJ w N7 N9 AP k 0 x v dk wa U' :=
  ⟨h.bs.up hb, h.bw.up hb, hj, by simpa using h.id.imp fun S hS => hS.up hb, .inl ⟨rfl, h.at_⟩, h.wl, fun j hj => h.wn j (by omega), .inl (h.wn _ (by omega)), fun _ => h.wn _ (by omega), by have := h.cl; omega, fun _ => h.cl, h.bel.trans (hb.mono h.bel.size)⟩
theorem LawJ.next {w U : World} {N7 N9 k : Nat} {AP : Option Addr} {x : ByteArray} {v : Scd} {dk : Dk} {wa : List ByteArray} (h : LawJ w N7 N9 AP k 2 x v dk wa U) : LawI w N7 N9 (k + 1) v dk wa U :=
  ⟨h.bs, h.bw, ⟨by have := h.id.1; omega, h.id.2⟩, by rcases h.at_ with ⟨h, _⟩ | ⟨h, _⟩ | ⟨_, h⟩ <;> first | omega | exact .inr h, h.wl, h.wn, by have := h.cl; omega, h.bel⟩
theorem jl_at {k m : Nat} {x : ByteArray} (h : m < 2) : ∃ kd xd, (JL k x)[m]? = some ⟨2 - kd, kd, (k : Int) + 1, xd, 0⟩ ∧ ((m = 0 ∧ kd = 2 ∧ xd = x) ∨ (m = 1 ∧ kd = 1 ∧ xd = ⟨#[]⟩)) := by
  rcases m with _ | _ | m
  · exact ⟨2, x, rfl, .inl ⟨rfl, rfl, rfl⟩⟩
  · exact ⟨1, ⟨#[]⟩, rfl, .inr ⟨rfl, rfl, rfl⟩⟩
  · omega
/-- what a job's rounds leave -/
theorem LawR.done {w U : World} {N7 N9 k m r : Nat} {AP : Option Addr} {x xd : ByteArray} {v0 v : Scd} {dk dk' : Dk} {wa wa' : List ByteArray} {kd : Int} {U0 : World} (hr : 3 ≤ r) (h : LawR w N7 N9 AP k r x v dk dk' wa wa' (6 * k + 3 * m) kd ((k : Int) + 1) xd U) (h0 : LawJ w N7 N9 AP k m x v0 dk wa U0) (hx : x.size = 32) (hk : k < 16) (hm : (m = 0 ∧ kd = 2 ∧ xd = x) ∨ (m = 1 ∧ kd = 1 ∧ xd = ⟨#[]⟩)) : LawJ w N7 N9 AP k (m + 1) x v dk' wa' U := by
  rcases h.st with ⟨h1, _⟩ | ⟨_, h1, _⟩ | ⟨_, hat, hf, hi⟩
  · omega
  · omega
  have hp : ((k : Int) + 1).toNat = k + 1 := by omega
  refine ⟨h.bs, h.b.bw, h.b.jr, ⟨by have := hi.1; omega, hi.2⟩, ?_, h.b.wl, ?_, ?_, fun e => by omega, ?_, fun e => by omega, h.b.bel⟩
  · rcases hm with ⟨rfl, rfl, _⟩ | ⟨rfl, rfl, _⟩
    · exact .inr (.inl ⟨rfl, hat⟩)
    · exact .inr (.inr ⟨rfl, hat⟩)
  · intro j hj
    rcases hf with ⟨_, rfl⟩ | ⟨_, _, rfl⟩
    · exact h0.wn j hj
    · have e := h0.wn j hj
      simp only [List.getD] at e ⊢
      rw [hp, List.getElem?_set_ne (by omega)]
      exact e
  · rcases hf with ⟨rfl, rfl⟩ | ⟨rfl, rfl, rfl⟩
    · exact h0.wr
    · right
      rcases hm with ⟨rfl, _, rfl⟩ | ⟨_, h, _⟩
      · have hlen := h0.wl
        rw [hp]
        unfold rd2 wrD
        rw [read_halves hx]
        simp only [List.getD]
        rw [List.getElem?_set_self (by omega)]
        rfl
      · omega
  · rcases hf with ⟨rfl, rfl⟩ | ⟨rfl, rfl, rfl⟩
    · exact h0.cl
    · rcases hm with ⟨rfl, _, rfl⟩ | ⟨_, h, _⟩
      · have := h0.c0 rfl
        simp [wrD, halves]
        omega
      · omega
theorem grq_j {k m : Nat} {kd : Int} {x xd : ByteArray} (hx : x.size = 32) (hk : k < 16) (hm : (m = 0 ∧ kd = 2 ∧ xd = x) ∨ (m = 1 ∧ kd = 1 ∧ xd = ⟨#[]⟩)) : GRq kd ((k : Int) + 1) xd := by
  refine ⟨by omega, by omega, ?_⟩
  rcases hm with ⟨_, rfl, rfl⟩ | ⟨_, rfl, rfl⟩
  · exact .inr ⟨rfl, hx⟩
  · exact .inl ⟨rfl, rfl⟩

theorem zj_int {i : Nat} {n : Int} (h : (#[.int .i64 0, .int .i64 0, .int .i64 0, .string ⟨#[]⟩, .int .i64 0] : Array Value)[i]? = some (.int .i64 n)) : n = 0 := by
  rcases i with _ | _ | _ | _ | _ | i
  all_goals simp at h
  all_goals exact h.symm
theorem rt_ne {U U' : World} {A : Option Addr} {l : List Jb} {N : Nat} (h : Rt Jb.cells 5 46 U A l) (B : Bx N 46 #[.int .i64 0, .int .i64 0, .int .i64 0, .string ⟨#[]⟩, .int .i64 0] U) (hl : ∀ x ∈ l, x.kind ≠ 0) (hk : ∀ g, g ≠ N → U'.heap[g]? = U.heap[g]?) : Rt Jb.cells 5 46 U' A l := fun hn => by
  obtain ⟨b, off, cs, fr, hA, hb, hc⟩ := h hn
  refine ⟨b, off, cs, fr, hA, (hk b (fun e => ?_)).trans hb, hc⟩
  subst e
  obtain ⟨y, l', rfl⟩ : ∃ y l', l = y :: l' := by
    cases l with
    | nil => exact absurd rfl hn
    | cons y l' => exact ⟨y, l', rfl⟩
  have h1 := hc 0 y rfl 1 (.int .i64 y.kind) rfl
  have h2 : some (Obj.cells #[.int .i64 0, .int .i64 0, .int .i64 0, .string ⟨#[]⟩, .int .i64 0] 46 (0, 0)) = some (Obj.cells cs 46 fr) := B.symm.trans hb
  injection h2 with h2
  injection h2 with h2 _ _
  rw [← h2] at h1
  exact hl y (List.mem_cons_self ..) (zj_int h1)
theorem Ms.offJ {U U' : World} {v : Scd} {S : Sc} {N : Nat} (h : Ms U v S) (B : Bx N 46 #[.int .i64 0, .int .i64 0, .int .i64 0, .string ⟨#[]⟩, .int .i64 0] U) (hk : ∀ g, g ≠ N → U'.heap[g]? = U.heap[g]?) : Ms U' v S := by
  have g : ∀ {e : Prop} {kd p : Int} {x : ByteArray}, GRq kd p x → kd ≠ 0 := by
    rintro e kd p x ⟨_, _, ⟨rfl, _⟩ | ⟨rfl, _⟩⟩ <;> decide
  obtain ⟨O1, O2, hO, hOa, hOb, hOr⟩ := h.1.out
  refine ⟨⟨h.1.lan.keep fun b t cs fr ht hb => hk b (B.ne_type hb (by rcases ht with rfl | rfl <;> decide)), h.1.jobs.off B (by decide) hk, fun y hy e => rt_ne (h.1.row y hy e) B ?_ hk, h.1.dev.off B (by decide) (by decide) (by decide) hk, ⟨O1, O2, hO, hOa, hOb, rt_ne hOr B ?_ hk⟩⟩, h.2⟩
  · intro z hz
    obtain rfl : z = S.job := by simpa using hz
    obtain ⟨i, hi⟩ := List.mem_iff_getElem?.1 hy
    have hil := (List.getElem?_eq_some_iff.1 hi).1
    have hlv : i < S.vs.length := by have := h.2.js; omega
    exact g (e := True) ((h.2.rows i y S.vs[i] hi (List.getElem?_eq_getElem hlv)).2.2.2 e).2.2.1
  · intro z hz
    simp only [Sc.jobs, List.mem_map] at hz
    obtain ⟨q, hq, rfl⟩ := hz
    exact g (e := True) (h.2.dev.fok ⟨q.1, q.2.kind, q.2.page, q.2.data⟩ (List.mem_map_of_mem (f := fun x : Int × Jb => (⟨x.1, x.2.kind, x.2.page, x.2.data⟩ : Rq)) hq)).2.2
theorem LawB.offJ {w U U' : World} {N N9 k : Nat} {AP : Option Addr} {x : ByteArray} {wa' : List ByteArray} (h : LawB w N9 AP k x wa' U) (B : Bx N 46 #[.int .i64 0, .int .i64 0, .int .i64 0, .string ⟨#[]⟩, .int .i64 0] U) (hN : w.heap.size ≤ N) (hk : ∀ g, g ≠ N → U'.heap[g]? = U.heap[g]?) (hb : ∀ (B : Nat) (a : World), Below B a U → B ≤ N → Below B a U') : LawB w N9 AP k x wa' U' :=
  ⟨h.bw.keep (hk _ (fun e => by
    subst e
    have h2 : some (Obj.cells #[.int .i64 0, .int .i64 0, .int .i64 0, .string ⟨#[]⟩, .int .i64 0] 46 (0, 0)) = some (Obj.cells (waC wa') 44 (0, 0)) := B.symm.trans h.bw
    injection h2 with h2
    injection h2 with _ h2 _
    exact absurd h2 (by decide))), rt_ne h.jr B (by
    intro z hz
    simp only [JL, List.mem_cons, List.mem_nil_iff, or_false] at hz
    rcases hz with rfl | rfl
    · exact (by decide : (2 : Int) ≠ 0)
    · exact (by decide : (1 : Int) ≠ 0)) hk, h.wl, hb _ _ h.bel hN⟩

/-- what the thread of Done's call leaves -/
def DoneO (r : Nat) (dk dk' : Dk) (wa wa' : List ByteArray) (nx kd p : Int) (x : ByteArray) (q : List (Option Tmp × Value)) (U : World) : Prop :=
  ∃ v' j E told, q = [(some 95, .tuple #[.agg v'.vals, .agg j.vals, .int .i64 E, .bool told]), (some 80, .tuple #[.agg v'.vals, .agg j.vals, .int .i64 E, .bool told]), (some 96, .agg v'.vals), (some 97, .agg j.vals), (some 98, .int .i64 E), (some 99, .bool told)] ∧ DoneP r U v' j E told dk dk' wa wa' nx kd p x
theorem DoneO.mk {r : Nat} {dk dk' : Dk} {wa wa' : List ByteArray} {nx kd p : Int} {x : ByteArray} {q : List (Option Tmp × Value)} {U : World} {v' : Scd} {j : Jb} {E : Int} {told : Bool} (hq : q = [(some 95, .tuple #[.agg v'.vals, .agg j.vals, .int .i64 E, .bool told]), (some 80, .tuple #[.agg v'.vals, .agg j.vals, .int .i64 E, .bool told]), (some 96, .agg v'.vals), (some 97, .agg j.vals), (some 98, .int .i64 E), (some 99, .bool told)]) (h : DoneP r U v' j E told dk dk' wa wa' nx kd p x) : DoneO r dk dk' wa wa' nx kd p x q U := ⟨v', j, E, told, hq, h⟩

theorem Ms.drw {U : World} {v : Scd} {S : Sc} (h : Ms U v S) (n : Nat) : Ms (U.drewN n) v S := h.keep fun _ _ _ _ _ _ => rfl
theorem LawR.drw {w : World} {N7 N9 : Nat} {AP : Option Addr} {k r : Nat} {x : ByteArray} {v : Scd} {dk dk' : Dk} {wa wa' : List ByteArray} {nx kd p : Int} {xd : ByteArray} {U : World} (h : LawR w N7 N9 AP k r x v dk dk' wa wa' nx kd p xd U) (n : Nat) : LawR w N7 N9 AP k r x v dk dk' wa wa' nx kd p xd (U.drewN n) :=
  ⟨h.bs.keep rfl, ⟨h.b.bw.keep rfl, h.b.jr.keep fun _ _ _ _ => rfl, h.b.wl, below_drewN h.b.bel n⟩, h.st.imp fun _ hS => hS.drw n⟩
theorem LawB.put {w U : World} {N9 k : Nat} {AP : Option Addr} {x : ByteArray} {wa' : List ByteArray} (h : LawB w N9 AP k x wa' U) (h9 : w.heap.size ≤ N9) (y : ByteArray) : LawB w N9 AP k x (wa'.set (k + 1) y) (U.setCell ⟨N9, k + 1, none⟩ (.string y)) :=
  ⟨by rw [← waC_set]; exact h.bw.set1 (k + 1) (.string y), h.jr.keep fun b cs fr hb => Below.heap_setCell U ⟨N9, k + 1, none⟩ _ b (h.bw.ne_type hb (by decide)), by rw [List.length_set]; exact h.wl, h.bel.setCell (p := ⟨N9, k + 1, none⟩) h9 _⟩
theorem bx_ne {U : World} {N M : Nat} {t t' : TypeId} {cs cs' : Array Value} (h : Bx N t cs U) (h' : Bx M t' cs' U) (hne : t ≠ t') : N ≠ M := fun e => by
  subst e
  have h2 := h.symm.trans h'
  injection h2 with h2
  injection h2 with _ h2 _
  exact hne h2

theorem tl_nil : (⟨#[]⟩ : ByteArray).toList = [] := by rw [ByteArray.toList_eq]
theorem tl_no {a b : ByteArray} (h : ¬ a = b) : (a.toList == b.toList) = false := by
  rw [ByteArray.toList_eq, ByteArray.toList_eq]
  obtain ⟨⟨x⟩⟩ := a
  obtain ⟨⟨y⟩⟩ := b
  have hxy : ¬ x = y := fun e => h (by rw [e])
  simpa using hxy
end Go.Proofs.YthiblfkmcdnalaaGreat
