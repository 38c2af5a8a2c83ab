/- The scheduler of the top seat: words; the contracts of sched.request, cost, Right at good schedulers. -/
import Derived.Test.YthiblfkmcdnalaaGreatTNext
import Derived.Test.YthiblfkmcdnalaaGreatTFinW
namespace Go.Proofs.YthiblfkmcdnalaaGreat
set_option maxRecDepth 1000000
open Go.RowKit
set_option maxRecDepth 1000000

/-- a job -/
structure Jb where
  who : Int
  kind : Int
  page : Int
  data : ByteArray
  tries : Int
def Jb.cells (x : Jb) : List Value := [.int .i64 x.who, .int .i64 x.kind, .int .i64 x.page, .string x.data, .int .i64 x.tries]
theorem jb_len : ∀ x : Jb, x.cells.length = 5 := fun _ => rfl
theorem jb_one : ∀ x : Jb, ∀ u ∈ x.cells, u.oneCell' = true := fun x u hu => by
  simp only [Jb.cells, List.mem_cons, List.mem_nil_iff, or_false] at hu
  rcases hu with rfl | rfl | rfl | rfl | rfl <;> rfl
/-- a row of jobs -/
structure Jr where
  A : Option Addr
  n : Nat
  cap : Nat
def Jr.cells (x : Jr) : List Value := [.slice x.A x.n x.cap]
theorem jr_len : ∀ x : Jr, x.cells.length = 1 := fun _ => rfl
theorem jr_one : ∀ x : Jr, ∀ u ∈ x.cells, u.oneCell' = true := fun x u hu => by
  obtain rfl : u = .slice x.A x.n x.cap := by simpa [Jr.cells] using hu
  rfl
/-- what a job costs -/
def costK (kind : Int) : Int := if kind = 1 then 2 else 4
/-- a scheduler: the job that waits (if one does), the jobs in flight with their tickets -/
structure Sc where
  at_ : Int
  given : Bool
  c : Int
  vs : List Ln
  js : List Jr
  job : Jb
  dk : Dk
  next : Int
  out : List (Int × Jb)
def Sc.flight (S : Sc) : List Rq := S.out.map fun x => ⟨x.1, x.2.kind, x.2.page, x.2.data⟩
def Sc.jobs (S : Sc) : List Jb := S.out.map Prod.snd
theorem Sc.flight_len (S : Sc) : S.flight.length = S.out.length := by simp [Sc.flight]
theorem Sc.jobs_len (S : Sc) : S.jobs.length = S.out.length := by simp [Sc.jobs]
/-- a good scheduler -/
structure GSc (S : Sc) : Prop where
  c : 1 ≤ S.c ∧ S.c ≤ 8
  vs : 1 ≤ S.vs.length ∧ S.vs.length ≤ 6
  js : S.js.length = S.vs.length
  at_ : 0 ≤ S.at_ ∧ S.at_ < S.vs.length
  rows : ∀ (k : Nat) (y : Jr) (l : Ln), S.js[k]? = some y → S.vs[k]? = some l → y.n = l.n ∧ y.n ≤ y.cap ∧ y.cap ≤ 9223372036854775807 ∧ (y.n = 1 → S.job.who = k ∧ S.job.tries = 0 ∧ GRq S.job.kind S.job.page S.job.data ∧ costK S.job.kind = S.c)
  dev : GDv ⟨S.dk, S.next, S.flight⟩
  out : ∀ x ∈ S.out, 0 ≤ x.2.who ∧ x.2.who < S.vs.length ∧ 1 ≤ x.2.tries ∧ x.2.tries ≤ 3
/-- a scheduler in memory -/
structure MSc (w : World) (lv jv s c f ov : Value) (S : Sc) : Prop where
  lan : MLn w lv S.c S.vs
  jobs : Sl Jr.cells 1 38 w jv S.js
  row : ∀ y ∈ S.js, y.n = 1 → Rt Jb.cells 5 46 w y.A [S.job]
  dev : MDv w s c f ⟨S.dk, S.next, S.flight⟩
  out : Sl Jb.cells 5 46 w ov S.jobs
theorem MSc.up {w w' : World} {lv jv s c f ov : Value} {S : Sc} (h : MSc w lv jv s c f ov S) (hb : Below w.heap.size w w') : MSc w' lv jv s c f ov S :=
  ⟨h.lan.up hb, h.jobs.up hb, fun y hy e => (h.row y hy e).up hb, h.dev.up hb, h.out.up hb⟩
theorem jb_at {w : World} {A : Option Addr} {l : List Jb} (h : Rt Jb.cells 5 46 w A l) {k : Nat} (hk : k < l.length) :
    ∃ x b off, l[k]? = some x ∧ A = some ⟨b, off, none⟩ ∧ b < w.heap.size ∧ ∀ W, Below w.heap.size w W → W.cell? ⟨b, off + k * 5, none⟩ = some (.int .i64 x.who) ∧ W.cell? ⟨b, off + k * 5 + 1, none⟩ = some (.int .i64 x.kind) ∧ W.cell? ⟨b, off + k * 5 + 2, none⟩ = some (.int .i64 x.page) ∧ W.cell? ⟨b, off + k * 5 + 3, none⟩ = some (.string x.data) ∧ W.cell? ⟨b, off + k * 5 + 4, none⟩ = some (.int .i64 x.tries) := by
  obtain ⟨x, b, off, h1, h2, h3, h4⟩ := h.at_ hk
  exact ⟨x, b, off, h1, h2, h3, fun W hW => ⟨by have := h4 W hW 0 _ rfl; simpa using this, h4 W hW 1 _ rfl, h4 W hW 2 _ rfl, h4 W hW 3 _ rfl, h4 W hW 4 _ rfl⟩⟩
theorem jr_at {w : World} {A : Option Addr} {l : List Jr} (h : Rt Jr.cells 1 38 w A l) {k : Nat} (hk : k < l.length) :
    ∃ x b off, l[k]? = some x ∧ A = some ⟨b, off, none⟩ ∧ b < w.heap.size ∧ ∀ W, Below w.heap.size w W → W.cell? ⟨b, off + k, none⟩ = some (.slice x.A x.n x.cap) := by
  obtain ⟨x, b, off, h1, h2, h3, h4⟩ := h.at_ hk
  exact ⟨x, b, off, h1, h2, h3, fun W hW => by have := h4 W hW 0 _ rfl; simpa using this⟩

set_option maxHeartbeats 1000000 in
theorem srequest_any (w : World) (x : Jb) (h : GRq x.kind x.page x.data) :
    Calls Tryz.prog 17 #[.agg #[.int .i64 x.who, .int .i64 x.kind, .int .i64 x.page, .string x.data, .int .i64 x.tries]] w fun e w' => e = .returned (.bool true) ∧ Below w.heap.size w w' := by
  obtain ⟨who, kind, page, data, tries⟩ := x
  simp only at h ⊢
  obtain ⟨h1, h2, ⟨rfl, rfl⟩ | ⟨rfl, h3⟩⟩ := h
  · go_enter Tryz.func17, Tryz.ntmps17
    go_wp2_with fail
    go_ret
    exact ⟨rfl, (Below.refl _ _).alloc (Nat.le_refl _) _⟩
  · have h3b : ((data.size : Int) == 32) = true := by rw [h3]; rfl
    clear h3
    go_enter Tryz.func17, Tryz.ntmps17
    go_wp2_with fail
    go_ret
    exact ⟨rfl, (Below.refl _ _).alloc (Nat.le_refl _) _⟩
set_option maxHeartbeats 1000000 in
theorem cost_any (w : World) (kind : Int) (h : kind = 1 ∨ kind = 2) :
    Calls Tryz.prog 19 #[.int .i64 kind] w fun e w' => e = .returned (.int .i64 (costK kind)) ∧ w = w' := by
  rcases h with rfl | rfl
  all_goals
    go_enter Tryz.func19, Tryz.ntmps19
    go_wp2_with fail
    go_ret
    exact ⟨rfl, rfl⟩
end Go.Proofs.YthiblfkmcdnalaaGreat
