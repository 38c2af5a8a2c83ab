/- The contracts of slices.Clone at the element types that are met: the same list, in memory of the call's own. Printed by mkclones.py. -/
import Derived.Test.YthiblfkmcdnalaaGreatProg
import Derived.Test.YthiblfkmcdnalaaGreatTop0
namespace Go.Proofs.YthiblfkmcdnalaaGreat
set_option maxRecDepth 1000000
open Go.RowKit
set_option maxRecDepth 1000000

/-- a list in memory of the call's own -/
def OwnS {α : Type} (f : α → List Value) (sz : Nat) (t : TypeId) (l : List α) (w : World) (e : Ending) (w' : World) : Prop :=
  ∃ A cap, e = .returned (.slice A l.length cap) ∧ w'.ownsRow w.heap.size t sz (.slice A l.length cap) l.length (l.flatMap f) ∧ Below w.heap.size w w'

theorem Tryz.infWr : (Tryz.prog.info? 169).map (fun i => (i.zero, i.size, i.bytes)) = some (some (.agg #[.int .i64 0, .string ⟨#[]⟩]), 2, 24) := by kernel_rfl
set_option maxHeartbeats 1000000 in
theorem clone_Wr {α : Type} (f : α → List Value) (hf : ∀ x, (f x).length = 2) (h1 : ∀ x, ∀ u ∈ f x, u.oneCell' = true) (w : World) (A : Option Addr) (cap : Nat) (l : List α) (hl : l.length ≤ 1000000) (hr : Rt f 2 169 w A l) :
    Calls Tryz.prog 102 #[.slice A l.length cap] w (OwnS f 2 169 l w) := by
  obtain ⟨i0, hi, hz0, hz1, hz2⟩ := info_parts Tryz.infWr
  have hnil := fun (W : World) (B : Option Addr) (n c : Nat) => Lib.run_eql_slice_nil (P := Tryz.prog) W 25 169 B n c 0 0 Tryz.underlying25
  cases A with
  | none =>
    obtain rfl := List.eq_nil_of_length_eq_zero (hr.rd.none_len rfl)
    clear hf h1
    go_enter Tryz.func102, Tryz.ntmps102
    go_wp2_with fail
    go_ret
    exact ⟨none, 0, rfl, World.ownsRow_nil _ _ _ _, Below.refl _ _⟩
  | some ad =>
    have Hf := Lib.hid hf; clear hf
    have H1 := Lib.hid h1; clear h1
    have hlen := flat_len Hf.out l
    have Hlen := Lib.hid hlen; clear hlen
    have Hr := Lib.hid hr.rd; clear hr
    go_enter Tryz.func102, Tryz.ntmps102
    go_wp2_with (at_builtin; refine list_app rfl (.tmp 5) (.tmp 6) 25 rfl w.heap.size 169 i0 (.agg #[.int .i64 0, .string ⟨#[]⟩]) 2 24 Tryz.underlying25 hi hz0 hz1 hz2 rfl (by decide) rfl (own_made (g := w.heap.size) (Nat.le_refl _) rfl) (A := some ad) (m := l.length) (news := l.flatMap f) rfl Hlen.out (by simp) ?_ (flat_one H1.out l) ?_ ?_ ?_ ?_)
    · exact (Hr.out.below ((Below.refl _ _).alloc (Nat.le_refl _) _)).srcs Hf.out
    · unfold maxLen; omega
    · omega
    · simp
    intro v' w5 ho5 hg5 _
    have hb5 : Below w.heap.size w w5 := ((Below.refl _ _).alloc (Nat.le_refl _) _).grown hg5 (by simp) (by simp [Value.ownBlock])
    obtain ⟨A', c', rfl, _, _⟩ := own_slice ho5
    have Ho5 := Lib.hid ho5; clear ho5 hg5
    go_wp2_with fail
    go_ret
    exact ⟨A', c', rfl, Ho5.out, hb5⟩

theorem Tryz.infRq : (Tryz.prog.info? 81).map (fun i => (i.zero, i.size, i.bytes)) = some (some (.agg #[.int .i64 0, .int .i64 0, .int .i64 0, .string ⟨#[]⟩]), 4, 40) := by kernel_rfl
set_option maxHeartbeats 1000000 in
theorem clone_Rq {α : Type} (f : α → List Value) (hf : ∀ x, (f x).length = 4) (h1 : ∀ x, ∀ u ∈ f x, u.oneCell' = true) (w : World) (A : Option Addr) (cap : Nat) (l : List α) (hl : l.length ≤ 1000000) (hr : Rt f 4 81 w A l) :
    Calls Tryz.prog 45 #[.slice A l.length cap] w (OwnS f 4 81 l w) := by
  obtain ⟨i0, hi, hz0, hz1, hz2⟩ := info_parts Tryz.infRq
  have hnil := fun (W : World) (B : Option Addr) (n c : Nat) => Lib.run_eql_slice_nil (P := Tryz.prog) W 35 81 B n c 0 0 Tryz.underlying35
  cases A with
  | none =>
    obtain rfl := List.eq_nil_of_length_eq_zero (hr.rd.none_len rfl)
    clear hf h1
    go_enter Tryz.func45, Tryz.ntmps45
    go_wp2_with fail
    go_ret
    exact ⟨none, 0, rfl, World.ownsRow_nil _ _ _ _, Below.refl _ _⟩
  | some ad =>
    have Hf := Lib.hid hf; clear hf
    have H1 := Lib.hid h1; clear h1
    have hlen := flat_len Hf.out l
    have Hlen := Lib.hid hlen; clear hlen
    have Hr := Lib.hid hr.rd; clear hr
    go_enter Tryz.func45, Tryz.ntmps45
    go_wp2_with (at_builtin; refine list_app rfl (.tmp 5) (.tmp 6) 35 rfl w.heap.size 81 i0 (.agg #[.int .i64 0, .int .i64 0, .int .i64 0, .string ⟨#[]⟩]) 4 40 Tryz.underlying35 hi hz0 hz1 hz2 rfl (by decide) rfl (own_made (g := w.heap.size) (Nat.le_refl _) rfl) (A := some ad) (m := l.length) (news := l.flatMap f) rfl Hlen.out (by simp) ?_ (flat_one H1.out l) ?_ ?_ ?_ ?_)
    · exact (Hr.out.below ((Below.refl _ _).alloc (Nat.le_refl _) _)).srcs Hf.out
    · unfold maxLen; omega
    · omega
    · simp
    intro v' w5 ho5 hg5 _
    have hb5 : Below w.heap.size w w5 := ((Below.refl _ _).alloc (Nat.le_refl _) _).grown hg5 (by simp) (by simp [Value.ownBlock])
    obtain ⟨A', c', rfl, _, _⟩ := own_slice ho5
    have Ho5 := Lib.hid ho5; clear ho5 hg5
    go_wp2_with fail
    go_ret
    exact ⟨A', c', rfl, Ho5.out, hb5⟩

theorem Tryz.infJb : (Tryz.prog.info? 46).map (fun i => (i.zero, i.size, i.bytes)) = some (some (.agg #[.int .i64 0, .int .i64 0, .int .i64 0, .string ⟨#[]⟩, .int .i64 0]), 5, 48) := by kernel_rfl
set_option maxHeartbeats 1000000 in
theorem clone_Jb {α : Type} (f : α → List Value) (hf : ∀ x, (f x).length = 5) (h1 : ∀ x, ∀ u ∈ f x, u.oneCell' = true) (w : World) (A : Option Addr) (cap : Nat) (l : List α) (hl : l.length ≤ 1000000) (hr : Rt f 5 46 w A l) :
    Calls Tryz.prog 21 #[.slice A l.length cap] w (OwnS f 5 46 l w) := by
  obtain ⟨i0, hi, hz0, hz1, hz2⟩ := info_parts Tryz.infJb
  have hnil := fun (W : World) (B : Option Addr) (n c : Nat) => Lib.run_eql_slice_nil (P := Tryz.prog) W 38 46 B n c 0 0 Tryz.underlying38
  cases A with
  | none =>
    obtain rfl := List.eq_nil_of_length_eq_zero (hr.rd.none_len rfl)
    clear hf h1
    go_enter Tryz.func21, Tryz.ntmps21
    go_wp2_with fail
    go_ret
    exact ⟨none, 0, rfl, World.ownsRow_nil _ _ _ _, Below.refl _ _⟩
  | some ad =>
    have Hf := Lib.hid hf; clear hf
    have H1 := Lib.hid h1; clear h1
    have hlen := flat_len Hf.out l
    have Hlen := Lib.hid hlen; clear hlen
    have Hr := Lib.hid hr.rd; clear hr
    go_enter Tryz.func21, Tryz.ntmps21
    go_wp2_with (at_builtin; refine list_app rfl (.tmp 5) (.tmp 6) 38 rfl w.heap.size 46 i0 (.agg #[.int .i64 0, .int .i64 0, .int .i64 0, .string ⟨#[]⟩, .int .i64 0]) 5 48 Tryz.underlying38 hi hz0 hz1 hz2 rfl (by decide) rfl (own_made (g := w.heap.size) (Nat.le_refl _) rfl) (A := some ad) (m := l.length) (news := l.flatMap f) rfl Hlen.out (by simp) ?_ (flat_one H1.out l) ?_ ?_ ?_ ?_)
    · exact (Hr.out.below ((Below.refl _ _).alloc (Nat.le_refl _) _)).srcs Hf.out
    · unfold maxLen; omega
    · omega
    · simp
    intro v' w5 ho5 hg5 _
    have hb5 : Below w.heap.size w w5 := ((Below.refl _ _).alloc (Nat.le_refl _) _).grown hg5 (by simp) (by simp [Value.ownBlock])
    obtain ⟨A', c', rfl, _, _⟩ := own_slice ho5
    have Ho5 := Lib.hid ho5; clear ho5 hg5
    go_wp2_with fail
    go_ret
    exact ⟨A', c', rfl, Ho5.out, hb5⟩

theorem Tryz.infJr : (Tryz.prog.info? 38).map (fun i => (i.zero, i.size, i.bytes)) = some (some (.slice none 0 0), 1, 24) := by kernel_rfl
set_option maxHeartbeats 1000000 in
theorem clone_Jr {α : Type} (f : α → List Value) (hf : ∀ x, (f x).length = 1) (h1 : ∀ x, ∀ u ∈ f x, u.oneCell' = true) (w : World) (A : Option Addr) (cap : Nat) (l : List α) (hl : l.length ≤ 1000000) (hr : Rt f 1 38 w A l) :
    Calls Tryz.prog 20 #[.slice A l.length cap] w (OwnS f 1 38 l w) := by
  obtain ⟨i0, hi, hz0, hz1, hz2⟩ := info_parts Tryz.infJr
  have hnil := fun (W : World) (B : Option Addr) (n c : Nat) => Lib.run_eql_slice_nil (P := Tryz.prog) W 34 38 B n c 0 0 Tryz.underlying34
  cases A with
  | none =>
    obtain rfl := List.eq_nil_of_length_eq_zero (hr.rd.none_len rfl)
    clear hf h1
    go_enter Tryz.func20, Tryz.ntmps20
    go_wp2_with fail
    go_ret
    exact ⟨none, 0, rfl, World.ownsRow_nil _ _ _ _, Below.refl _ _⟩
  | some ad =>
    have Hf := Lib.hid hf; clear hf
    have H1 := Lib.hid h1; clear h1
    have hlen := flat_len Hf.out l
    have Hlen := Lib.hid hlen; clear hlen
    have Hr := Lib.hid hr.rd; clear hr
    go_enter Tryz.func20, Tryz.ntmps20
    go_wp2_with (at_builtin; refine list_app rfl (.tmp 5) (.tmp 6) 34 rfl w.heap.size 38 i0 (.slice none 0 0) 1 24 Tryz.underlying34 hi hz0 hz1 hz2 rfl (by decide) rfl (own_made (g := w.heap.size) (Nat.le_refl _) rfl) (A := some ad) (m := l.length) (news := l.flatMap f) rfl Hlen.out (by simp) ?_ (flat_one H1.out l) ?_ ?_ ?_ ?_)
    · exact (Hr.out.below ((Below.refl _ _).alloc (Nat.le_refl _) _)).srcs Hf.out
    · unfold maxLen; omega
    · omega
    · simp
    intro v' w5 ho5 hg5 _
    have hb5 : Below w.heap.size w w5 := ((Below.refl _ _).alloc (Nat.le_refl _) _).grown hg5 (by simp) (by simp [Value.ownBlock])
    obtain ⟨A', c', rfl, _, _⟩ := own_slice ho5
    have Ho5 := Lib.hid ho5; clear ho5 hg5
    go_wp2_with fail
    go_ret
    exact ⟨A', c', rfl, Ho5.out, hb5⟩

theorem Tryz.infLn : (Tryz.prog.info? 140).map (fun i => (i.zero, i.size, i.bytes)) = some (some (.agg #[.int .i64 0, .int .i64 0, .slice none 0 0]), 3, 40) := by kernel_rfl
set_option maxHeartbeats 1000000 in
theorem clone_Ln {α : Type} (f : α → List Value) (hf : ∀ x, (f x).length = 3) (h1 : ∀ x, ∀ u ∈ f x, u.oneCell' = true) (w : World) (A : Option Addr) (cap : Nat) (l : List α) (hl : l.length ≤ 1000000) (hr : Rt f 3 140 w A l) :
    Calls Tryz.prog 42 #[.slice A l.length cap] w (OwnS f 3 140 l w) := by
  obtain ⟨i0, hi, hz0, hz1, hz2⟩ := info_parts Tryz.infLn
  have hnil := fun (W : World) (B : Option Addr) (n c : Nat) => Lib.run_eql_slice_nil (P := Tryz.prog) W 31 140 B n c 0 0 Tryz.underlying31
  cases A with
  | none =>
    obtain rfl := List.eq_nil_of_length_eq_zero (hr.rd.none_len rfl)
    clear hf h1
    go_enter Tryz.func42, Tryz.ntmps42
    go_wp2_with fail
    go_ret
    exact ⟨none, 0, rfl, World.ownsRow_nil _ _ _ _, Below.refl _ _⟩
  | some ad =>
    have Hf := Lib.hid hf; clear hf
    have H1 := Lib.hid h1; clear h1
    have hlen := flat_len Hf.out l
    have Hlen := Lib.hid hlen; clear hlen
    have Hr := Lib.hid hr.rd; clear hr
    go_enter Tryz.func42, Tryz.ntmps42
    go_wp2_with (at_builtin; refine list_app rfl (.tmp 5) (.tmp 6) 31 rfl w.heap.size 140 i0 (.agg #[.int .i64 0, .int .i64 0, .slice none 0 0]) 3 40 Tryz.underlying31 hi hz0 hz1 hz2 rfl (by decide) rfl (own_made (g := w.heap.size) (Nat.le_refl _) rfl) (A := some ad) (m := l.length) (news := l.flatMap f) rfl Hlen.out (by simp) ?_ (flat_one H1.out l) ?_ ?_ ?_ ?_)
    · exact (Hr.out.below ((Below.refl _ _).alloc (Nat.le_refl _) _)).srcs Hf.out
    · unfold maxLen; omega
    · omega
    · simp
    intro v' w5 ho5 hg5 _
    have hb5 : Below w.heap.size w w5 := ((Below.refl _ _).alloc (Nat.le_refl _) _).grown hg5 (by simp) (by simp [Value.ownBlock])
    obtain ⟨A', c', rfl, _, _⟩ := own_slice ho5
    have Ho5 := Lib.hid ho5; clear ho5 hg5
    go_wp2_with fail
    go_ret
    exact ⟨A', c', rfl, Ho5.out, hb5⟩

theorem Tryz.infIn : (Tryz.prog.info? 3).map (fun i => (i.zero, i.size, i.bytes)) = some (some (.int .i64 0), 1, 8) := by kernel_rfl
set_option maxHeartbeats 1000000 in
theorem clone_In {α : Type} (f : α → List Value) (hf : ∀ x, (f x).length = 1) (h1 : ∀ x, ∀ u ∈ f x, u.oneCell' = true) (w : World) (A : Option Addr) (cap : Nat) (l : List α) (hl : l.length ≤ 1000000) (hr : Rt f 1 3 w A l) :
    Calls Tryz.prog 43 #[.slice A l.length cap] w (OwnS f 1 3 l w) := by
  obtain ⟨i0, hi, hz0, hz1, hz2⟩ := info_parts Tryz.infIn
  have hnil := fun (W : World) (B : Option Addr) (n c : Nat) => Lib.run_eql_slice_nil (P := Tryz.prog) W 43 3 B n c 0 0 Tryz.underlying43
  cases A with
  | none =>
    obtain rfl := List.eq_nil_of_length_eq_zero (hr.rd.none_len rfl)
    clear hf h1
    go_enter Tryz.func43, Tryz.ntmps43
    go_wp2_with fail
    go_ret
    exact ⟨none, 0, rfl, World.ownsRow_nil _ _ _ _, Below.refl _ _⟩
  | some ad =>
    have Hf := Lib.hid hf; clear hf
    have H1 := Lib.hid h1; clear h1
    have hlen := flat_len Hf.out l
    have Hlen := Lib.hid hlen; clear hlen
    have Hr := Lib.hid hr.rd; clear hr
    go_enter Tryz.func43, Tryz.ntmps43
    go_wp2_with (at_builtin; refine list_app rfl (.tmp 5) (.tmp 6) 43 rfl w.heap.size 3 i0 (.int .i64 0) 1 8 Tryz.underlying43 hi hz0 hz1 hz2 rfl (by decide) rfl (own_made (g := w.heap.size) (Nat.le_refl _) rfl) (A := some ad) (m := l.length) (news := l.flatMap f) rfl Hlen.out (by simp) ?_ (flat_one H1.out l) ?_ ?_ ?_ ?_)
    · exact (Hr.out.below ((Below.refl _ _).alloc (Nat.le_refl _) _)).srcs Hf.out
    · unfold maxLen; omega
    · omega
    · simp
    intro v' w5 ho5 hg5 _
    have hb5 : Below w.heap.size w w5 := ((Below.refl _ _).alloc (Nat.le_refl _) _).grown hg5 (by simp) (by simp [Value.ownBlock])
    obtain ⟨A', c', rfl, _, _⟩ := own_slice ho5
    have Ho5 := Lib.hid ho5; clear ho5 hg5
    go_wp2_with fail
    go_ret
    exact ⟨A', c', rfl, Ho5.out, hb5⟩

theorem Tryz.infCf : (Tryz.prog.info? 195).map (fun i => (i.zero, i.size, i.bytes)) = some (some (.agg #[.int .i64 0, .int .i64 0, .bool false]), 3, 24) := by kernel_rfl
set_option maxHeartbeats 1000000 in
theorem clone_Cf {α : Type} (f : α → List Value) (hf : ∀ x, (f x).length = 3) (h1 : ∀ x, ∀ u ∈ f x, u.oneCell' = true) (w : World) (A : Option Addr) (cap : Nat) (l : List α) (hl : l.length ≤ 1000000) (hr : Rt f 3 195 w A l) :
    Calls Tryz.prog 230 #[.slice A l.length cap] w (OwnS f 3 195 l w) := by
  obtain ⟨i0, hi, hz0, hz1, hz2⟩ := info_parts Tryz.infCf
  have hnil := fun (W : World) (B : Option Addr) (n c : Nat) => Lib.run_eql_slice_nil (P := Tryz.prog) W 85 195 B n c 0 0 Tryz.underlying85
  cases A with
  | none =>
    obtain rfl := List.eq_nil_of_length_eq_zero (hr.rd.none_len rfl)
    clear hf h1
    go_enter Tryz.func230, Tryz.ntmps230
    go_wp2_with fail
    go_ret
    exact ⟨none, 0, rfl, World.ownsRow_nil _ _ _ _, Below.refl _ _⟩
  | some ad =>
    have Hf := Lib.hid hf; clear hf
    have H1 := Lib.hid h1; clear h1
    have hlen := flat_len Hf.out l
    have Hlen := Lib.hid hlen; clear hlen
    have Hr := Lib.hid hr.rd; clear hr
    go_enter Tryz.func230, Tryz.ntmps230
    go_wp2_with (at_builtin; refine list_app rfl (.tmp 5) (.tmp 6) 85 rfl w.heap.size 195 i0 (.agg #[.int .i64 0, .int .i64 0, .bool false]) 3 24 Tryz.underlying85 hi hz0 hz1 hz2 rfl (by decide) rfl (own_made (g := w.heap.size) (Nat.le_refl _) rfl) (A := some ad) (m := l.length) (news := l.flatMap f) rfl Hlen.out (by simp) ?_ (flat_one H1.out l) ?_ ?_ ?_ ?_)
    · exact (Hr.out.below ((Below.refl _ _).alloc (Nat.le_refl _) _)).srcs Hf.out
    · unfold maxLen; omega
    · omega
    · simp
    intro v' w5 ho5 hg5 _
    have hb5 : Below w.heap.size w w5 := ((Below.refl _ _).alloc (Nat.le_refl _) _).grown hg5 (by simp) (by simp [Value.ownBlock])
    obtain ⟨A', c', rfl, _, _⟩ := own_slice ho5
    have Ho5 := Lib.hid ho5; clear ho5 hg5
    go_wp2_with fail
    go_ret
    exact ⟨A', c', rfl, Ho5.out, hb5⟩

theorem Tryz.infPg : (Tryz.prog.info? 65).map (fun i => (i.zero, i.size, i.bytes)) = some (some (.agg #[.int .i64 0, .int .i64 0, .string ⟨#[]⟩]), 3, 32) := by kernel_rfl
set_option maxHeartbeats 1000000 in
theorem clone_Pg {α : Type} (f : α → List Value) (hf : ∀ x, (f x).length = 3) (h1 : ∀ x, ∀ u ∈ f x, u.oneCell' = true) (w : World) (A : Option Addr) (cap : Nat) (l : List α) (hl : l.length ≤ 1000000) (hr : Rt f 3 65 w A l) :
    Calls Tryz.prog 174 #[.slice A l.length cap] w (OwnS f 3 65 l w) := by
  obtain ⟨i0, hi, hz0, hz1, hz2⟩ := info_parts Tryz.infPg
  have hnil := fun (W : World) (B : Option Addr) (n c : Nat) => Lib.run_eql_slice_nil (P := Tryz.prog) W 60 65 B n c 0 0 Tryz.underlying60
  cases A with
  | none =>
    obtain rfl := List.eq_nil_of_length_eq_zero (hr.rd.none_len rfl)
    clear hf h1
    go_enter Tryz.func174, Tryz.ntmps174
    go_wp2_with fail
    go_ret
    exact ⟨none, 0, rfl, World.ownsRow_nil _ _ _ _, Below.refl _ _⟩
  | some ad =>
    have Hf := Lib.hid hf; clear hf
    have H1 := Lib.hid h1; clear h1
    have hlen := flat_len Hf.out l
    have Hlen := Lib.hid hlen; clear hlen
    have Hr := Lib.hid hr.rd; clear hr
    go_enter Tryz.func174, Tryz.ntmps174
    go_wp2_with (at_builtin; refine list_app rfl (.tmp 5) (.tmp 6) 60 rfl w.heap.size 65 i0 (.agg #[.int .i64 0, .int .i64 0, .string ⟨#[]⟩]) 3 32 Tryz.underlying60 hi hz0 hz1 hz2 rfl (by decide) rfl (own_made (g := w.heap.size) (Nat.le_refl _) rfl) (A := some ad) (m := l.length) (news := l.flatMap f) rfl Hlen.out (by simp) ?_ (flat_one H1.out l) ?_ ?_ ?_ ?_)
    · exact (Hr.out.below ((Below.refl _ _).alloc (Nat.le_refl _) _)).srcs Hf.out
    · unfold maxLen; omega
    · omega
    · simp
    intro v' w5 ho5 hg5 _
    have hb5 : Below w.heap.size w w5 := ((Below.refl _ _).alloc (Nat.le_refl _) _).grown hg5 (by simp) (by simp [Value.ownBlock])
    obtain ⟨A', c', rfl, _, _⟩ := own_slice ho5
    have Ho5 := Lib.hid ho5; clear ho5 hg5
    go_wp2_with fail
    go_ret
    exact ⟨A', c', rfl, Ho5.out, hb5⟩

theorem Tryz.infSl : (Tryz.prog.info? 236).map (fun i => (i.zero, i.size, i.bytes)) = some (some (.agg #[.int .i64 0, .int .i64 0]), 2, 16) := by kernel_rfl
set_option maxHeartbeats 1000000 in
theorem clone_Sl {α : Type} (f : α → List Value) (hf : ∀ x, (f x).length = 2) (h1 : ∀ x, ∀ u ∈ f x, u.oneCell' = true) (w : World) (A : Option Addr) (cap : Nat) (l : List α) (hl : l.length ≤ 1000000) (hr : Rt f 2 236 w A l) :
    Calls Tryz.prog 241 #[.slice A l.length cap] w (OwnS f 2 236 l w) := by
  obtain ⟨i0, hi, hz0, hz1, hz2⟩ := info_parts Tryz.infSl
  have hnil := fun (W : World) (B : Option Addr) (n c : Nat) => Lib.run_eql_slice_nil (P := Tryz.prog) W 88 236 B n c 0 0 Tryz.underlying88
  cases A with
  | none =>
    obtain rfl := List.eq_nil_of_length_eq_zero (hr.rd.none_len rfl)
    clear hf h1
    go_enter Tryz.func241, Tryz.ntmps241
    go_wp2_with fail
    go_ret
    exact ⟨none, 0, rfl, World.ownsRow_nil _ _ _ _, Below.refl _ _⟩
  | some ad =>
    have Hf := Lib.hid hf; clear hf
    have H1 := Lib.hid h1; clear h1
    have hlen := flat_len Hf.out l
    have Hlen := Lib.hid hlen; clear hlen
    have Hr := Lib.hid hr.rd; clear hr
    go_enter Tryz.func241, Tryz.ntmps241
    go_wp2_with (at_builtin; refine list_app rfl (.tmp 5) (.tmp 6) 88 rfl w.heap.size 236 i0 (.agg #[.int .i64 0, .int .i64 0]) 2 16 Tryz.underlying88 hi hz0 hz1 hz2 rfl (by decide) rfl (own_made (g := w.heap.size) (Nat.le_refl _) rfl) (A := some ad) (m := l.length) (news := l.flatMap f) rfl Hlen.out (by simp) ?_ (flat_one H1.out l) ?_ ?_ ?_ ?_)
    · exact (Hr.out.below ((Below.refl _ _).alloc (Nat.le_refl _) _)).srcs Hf.out
    · unfold maxLen; omega
    · omega
    · simp
    intro v' w5 ho5 hg5 _
    have hb5 : Below w.heap.size w w5 := ((Below.refl _ _).alloc (Nat.le_refl _) _).grown hg5 (by simp) (by simp [Value.ownBlock])
    obtain ⟨A', c', rfl, _, _⟩ := own_slice ho5
    have Ho5 := Lib.hid ho5; clear ho5 hg5
    go_wp2_with fail
    go_ret
    exact ⟨A', c', rfl, Ho5.out, hb5⟩

theorem Tryz.infOp : (Tryz.prog.info? 56).map (fun i => (i.zero, i.size, i.bytes)) = some (some (.agg #[.int .i64 0, .int .i64 0, .string ⟨#[]⟩]), 3, 32) := by kernel_rfl
set_option maxHeartbeats 1000000 in
theorem clone_Op {α : Type} (f : α → List Value) (hf : ∀ x, (f x).length = 3) (h1 : ∀ x, ∀ u ∈ f x, u.oneCell' = true) (w : World) (A : Option Addr) (cap : Nat) (l : List α) (hl : l.length ≤ 1000000) (hr : Rt f 3 56 w A l) :
    Calls Tryz.prog 27 #[.slice A l.length cap] w (OwnS f 3 56 l w) := by
  obtain ⟨i0, hi, hz0, hz1, hz2⟩ := info_parts Tryz.infOp
  have hnil := fun (W : World) (B : Option Addr) (n c : Nat) => Lib.run_eql_slice_nil (P := Tryz.prog) W 57 56 B n c 0 0 Tryz.underlying57
  cases A with
  | none =>
    obtain rfl := List.eq_nil_of_length_eq_zero (hr.rd.none_len rfl)
    clear hf h1
    go_enter Tryz.func27, Tryz.ntmps27
    go_wp2_with fail
    go_ret
    exact ⟨none, 0, rfl, World.ownsRow_nil _ _ _ _, Below.refl _ _⟩
  | some ad =>
    have Hf := Lib.hid hf; clear hf
    have H1 := Lib.hid h1; clear h1
    have hlen := flat_len Hf.out l
    have Hlen := Lib.hid hlen; clear hlen
    have Hr := Lib.hid hr.rd; clear hr
    go_enter Tryz.func27, Tryz.ntmps27
    go_wp2_with (at_builtin; refine list_app rfl (.tmp 5) (.tmp 6) 57 rfl w.heap.size 56 i0 (.agg #[.int .i64 0, .int .i64 0, .string ⟨#[]⟩]) 3 32 Tryz.underlying57 hi hz0 hz1 hz2 rfl (by decide) rfl (own_made (g := w.heap.size) (Nat.le_refl _) rfl) (A := some ad) (m := l.length) (news := l.flatMap f) rfl Hlen.out (by simp) ?_ (flat_one H1.out l) ?_ ?_ ?_ ?_)
    · exact (Hr.out.below ((Below.refl _ _).alloc (Nat.le_refl _) _)).srcs Hf.out
    · unfold maxLen; omega
    · omega
    · simp
    intro v' w5 ho5 hg5 _
    have hb5 : Below w.heap.size w w5 := ((Below.refl _ _).alloc (Nat.le_refl _) _).grown hg5 (by simp) (by simp [Value.ownBlock])
    obtain ⟨A', c', rfl, _, _⟩ := own_slice ho5
    have Ho5 := Lib.hid ho5; clear ho5 hg5
    go_wp2_with fail
    go_ret
    exact ⟨A', c', rfl, Ho5.out, hb5⟩
end Go.Proofs.YthiblfkmcdnalaaGreat
