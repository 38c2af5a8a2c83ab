/- Threads with marked operations: the rules by index lists. -/
import Derived.Test.YthiblfkmcdnalaaGreatRegU
namespace Go.Proofs.YthiblfkmcdnalaaGreat
set_option maxRecDepth 1000000
open Go.RowKit
set_option maxRecDepth 1000000

section
variable {P : Program} {md : Region.Mode} {ops : Array Oper} {s : Nat} {C : World → Prop} {Q : Exit → Act → World → Prop}
def zipU (I : List (Nat × Bool)) (O : List Oper) : List (Nat × Oper × Bool) := (I.zip O).map fun x => (x.1.1, x.2, x.1.2)
/-- a thread's operations with their marks -/
def mkU (I : List (Nat × Bool)) (O : List Oper) : List (Oper × Bool) := O.zip (I.map Prod.snd)
theorem zipU_len {I : List (Nat × Bool)} {O : List Oper} (h : pick ops (I.map Prod.fst) = some O) : (zipU I O).length = I.length := by
  have := pick_len h
  simp [zipU, List.length_zip] at this ⊢
  omega
theorem zipU_fst : ∀ {I : List (Nat × Bool)} {O : List Oper}, O.length = I.length → (zipU I O).map (fun x => (x.1, x.2.2)) = I
  | [], [], _ => rfl
  | [], _ :: _, h => by cases h
  | _ :: _, [], h => by cases h
  | i :: I, o :: O, h => by
    have := zipU_fst (I := I) (O := O) (by simpa using h)
    unfold zipU at *
    simpa using this
theorem zipU_snd : ∀ {I : List (Nat × Bool)} {O : List Oper}, O.length = I.length → (zipU I O).map Prod.snd = mkU I O
  | [], [], _ => rfl
  | [], _ :: _, h => by cases h
  | _ :: _, [], h => by cases h
  | i :: I, o :: O, h => by
    have := zipU_snd (I := I) (O := O) (by simpa using h)
    unfold zipU mkU at *
    simpa using this
theorem zipU_mem : ∀ {I : List (Nat × Bool)} {O : List Oper}, ∀ x ∈ zipU I O, (x.1, x.2.1) ∈ (I.map Prod.fst).zip O
  | [], _, x, h => by simp [zipU] at h
  | _ :: _, [], x, h => by simp [zipU] at h
  | i :: I, o :: O, x, h => by
    unfold zipU at h
    rw [List.zip_cons_cons, List.map_cons] at h
    rw [List.map_cons, List.zip_cons_cons]
    rcases List.mem_cons.1 h with rfl | h
    · exact List.mem_cons_self
    · exact List.mem_cons_of_mem _ (zipU_mem (I := I) (O := O) x h)
theorem apartU_of {I J : List (Nat × Bool)} {O O' : List Oper} {φ φ' : List (Option Tmp × Value) → World → Prop} (hO : pick ops (I.map Prod.fst) = some O) (hO' : pick ops (J.map Prod.fst) = some O') (h : ((I.map Prod.fst).all fun i => (J.map Prod.fst).all fun j => apB ops i j) = true) : ThU.apart ops ⟨zipU I O, [], φ⟩ ⟨zipU J O', [], φ'⟩ := by
  refine ⟨fun o _ x hx => absurd hx (by simp), fun o _ x hx => absurd hx (by simp), fun o ho o' ho' => ?_⟩
  obtain ⟨g1, g2⟩ := pick_mem hO _ (zipU_mem o ho)
  obtain ⟨g3, g4⟩ := pick_mem hO' _ (zipU_mem o' ho')
  have := List.all_eq_true.1 (List.all_eq_true.1 h o.1 g1) o'.1 g3
  simpa [apB, g2, g4] using this

/-- 2 threads are up -/
theorem thU2 {l : List Oper} (I1 : List (Nat × Bool)) (I2 : List (Nat × Bool)) {O1 O2 : List Oper} {fuel n : Nat} {listed fin : Array Bool} {a : Act} {w : World} (φ1 : List (Option Tmp × Value) → World → Prop) (φ2 : List (Option Tmp × Value) → World → Prop)
    (hQ1 : pickL l (I1.map Prod.fst) = some O1) (hQ2 : pickL l (I2.map Prod.fst) = some O2) (hst : stB l.toArray s [I1.map Prod.fst, I2.map Prod.fst] = true) (hn : I1.length + I2.length = n) (_hf : (I1.map Prod.fst ++ I2.map Prod.fst).foldl (fun li i => li.setIfInBounds i true) listed = fin) (hth : thUB md l.toArray s n listed [I1, I2] fin = true)
    (hCu : ∀ w w', C w → Below w.heap.size w w' → C w') (hC : C w) (hQp : ∀ c a (d : Tmp) v w, Q (.panic c) (Act.put a (some d) v) w → Q (.panic c) a w) (r1 : RobU P C (mkU I1 O1) a [] w φ1) (r2 : RobU P C (mkU I2 O2) a [] w φ2)
    (h : ∀ K : Act → World → Prop, (∀ a' w', C w' → wpAnyS P md l.toArray s C Q fuel fin a' w' → K a' w') → ∀ p1 p2 w', φ1 p1 w' → φ2 p2 w' → C w' → Below w.heap.size w w' → K (putsL a (p1 ++ p2)) w') : wpAnyS P md l.toArray s C Q (fuel + n) listed a w := by
  have hO1 := pick_of hQ1
  have hL1 : O1.length = I1.length := by simpa using pick_len hO1
  have hO2 := pick_of hQ2
  have hL2 : O2.length = I2.length := by simpa using pick_len hO2
  have := threadsU (P := P) (md := md) (ops := l.toArray) (s := s) (C := C) (Q := Q) (a0 := a) (w0 := w) (fuel := fuel) (fin := fin) (stB_sel hst) hCu hQp n listed [⟨zipU I1 O1, [], φ1⟩, ⟨zipU I2 O2, [], φ2⟩] w
    (by simp [restLenU, zipU_len hO1, zipU_len hO2] <;> omega)
    (by simpa [zipU_fst hL1, zipU_fst hL2] using hth)
    (by
      intro T hT x hx
      simp only [List.mem_cons, List.mem_nil_iff, or_false] at hT
      rcases hT with rfl | rfl
      · exact stB_mem hst (by simp) hO1 (zipU_mem x hx)
      · exact stB_mem hst (by simp) hO2 (zipU_mem x hx)
      )
    (by
      simp only [stB, pairB, Bool.and_eq_true, List.all_cons, List.all_nil, Bool.and_true] at hst
      simp only [List.pairwise_cons, List.mem_cons, List.mem_nil_iff, or_false, List.Pairwise.nil, and_true, false_imp_iff, implies_true, forall_eq]
      exact apartU_of hO1 hO2 (by simp only [*]))
    hC (Below.refl _ _)
    (by
      intro T hT
      simp only [List.mem_cons, List.mem_nil_iff, or_false] at hT
      rcases hT with rfl | rfl
      · simpa [zipU_snd hL1, putsL] using r1
      · simpa [zipU_snd hL2, putsL] using r2
      )
    (by
      intro ps w' hps hCw hbw
      match ps, hps with
      | [p1, p2], hps =>
        obtain ⟨f1, f2, _⟩ := hps
        have := h _ (fun a' w' _ h => h) p1 p2 w' f1 f2 hCw hbw
        simpa using this)
  simpa [putsL] using this
/-- 3 threads are up -/
theorem thU3 {l : List Oper} (I1 : List (Nat × Bool)) (I2 : List (Nat × Bool)) (I3 : List (Nat × Bool)) {O1 O2 O3 : List Oper} {fuel n : Nat} {listed fin : Array Bool} {a : Act} {w : World} (φ1 : List (Option Tmp × Value) → World → Prop) (φ2 : List (Option Tmp × Value) → World → Prop) (φ3 : List (Option Tmp × Value) → World → Prop)
    (hQ1 : pickL l (I1.map Prod.fst) = some O1) (hQ2 : pickL l (I2.map Prod.fst) = some O2) (hQ3 : pickL l (I3.map Prod.fst) = some O3) (hst : stB l.toArray s [I1.map Prod.fst, I2.map Prod.fst, I3.map Prod.fst] = true) (hn : I1.length + I2.length + I3.length = n) (_hf : (I1.map Prod.fst ++ I2.map Prod.fst ++ I3.map Prod.fst).foldl (fun li i => li.setIfInBounds i true) listed = fin) (hth : thUB md l.toArray s n listed [I1, I2, I3] fin = true)
    (hCu : ∀ w w', C w → Below w.heap.size w w' → C w') (hC : C w) (hQp : ∀ c a (d : Tmp) v w, Q (.panic c) (Act.put a (some d) v) w → Q (.panic c) a w) (r1 : RobU P C (mkU I1 O1) a [] w φ1) (r2 : RobU P C (mkU I2 O2) a [] w φ2) (r3 : RobU P C (mkU I3 O3) a [] w φ3)
    (h : ∀ K : Act → World → Prop, (∀ a' w', C w' → wpAnyS P md l.toArray s C Q fuel fin a' w' → K a' w') → ∀ p1 p2 p3 w', φ1 p1 w' → φ2 p2 w' → φ3 p3 w' → C w' → Below w.heap.size w w' → K (putsL a (p1 ++ p2 ++ p3)) w') : wpAnyS P md l.toArray s C Q (fuel + n) listed a w := by
  have hO1 := pick_of hQ1
  have hL1 : O1.length = I1.length := by simpa using pick_len hO1
  have hO2 := pick_of hQ2
  have hL2 : O2.length = I2.length := by simpa using pick_len hO2
  have hO3 := pick_of hQ3
  have hL3 : O3.length = I3.length := by simpa using pick_len hO3
  have := threadsU (P := P) (md := md) (ops := l.toArray) (s := s) (C := C) (Q := Q) (a0 := a) (w0 := w) (fuel := fuel) (fin := fin) (stB_sel hst) hCu hQp n listed [⟨zipU I1 O1, [], φ1⟩, ⟨zipU I2 O2, [], φ2⟩, ⟨zipU I3 O3, [], φ3⟩] w
    (by simp [restLenU, zipU_len hO1, zipU_len hO2, zipU_len hO3] <;> omega)
    (by simpa [zipU_fst hL1, zipU_fst hL2, zipU_fst hL3] using hth)
    (by
      intro T hT x hx
      simp only [List.mem_cons, List.mem_nil_iff, or_false] at hT
      rcases hT with rfl | rfl | rfl
      · exact stB_mem hst (by simp) hO1 (zipU_mem x hx)
      · exact stB_mem hst (by simp) hO2 (zipU_mem x hx)
      · exact stB_mem hst (by simp) hO3 (zipU_mem x hx)
      )
    (by
      simp only [stB, pairB, Bool.and_eq_true, List.all_cons, List.all_nil, Bool.and_true] at hst
      simp only [List.pairwise_cons, List.mem_cons, List.mem_nil_iff, or_false, List.Pairwise.nil, and_true, false_imp_iff, implies_true, forall_eq_or_imp, forall_eq]
      exact ⟨⟨apartU_of hO1 hO2 (by simp only [*]), apartU_of hO1 hO3 (by simp only [*])⟩, apartU_of hO2 hO3 (by simp only [*])⟩)
    hC (Below.refl _ _)
    (by
      intro T hT
      simp only [List.mem_cons, List.mem_nil_iff, or_false] at hT
      rcases hT with rfl | rfl | rfl
      · simpa [zipU_snd hL1, putsL] using r1
      · simpa [zipU_snd hL2, putsL] using r2
      · simpa [zipU_snd hL3, putsL] using r3
      )
    (by
      intro ps w' hps hCw hbw
      match ps, hps with
      | [p1, p2, p3], hps =>
        obtain ⟨f1, f2, f3, _⟩ := hps
        have := h _ (fun a' w' _ h => h) p1 p2 p3 w' f1 f2 f3 hCw hbw
        simpa using this)
  simpa [putsL] using this
end
end Go.Proofs.YthiblfkmcdnalaaGreat
