/- OpsAll: for every input the law answers true, and the input reads behind the call as it read before. -/
import Derived.Test.YtbnegkkjgkignaaOpenOps
import Derived.Test.YtbnegkkjgkignaaAll
namespace Go.Proofs.Ytbnegkkjgkignaa
open Go.ChangeShapes Go.WideShapes Go.ChangeAt Go.RowKit

theorem open_ops {H : Type} {enc : TypeId × Value → H} {w : World} {A : Option Addr} {len cap : Nat} {d : DataW H} {p : List MemPlace} (h : DataW.Trod enc Try.prog w 0 (fun _ => true) true 46 (.slice A len cap) d p) : ∃ l : List Op, l.length = len ∧ len ≤ cap ∧ cap ≤ 9223372036854775807 ∧ Rd Op.cells 3 w w.heap.size A l := by
  obtain ⟨l, h1, h2, h3, h4, _⟩ := open_list (f := Op.cells) (sz := 3) (Q := fun _ => True) Try.underlying46 cellsOp (by decide) (fun _ => rfl) (fun n cs x hcs hx => by
    obtain ⟨y0, y1, y2, m, _, _, q0, q1, q2⟩ := Go.Deep.trod_struct3 Try.underlying26 hx
    match cs, hcs with
    | [c0, c1, c2], _ =>
      simp only [cellsInt, cellsStr, List.drop_zero, List.take_succ_cons, List.take_zero, List.drop_succ_cons] at q0 q1 q2
      obtain ⟨a, e0, _, _⟩ := DataW.trod_int Try.underlying3 q0
      obtain ⟨b, e1, _, _⟩ := DataW.trod_int Try.underlying3 q1
      obtain ⟨c, e2, _, _⟩ := DataW.trod_string Try.underlying9 q2
      simp at e0 e1 e2
      subst e0 e1 e2
      exact ⟨⟨a, b, c⟩, rfl, trivial⟩) h
  exact ⟨l, h1, h2, h3, h4⟩

set_option maxRecDepth 100000 in
theorem opsAll_lifted (os : Os) (started : os.Started) (H : Type) (enc : TypeId × Value → H) :
    ReturnsInHanded {} Try.checked os 4 .any (Rows.opsAllSpec.pre6 enc Try.prog Try.f4 Rows.opsAllRow.domain false) (Rows.opsAllSpec.post enc Try.prog Try.f4 false true false false) := by
  refine returnsInHanded_of_change (C := Try.checked) own_ started (by kernel_rfl) Try.func4
    (ChangeSpec.witness6 (enc := enc) (C := Try.checked) false ⟨#[], #[.slice none 0 0], []⟩ 8 (by kernel_rfl) (by kernel_rfl) (by kernel_rfl) (by kernel_rfl)) ?_
  intro W base args ds gs before hval0 hW hcnd _
  have hval : ∀ (j : Nat) t v, Try.f4.params[j]? = some t → args[j]? = some v → Value.okWide Try.prog W .any base t v := hval0
  have hW' := hW
  obtain ⟨p, q, hA0, hV, rfl, hfz, hnd⟩ := hW
  have hA : DataW.TrodAll enc Try.prog W 0 (fun _ => true) true Try.f4.params.toList args.toList ds p := hA0
  rw [Try.params4] at hA hval
  obtain ⟨v0, vs0, d0, ds0, p0, q0, hargs, rfl, rfl, h0, r0⟩ := trodAll_cons hA
  obtain ⟨rfl, rfl, rfl⟩ := trodAll_nil r0
  obtain rfl : args = #[v0] := by cases args; simp_all
  obtain ⟨rfl, rfl⟩ := trodVars_none hV
  obtain ⟨a0, len0, cap0, rfl⟩ := okWide_slice Try.underlying46 (hval 0 46 v0 rfl rfl)
  have k0 := h0
  have lt0 : ∀ x ∈ p0, x.block < W.heap.size := by obtain ⟨m, hm⟩ := k0; exact DataW.trod_lt m _ _ _ hm
  obtain ⟨l0, rfl, hc0, hm0, hr0⟩ := open_ops h0
  clear hA0 hval0
  refine (lawAll W a0 cap0 l0 (Nat.le_trans hc0 hm0) hr0).mono fun e W' ⟨he, bel⟩ => ?_
  subst he
  exact ⟨_, rfl, _, _, _, [], _, [], hW', trodAll_mk1 (shut_bool Try.underlying4 _), (trodAll_cons_mk (Below.trod laid_ (by kernel_rfl) (of_decide_eq_true (by kernel_rfl)) k0 bel lt0) trodAll_mk0), rfl, bel.frame _, fun h => by cases h⟩

theorem opsAll_holds : Rows.OpsAllSaid :=
  OpenClaim.holds_of_wide 4 Try.f4 rfl rfl rfl rfl rfl rfl rfl ⟨rfl, rfl, rfl, rfl, rfl⟩ rfl rfl rfl rfl rfl (by kernel_rfl) Try.func4 (by kernel_rfl)
    (of_decide_eq_true (by kernel_rfl)) (by unfold Func.isWrapper; first | (rw [if_pos (by decide +kernel)]; kernel_rfl) | (rw [if_neg (by decide +kernel)]; exact ⟨rfl, rfl⟩))
    (fun os started H enc _ => opsAll_lifted os started H enc)
#print axioms opsAll_holds
end Go.Proofs.Ytbnegkkjgkignaa
