/- The law RationalFloors: the floor is the only integer that is at most a value and greater than the value minus 1; Whole knows the integers of at least 0. Whatever the input, the call returns true, and its arguments read afterwards as before. No condition. -/
import Derived.Laws.StructEq
import Derived.Test.YtecfdemglbfnoaaMRationalFloorsF
import Derived.Test.YtecfdemglbfnoaaRows
import Derived.WalkKit
import Derived.ProofKit
import Derived.OpenShut
import Derived.ChangeOld
import Derived.Below
import Derived.SizedLaws
namespace Go.Proofs.Ytecfdemglbfnoaa.rationalFloors
open Go.ChangeShapes Go.WideShapes Go.ChangeAt Go.RowKit Go.Proofs.Ytecfdemglbfnoaa.Open Go.Proofs.YtecfdemglbfnoaaW.PrintWords
set_option linter.unusedVariables false
set_option linter.unusedSimpArgs false
set_option maxHeartbeats 4000000 in
set_option maxRecDepth 100000 in
theorem lifted (os : Os) (started : os.Started) (H : Type) (enc : TypeId × Value → H) :
    ReturnsInHanded {} Try.checked os 20 .any (Rows.rationalFloorsSpec.pre6 enc Try.prog Try.f20 Rows.rationalFloorsRow.domain false) (Rows.rationalFloorsSpec.post enc Try.prog Try.f20 false true false false) := by
  refine returnsInHanded_of_change_sized (C := Try.checked) Facts.own started (by kernel_rfl) Try.func20
    (ChangeSpec.witness6 (enc := enc) (C := Try.checked) false ⟨#[], #[.agg #[.bool false, .slice none 0 0, .slice none 0 0]], []⟩ 8 (by kernel_rfl) (by kernel_rfl) (by kernel_rfl) (by kernel_rfl)) ?_
  intro W base args ds gs before hval0 hW hcnd hsz0 _
  have hsz : (DataW.weightsEach Try.prog (Try.f20.params.toList ++ Rows.rationalFloorsSpec.plain.varTypes Try.prog) (ds ++ gs)).all (· ≤ reachBytes) = true := hsz0
  have hval : ∀ (j : Nat) t v, Try.f20.params[j]? = some t → args[j]? = some v → Value.okWide Try.prog W .any base t v := hval0
  have hW' := hW
  obtain ⟨p, q, hA0, hV, rfl, hfz, hnd⟩ := hW
  have hA : DataW.TrodAll enc Try.prog W 0 (fun _ => true) true Try.f20.params.toList args.toList ds p := hA0
  rw [Try.params20] at hA hval hsz
  obtain ⟨v0, vs0, d0, ds0, p0, q0, hargs, rfl, rfl, h0, r0⟩ := trodAll_cons hA
  obtain ⟨rfl, rfl, rfl⟩ := trodAll_nil r0
  obtain rfl : args = #[v0] := by cases args; simp_all
  obtain ⟨rfl, rfl⟩ := trodVars_none hV
  have k0 := h0
  have lt0 : ∀ x ∈ p0, x.block < W.heap.size := by obtain ⟨m, hm⟩ := k0; exact DataW.trod_lt m _ _ _ hm
  obtain ⟨cs0, rfl, _⟩ := okWide_struct Try.underlying67 (hval 0 67 v0 rfl rfl)
  obtain ⟨fuel0, hf0⟩ := h0
  obtain ⟨y0, hK0, hQ0⟩ := (op_triple Try.underlying67 (op_bool Try.underlying4) (op_slice (B := 4) Try.underlying42 (op_int Try.underlying48) (by kernel_rfl) (by kernel_rfl)) (op_slice (B := 4) Try.underlying42 (op_int Try.underlying48) (by kernel_rfl) (by kernel_rfl)) rfl (by kernel_rfl) rfl (by kernel_rfl) rfl (by kernel_rfl) (by kernel_rfl)) fuel0 _ _ hf0 (fun n hn => by simpa using List.all_eq_true.1 hsz n (DataW.weights_mem_each (j := 0) rfl rfl n hn))
  obtain ⟨b0_38, d0_38, g0_38, hx0_38, hy0_38⟩ := hK0
  have e0_0 := hx0_38
  obtain ⟨b0_38q, d0_38q, g0_38q, hx0_38q, hy0_38q⟩ := hy0_38
  obtain ⟨A0_1, c0_1, e0_1, hl0_1, hC0_1⟩ := hx0_38q
  obtain ⟨A0_2, c0_2, e0_2, hl0_2, hC0_2⟩ := hy0_38q
  obtain rfl : cs0 = #[.bool y0.1, .slice A0_1 y0.2.1.length c0_1, .slice A0_2 y0.2.2.length c0_2] := by
    apply Array.ext'
    show (Value.agg cs0).cells.toList = _
    subst e0_0
    subst e0_1
    subst e0_2
    subst g0_38q
    exact g0_38
  obtain ⟨k, hk⟩ := Pure.RationalFloors y0.1 y0.2.1 y0.2.2 hQ0
  clear hA0 hval0 hsz0 hsz
  refine (PT.codewrightlaw02_RationalFloors.calls (P0_1_ := fun k_ => k_ < W.heap.size) (hs0_1 := Kd.V_mk hl0_1 (Kd.C_F (Kd.heap_int .u32) hC0_1)) (P0_2_ := fun k_ => k_ < W.heap.size) (hs0_2 := Kd.V_mk hl0_2 (Kd.C_F (Kd.heap_int .u32) hC0_2)) (h := hk)).mono fun e W' ⟨he, bel⟩ => ?_
  subst he
  exact ⟨_, rfl, _, _, _, [], _, [], hW', trodAll_mk1 (shut_bool Try.underlying4 _), (trodAll_cons_mk (Below.trod Facts.laid (by kernel_rfl) (of_decide_eq_true (by kernel_rfl)) k0 bel lt0) trodAll_mk0), rfl, bel.frame _, fun h => by cases h⟩
set_option maxHeartbeats 4000000 in
theorem jf_of : joinedFacts Try.prog 20 Try.f20 Rows.rationalFloorsSpec Rows.rationalFloorsRow = true := by
  unfold joinedFacts
  repeat' (with_reducible refine Facts.band ?_ ?_)
  all_goals first
    | (with_reducible exact Facts.enter)
    | (with_reducible exact Facts.laid)
    | (rw [Facts.lifts]; rfl)
    | (rw [Facts.make]; rfl)
    | (as_aux_lemma => kernel_rfl)
theorem over : Rows.rationalFloorsRow.holds Try.pinned (OpenSpec.ofChange Rows.rationalFloorsSpec) :=
  OpenClaim.holds_of_wide 20 Try.f20 rfl rfl rfl rfl rfl rfl rfl ⟨rfl, rfl, rfl, rfl, rfl⟩ rfl rfl rfl rfl rfl (by kernel_rfl) Try.func20 jf_of
    (of_decide_eq_true (by kernel_rfl)) (by unfold Func.isWrapper; first | (rw [if_pos (by decide +kernel)]; kernel_rfl) | (rw [if_neg (by decide +kernel)]; exact ⟨rfl, rfl⟩))
    (fun os started H enc _ => lifted os started H enc)
theorem proved : Rows.RationalFloorsSaid := over
#print axioms proved
end Go.Proofs.Ytecfdemglbfnoaa.rationalFloors
namespace Go.Proofs.Ytecfdemglbfnoaa
/-- The row, under a short name, for the claim. -/
theorem rationalFloors_holds : Rows.RationalFloorsSaid := rationalFloors.proved
end Go.Proofs.Ytecfdemglbfnoaa
