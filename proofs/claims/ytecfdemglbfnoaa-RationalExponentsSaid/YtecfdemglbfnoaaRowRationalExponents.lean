/- The law RationalExponents: powers of values other than 0 add their exponents. Whatever the input, the call returns true, and its arguments read afterwards as before. No condition. -/
import Derived.Laws.StructEq
import Derived.Test.YtecfdemglbfnoaaMRationalExponentsL
import Derived.Test.YtecfdemglbfnoaaRows
import Derived.WalkKit
import Derived.ProofKit
import Derived.OpenShut
import Derived.ChangeOld
import Derived.Below
import Derived.SizedLaws
namespace Go.Proofs.Ytecfdemglbfnoaa.rationalExponents
open Go.ChangeShapes Go.WideShapes Go.ChangeAt Go.RowKit Go.Proofs.Ytecfdemglbfnoaa.Open Go.Proofs.YtecfdemglbfnoaaW.PrintWords
set_option linter.unusedVariables false
set_option linter.unusedSimpArgs false
set_option maxHeartbeats 4000000 in
set_option maxRecDepth 100000 in
theorem lifted (os : Os) (started : os.Started) (H : Type) (enc : TypeId × Value → H) :
    ReturnsInHanded {} Try.checked os 17 .any (Rows.rationalExponentsSpec.pre6 enc Try.prog Try.f17 Rows.rationalExponentsRow.domain false) (Rows.rationalExponentsSpec.post enc Try.prog Try.f17 false true false false) := by
  refine returnsInHanded_of_change_sized (C := Try.checked) Facts.own started (by kernel_rfl) Try.func17
    (ChangeSpec.witness6 (enc := enc) (C := Try.checked) false ⟨#[], #[.agg #[.bool false, .slice none 0 0, .slice none 0 0], .int .i8 0, .int .i8 0], []⟩ 8 (by kernel_rfl) (by kernel_rfl) (by kernel_rfl) (by kernel_rfl)) ?_
  intro W base args ds gs before hval0 hW hcnd hsz0 _
  have hsz : (DataW.weightsEach Try.prog (Try.f17.params.toList ++ Rows.rationalExponentsSpec.plain.varTypes Try.prog) (ds ++ gs)).all (· ≤ reachBytes) = true := hsz0
  have hval : ∀ (j : Nat) t v, Try.f17.params[j]? = some t → args[j]? = some v → Value.okWide Try.prog W .any base t v := hval0
  have hW' := hW
  obtain ⟨p, q, hA0, hV, rfl, hfz, hnd⟩ := hW
  have hA : DataW.TrodAll enc Try.prog W 0 (fun _ => true) true Try.f17.params.toList args.toList ds p := hA0
  rw [Try.params17] at hA hval hsz
  obtain ⟨v0, vs0, d0, ds0, p0, q0, hargs, rfl, rfl, h0, r0⟩ := trodAll_cons hA
  obtain ⟨v1, vs1, d1, ds1, p1, q1, rfl, rfl, rfl, h1, r1⟩ := trodAll_cons r0
  obtain ⟨v2, vs2, d2, ds2, p2, q2, rfl, rfl, rfl, h2, r2⟩ := trodAll_cons r1
  obtain ⟨rfl, rfl, rfl⟩ := trodAll_nil r2
  obtain rfl : args = #[v0, v1, v2] := by cases args; simp_all
  obtain ⟨rfl, rfl⟩ := trodVars_none hV
  have k0 := h0
  have lt0 : ∀ x ∈ p0, x.block < W.heap.size := by obtain ⟨m, hm⟩ := k0; exact DataW.trod_lt m _ _ _ hm
  obtain ⟨cs0, rfl, _⟩ := okWide_struct Try.underlying67 (hval 0 67 v0 rfl rfl)
  obtain ⟨fuel0, hf0⟩ := h0
  obtain ⟨y0, hK0, hQ0⟩ := (op_triple Try.underlying67 (op_bool Try.underlying4) (op_slice (B := 4) Try.underlying42 (op_int Try.underlying48) (by kernel_rfl) (by kernel_rfl)) (op_slice (B := 4) Try.underlying42 (op_int Try.underlying48) (by kernel_rfl) (by kernel_rfl)) rfl (by kernel_rfl) rfl (by kernel_rfl) rfl (by kernel_rfl) (by kernel_rfl)) fuel0 _ _ hf0 (fun n hn => by simpa using List.all_eq_true.1 hsz n (DataW.weights_mem_each (j := 0) rfl rfl n hn))
  obtain ⟨b0_40, d0_40, g0_40, hx0_40, hy0_40⟩ := hK0
  have e0_0 := hx0_40
  obtain ⟨b0_40q, d0_40q, g0_40q, hx0_40q, hy0_40q⟩ := hy0_40
  obtain ⟨A0_1, c0_1, e0_1, hl0_1, hC0_1⟩ := hx0_40q
  obtain ⟨A0_2, c0_2, e0_2, hl0_2, hC0_2⟩ := hy0_40q
  obtain rfl : cs0 = #[.bool y0.1, .slice A0_1 y0.2.1.length c0_1, .slice A0_2 y0.2.2.length c0_2] := by
    apply Array.ext'
    show (Value.agg cs0).cells.toList = _
    subst e0_0
    subst e0_1
    subst e0_2
    subst g0_40q
    exact g0_40
  obtain ⟨a1, rfl, rfl, rfl, w1⟩ := open_int Try.underlying88 (hval 1 88 v1 rfl rfl) h1
  obtain ⟨a2, rfl, rfl, rfl, w2⟩ := open_int Try.underlying88 (hval 2 88 v2 rfl rfl) h2
  obtain ⟨k, hk⟩ := Pure.RationalExponents y0.1 y0.2.1 y0.2.2 hQ0 a1 w1 a2 w2
  clear hA0 hval0 hsz0 hsz
  refine (PT.codewrightlaw02_RationalExponents.calls (P0_1_ := fun k_ => k_ < W.heap.size) (hs0_1 := Kd.V_mk hl0_1 (Kd.C_F (Kd.heap_int .u32) hC0_1)) (P0_2_ := fun k_ => k_ < W.heap.size) (hs0_2 := Kd.V_mk hl0_2 (Kd.C_F (Kd.heap_int .u32) hC0_2)) (h := hk)).mono fun e W' ⟨he, bel⟩ => ?_
  subst he
  exact ⟨_, rfl, _, _, _, [], _, [], hW', trodAll_mk1 (shut_bool Try.underlying4 _), (trodAll_cons_mk (Below.trod Facts.laid (by kernel_rfl) (of_decide_eq_true (by kernel_rfl)) k0 bel lt0) (trodAll_cons_mk (shut_int Try.underlying88 w1) (trodAll_cons_mk (shut_int Try.underlying88 w2) trodAll_mk0))), rfl, bel.frame _, fun h => by cases h⟩
set_option maxHeartbeats 4000000 in
theorem jf_of : joinedFacts Try.prog 17 Try.f17 Rows.rationalExponentsSpec Rows.rationalExponentsRow = true := by
  unfold joinedFacts
  repeat' (with_reducible refine Facts.band ?_ ?_)
  all_goals first
    | (with_reducible exact Facts.enter)
    | (with_reducible exact Facts.laid)
    | (rw [Facts.lifts]; rfl)
    | (rw [Facts.make]; rfl)
    | (as_aux_lemma => kernel_rfl)
theorem over : Rows.rationalExponentsRow.holds Try.pinned (OpenSpec.ofChange Rows.rationalExponentsSpec) :=
  OpenClaim.holds_of_wide 17 Try.f17 rfl rfl rfl rfl rfl rfl rfl ⟨rfl, rfl, rfl, rfl, rfl⟩ rfl rfl rfl rfl rfl (by kernel_rfl) Try.func17 jf_of
    (of_decide_eq_true (by kernel_rfl)) (by unfold Func.isWrapper; first | (rw [if_pos (by decide +kernel)]; kernel_rfl) | (rw [if_neg (by decide +kernel)]; exact ⟨rfl, rfl⟩))
    (fun os started H enc _ => lifted os started H enc)
theorem proved : Rows.RationalExponentsSaid := over
#print axioms proved
end Go.Proofs.Ytecfdemglbfnoaa.rationalExponents
namespace Go.Proofs.Ytecfdemglbfnoaa
/-- The row, under a short name, for the claim. -/
theorem rationalExponents_holds : Rows.RationalExponentsSaid := rationalExponents.proved
end Go.Proofs.Ytecfdemglbfnoaa
