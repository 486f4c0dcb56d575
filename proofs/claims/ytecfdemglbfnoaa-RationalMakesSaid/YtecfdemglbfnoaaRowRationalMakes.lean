/- The law RationalMakes: Of returns the quotient of any two ints, or ErrZero. Whatever the input, the call returns true, and its arguments read afterwards as before. No condition. -/
import Derived.Laws.StructEq
import Derived.Test.YtecfdemglbfnoaaMRationalMakesG
import Derived.Test.YtecfdemglbfnoaaRows
import Derived.WalkKit
import Derived.ProofKit
import Derived.OpenShut
import Derived.ChangeOld
import Derived.Below
import Derived.SizedLaws
namespace Go.Proofs.Ytecfdemglbfnoaa.rationalMakes
open Go.ChangeShapes Go.WideShapes Go.ChangeAt Go.RowKit Go.Proofs.Ytecfdemglbfnoaa.Open Go.Proofs.YtecfdemglbfnoaaW.PrintWords
set_option linter.unusedVariables false
set_option linter.unusedSimpArgs false
set_option maxHeartbeats 4000000 in
set_option maxRecDepth 100000 in
theorem lifted (os : Os) (started : os.Started) (H : Type) (enc : TypeId × Value → H) :
    ReturnsInHanded {} Try.checked os 11 .any (Rows.rationalMakesSpec.pre6 enc Try.prog Try.f11 Rows.rationalMakesRow.domain false) (Rows.rationalMakesSpec.post enc Try.prog Try.f11 false true false false) := by
  refine returnsInHanded_of_change_sized (C := Try.checked) Facts.own started (by kernel_rfl) Try.func11
    (ChangeSpec.witness6 (enc := enc) (C := Try.checked) false ⟨#[], #[.int .i64 0, .int .i64 0], []⟩ 8 (by kernel_rfl) (by kernel_rfl) (by kernel_rfl) (by kernel_rfl)) ?_
  intro W base args ds gs before hval0 hW hcnd hsz0 _
  have hsz : (DataW.weightsEach Try.prog (Try.f11.params.toList ++ Rows.rationalMakesSpec.plain.varTypes Try.prog) (ds ++ gs)).all (· ≤ reachBytes) = true := hsz0
  have hval : ∀ (j : Nat) t v, Try.f11.params[j]? = some t → args[j]? = some v → Value.okWide Try.prog W .any base t v := hval0
  have hW' := hW
  obtain ⟨p, q, hA0, hV, rfl, hfz, hnd⟩ := hW
  have hA : DataW.TrodAll enc Try.prog W 0 (fun _ => true) true Try.f11.params.toList args.toList ds p := hA0
  rw [Try.params11] at hA hval hsz
  obtain ⟨v0, vs0, d0, ds0, p0, q0, hargs, rfl, rfl, h0, r0⟩ := trodAll_cons hA
  obtain ⟨v1, vs1, d1, ds1, p1, q1, rfl, rfl, rfl, h1, r1⟩ := trodAll_cons r0
  obtain ⟨rfl, rfl, rfl⟩ := trodAll_nil r1
  obtain rfl : args = #[v0, v1] := by cases args; simp_all
  obtain ⟨rfl, rfl⟩ := trodVars_none hV
  obtain ⟨a0, rfl, rfl, rfl, w0⟩ := open_int Try.underlying3 (hval 0 3 v0 rfl rfl) h0
  obtain ⟨a1, rfl, rfl, rfl, w1⟩ := open_int Try.underlying3 (hval 1 3 v1 rfl rfl) h1
  obtain ⟨k, hk⟩ := Pure.RationalMakes a0 w0 a1 w1
  clear hA0 hval0 hsz0 hsz
  refine (PT.codewrightlaw02_RationalMakes.calls (w := W) (h := hk)).mono fun e W' ⟨he, bel⟩ => ?_
  subst he
  exact ⟨_, rfl, _, _, _, [], _, [], hW', trodAll_mk1 (shut_bool Try.underlying4 _), (trodAll_cons_mk (shut_int Try.underlying3 w0) (trodAll_cons_mk (shut_int Try.underlying3 w1) trodAll_mk0)), rfl, bel.frame _, fun h => by cases h⟩
set_option maxHeartbeats 4000000 in
theorem jf_of : joinedFacts Try.prog 11 Try.f11 Rows.rationalMakesSpec Rows.rationalMakesRow = true := by
  unfold joinedFacts
  repeat' (with_reducible refine Facts.band ?_ ?_)
  all_goals first
    | (with_reducible exact Facts.enter)
    | (with_reducible exact Facts.laid)
    | (rw [Facts.lifts]; rfl)
    | (rw [Facts.make]; rfl)
    | (as_aux_lemma => kernel_rfl)
theorem over : Rows.rationalMakesRow.holds Try.pinned (OpenSpec.ofChange Rows.rationalMakesSpec) :=
  OpenClaim.holds_of_wide 11 Try.f11 rfl rfl rfl rfl rfl rfl rfl ⟨rfl, rfl, rfl, rfl, rfl⟩ rfl rfl rfl rfl rfl (by kernel_rfl) Try.func11 jf_of
    (of_decide_eq_true (by kernel_rfl)) (by unfold Func.isWrapper; first | (rw [if_pos (by decide +kernel)]; kernel_rfl) | (rw [if_neg (by decide +kernel)]; exact ⟨rfl, rfl⟩))
    (fun os started H enc _ => lifted os started H enc)
theorem proved : Rows.RationalMakesSaid := over
#print axioms proved
end Go.Proofs.Ytecfdemglbfnoaa.rationalMakes
namespace Go.Proofs.Ytecfdemglbfnoaa
/-- The row, under a short name, for the claim. -/
theorem rationalMakes_holds : Rows.RationalMakesSaid := rationalMakes.proved
end Go.Proofs.Ytecfdemglbfnoaa
