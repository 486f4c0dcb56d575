/- The law SemiringLeasts: the least weights with their numbers are a commutative semiring, for any arguments. Whatever the input, the call returns true, and its arguments read afterwards as before. No condition. -/
import Derived.Test.YtecfdemglbfnoaaProg
import Derived.Laws.StructEq
import Derived.Test.YtecfdemglbfnoaaMSemiringLeastsF
import Derived.Test.YtecfdemglbfnoaaRows
import Derived.WalkKit
import Derived.ProofKit
import Derived.OpenShut
import Derived.ChangeOld
import Derived.Below
import Derived.SizedLaws
namespace Go.Proofs.Ytecfdemglbfnoaa.semiringLeasts
open Go.ChangeShapes Go.WideShapes Go.ChangeAt Go.RowKit Go.Proofs.Ytecfdemglbfnoaa.Open Go.Proofs.YtecfdemglbfnoaaW.PrintWords
set_option linter.unusedVariables false
set_option linter.unusedSimpArgs false
set_option maxHeartbeats 4000000 in
set_option maxRecDepth 100000 in
theorem lifted (os : Os) (started : os.Started) (H : Type) (enc : TypeId × Value → H) :
    ReturnsInHanded {} Try.checked os 8 .any (Rows.semiringLeastsSpec.pre6 enc Try.prog Try.f8 Rows.semiringLeastsRow.domain false) (Rows.semiringLeastsSpec.post enc Try.prog Try.f8 false true false false) := by
  refine returnsInHanded_of_change_sized (C := Try.checked) Facts.own started (by kernel_rfl) Try.func8
    (ChangeSpec.witness6 (enc := enc) (C := Try.checked) false ⟨#[], #[.agg #[.int .i64 0, .slice none 0 0], .agg #[.int .i64 0, .slice none 0 0], .agg #[.int .i64 0, .slice none 0 0]], []⟩ 8 (by kernel_rfl) (by kernel_rfl) (by kernel_rfl) (by kernel_rfl)) ?_
  intro W base args ds gs before hval0 hW hcnd hsz0 _
  have hsz : (DataW.weightsEach Try.prog (Try.f8.params.toList ++ Rows.semiringLeastsSpec.plain.varTypes Try.prog) (ds ++ gs)).all (· ≤ reachBytes) = true := hsz0
  have hval : ∀ (j : Nat) t v, Try.f8.params[j]? = some t → args[j]? = some v → Value.okWide Try.prog W .any base t v := hval0
  have hW' := hW
  obtain ⟨p, q, hA0, hV, rfl, hfz, hnd⟩ := hW
  have hA : DataW.TrodAll enc Try.prog W 0 (fun _ => true) true Try.f8.params.toList args.toList ds p := hA0
  rw [Try.params8] at hA hval hsz
  obtain ⟨v0, vs0, d0, ds0, p0, q0, hargs, rfl, rfl, h0, r0⟩ := trodAll_cons hA
  obtain ⟨v1, vs1, d1, ds1, p1, q1, rfl, rfl, rfl, h1, r1⟩ := trodAll_cons r0
  obtain ⟨v2, vs2, d2, ds2, p2, q2, rfl, rfl, rfl, h2, r2⟩ := trodAll_cons r1
  obtain ⟨rfl, rfl, rfl⟩ := trodAll_nil r2
  obtain rfl : args = #[v0, v1, v2] := by cases args; simp_all
  obtain ⟨rfl, rfl⟩ := trodVars_none hV
  have k0 := h0
  have lt0 : ∀ x ∈ p0, x.block < W.heap.size := by obtain ⟨m, hm⟩ := k0; exact DataW.trod_lt m _ _ _ hm
  obtain ⟨cs0, rfl, _⟩ := okWide_struct Try.underlying53 (hval 0 53 v0 rfl rfl)
  obtain ⟨fuel0, hf0⟩ := h0
  obtain ⟨y0, hK0, hQ0⟩ := (op_pair Try.underlying53 (op_int Try.underlying3) (op_slice (B := 4) Try.underlying42 (op_int Try.underlying48) (by kernel_rfl) (by kernel_rfl)) rfl (by kernel_rfl) rfl (by kernel_rfl) (by kernel_rfl)) fuel0 _ _ hf0 (fun n hn => by simpa using List.all_eq_true.1 hsz n (DataW.weights_mem_each (j := 0) rfl rfl n hn))
  obtain ⟨b0_40, d0_40, g0_40, hx0_40, hy0_40⟩ := hK0
  have e0_0 := hx0_40
  obtain ⟨A0_1, c0_1, e0_1, hl0_1, hC0_1⟩ := hy0_40
  obtain rfl : cs0 = #[.int .i64 y0.1, .slice A0_1 y0.2.length c0_1] := by
    apply Array.ext'
    show (Value.agg cs0).cells.toList = _
    subst e0_0
    subst e0_1
    exact g0_40
  have k1 := h1
  have lt1 : ∀ x ∈ p1, x.block < W.heap.size := by obtain ⟨m, hm⟩ := k1; exact DataW.trod_lt m _ _ _ hm
  obtain ⟨cs1, rfl, _⟩ := okWide_struct Try.underlying53 (hval 1 53 v1 rfl rfl)
  obtain ⟨fuel1, hf1⟩ := h1
  obtain ⟨y1, hK1, hQ1⟩ := (op_pair Try.underlying53 (op_int Try.underlying3) (op_slice (B := 4) Try.underlying42 (op_int Try.underlying48) (by kernel_rfl) (by kernel_rfl)) rfl (by kernel_rfl) rfl (by kernel_rfl) (by kernel_rfl)) fuel1 _ _ hf1 (fun n hn => by simpa using List.all_eq_true.1 hsz n (DataW.weights_mem_each (j := 1) rfl rfl n hn))
  obtain ⟨b1_54, d1_54, g1_54, hx1_54, hy1_54⟩ := hK1
  have e1_0 := hx1_54
  obtain ⟨A1_1, c1_1, e1_1, hl1_1, hC1_1⟩ := hy1_54
  obtain rfl : cs1 = #[.int .i64 y1.1, .slice A1_1 y1.2.length c1_1] := by
    apply Array.ext'
    show (Value.agg cs1).cells.toList = _
    subst e1_0
    subst e1_1
    exact g1_54
  have k2 := h2
  have lt2 : ∀ x ∈ p2, x.block < W.heap.size := by obtain ⟨m, hm⟩ := k2; exact DataW.trod_lt m _ _ _ hm
  obtain ⟨cs2, rfl, _⟩ := okWide_struct Try.underlying53 (hval 2 53 v2 rfl rfl)
  obtain ⟨fuel2, hf2⟩ := h2
  obtain ⟨y2, hK2, hQ2⟩ := (op_pair Try.underlying53 (op_int Try.underlying3) (op_slice (B := 4) Try.underlying42 (op_int Try.underlying48) (by kernel_rfl) (by kernel_rfl)) rfl (by kernel_rfl) rfl (by kernel_rfl) (by kernel_rfl)) fuel2 _ _ hf2 (fun n hn => by simpa using List.all_eq_true.1 hsz n (DataW.weights_mem_each (j := 2) rfl rfl n hn))
  obtain ⟨b2_68, d2_68, g2_68, hx2_68, hy2_68⟩ := hK2
  have e2_0 := hx2_68
  obtain ⟨A2_1, c2_1, e2_1, hl2_1, hC2_1⟩ := hy2_68
  obtain rfl : cs2 = #[.int .i64 y2.1, .slice A2_1 y2.2.length c2_1] := by
    apply Array.ext'
    show (Value.agg cs2).cells.toList = _
    subst e2_0
    subst e2_1
    exact g2_68
  obtain ⟨k, hk⟩ := Pure.SemiringLeasts y0.1 y0.2 hQ0 y1.1 y1.2 hQ1 y2.1 y2.2 hQ2
  clear hA0 hval0 hsz0 hsz
  refine (PT.codewrightlaw46_SemiringLeasts.calls (P0_1_ := fun k_ => k_ < W.heap.size) (hs0_1 := Kd.V_mk hl0_1 (Kd.C_F (Kd.heap_int .u32) hC0_1)) (P1_1_ := fun k_ => k_ < W.heap.size) (hs1_1 := Kd.V_mk hl1_1 (Kd.C_F (Kd.heap_int .u32) hC1_1)) (P2_1_ := fun k_ => k_ < W.heap.size) (hs2_1 := Kd.V_mk hl2_1 (Kd.C_F (Kd.heap_int .u32) hC2_1)) (h := hk)).mono fun e W' ⟨he, bel⟩ => ?_
  subst he
  exact ⟨_, rfl, _, _, _, [], _, [], hW', trodAll_mk1 (shut_bool Try.underlying4 _), (trodAll_cons_mk (Below.trod Facts.laid (by kernel_rfl) (of_decide_eq_true (by kernel_rfl)) k0 bel lt0) (trodAll_cons_mk (Below.trod Facts.laid (by kernel_rfl) (of_decide_eq_true (by kernel_rfl)) k1 bel lt1) (trodAll_cons_mk (Below.trod Facts.laid (by kernel_rfl) (of_decide_eq_true (by kernel_rfl)) k2 bel lt2) trodAll_mk0))), rfl, bel.frame _, fun h => by cases h⟩
set_option maxHeartbeats 4000000 in
theorem jf_of : joinedFacts Try.prog 8 Try.f8 Rows.semiringLeastsSpec Rows.semiringLeastsRow = true := by
  unfold joinedFacts
  repeat' (with_reducible refine Facts.band ?_ ?_)
  all_goals first
    | (with_reducible exact Facts.enter)
    | (with_reducible exact Facts.laid)
    | (rw [Facts.lifts]; rfl)
    | (rw [Facts.make]; rfl)
    | (as_aux_lemma => kernel_rfl)
theorem over : Rows.semiringLeastsRow.holds Try.pinned (OpenSpec.ofChange Rows.semiringLeastsSpec) :=
  OpenClaim.holds_of_wide 8 Try.f8 rfl rfl rfl rfl rfl rfl rfl ⟨rfl, rfl, rfl, rfl, rfl⟩ rfl rfl rfl rfl rfl (by kernel_rfl) Try.func8 jf_of
    (of_decide_eq_true (by kernel_rfl)) (by unfold Func.isWrapper; first | (rw [if_pos (by decide +kernel)]; kernel_rfl) | (rw [if_neg (by decide +kernel)]; exact ⟨rfl, rfl⟩))
    (fun os started H enc _ => lifted os started H enc)
theorem proved : Rows.SemiringLeastsSaid := over
#print axioms proved
end Go.Proofs.Ytecfdemglbfnoaa.semiringLeasts
namespace Go.Proofs.Ytecfdemglbfnoaa
/-- The row, under a short name, for the claim. -/
theorem semiringLeasts_holds : Rows.SemiringLeastsSaid := semiringLeasts.proved
end Go.Proofs.Ytecfdemglbfnoaa
