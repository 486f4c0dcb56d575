/- The law RationalDots: Dot returns the specified sum, or ErrShape. Whatever the input, the call returns true, and its arguments read afterwards as before. No condition. -/
import Derived.Laws.StructEq
import Derived.Test.YtecfdemglbfnoaaMRationalDotsG
import Derived.Test.YtecfdemglbfnoaaRows
import Derived.WalkKit
import Derived.ProofKit
import Derived.OpenShut
import Derived.ChangeOld
import Derived.Below
import Derived.SizedLaws
namespace Go.Proofs.Ytecfdemglbfnoaa.rationalDots
open Go.ChangeShapes Go.WideShapes Go.ChangeAt Go.RowKit Go.Proofs.Ytecfdemglbfnoaa.Open Go.Proofs.YtecfdemglbfnoaaW.PrintWords
set_option linter.unusedVariables false
set_option linter.unusedSimpArgs false
set_option maxHeartbeats 4000000 in
set_option maxRecDepth 100000 in
theorem lifted (os : Os) (started : os.Started) (H : Type) (enc : TypeId × Value → H) :
    ReturnsInHanded {} Try.checked os 16 .any (Rows.rationalDotsSpec.pre6 enc Try.prog Try.f16 Rows.rationalDotsRow.domain false) (Rows.rationalDotsSpec.post enc Try.prog Try.f16 false true false false) := by
  refine returnsInHanded_of_change_sized (C := Try.checked) Facts.own started (by kernel_rfl) Try.func16
    (ChangeSpec.witness6 (enc := enc) (C := Try.checked) false ⟨#[], #[.slice none 0 0, .slice none 0 0], []⟩ 8 (by kernel_rfl) (by kernel_rfl) (by kernel_rfl) (by kernel_rfl)) ?_
  intro W base args ds gs before hval0 hW hcnd hsz0 _
  have hsz : (DataW.weightsEach Try.prog (Try.f16.params.toList ++ Rows.rationalDotsSpec.plain.varTypes Try.prog) (ds ++ gs)).all (· ≤ reachBytes) = true := hsz0
  have hval : ∀ (j : Nat) t v, Try.f16.params[j]? = some t → args[j]? = some v → Value.okWide Try.prog W .any base t v := hval0
  have hW' := hW
  obtain ⟨p, q, hA0, hV, rfl, hfz, hnd⟩ := hW
  have hA : DataW.TrodAll enc Try.prog W 0 (fun _ => true) true Try.f16.params.toList args.toList ds p := hA0
  rw [Try.params16] at hA hval hsz
  obtain ⟨v0, vs0, d0, ds0, p0, q0, hargs, rfl, rfl, h0, r0⟩ := trodAll_cons hA
  obtain ⟨v1, vs1, d1, ds1, p1, q1, rfl, rfl, rfl, h1, r1⟩ := trodAll_cons r0
  obtain ⟨rfl, rfl, rfl⟩ := trodAll_nil r1
  obtain rfl : args = #[v0, v1] := by cases args; simp_all
  obtain ⟨rfl, rfl⟩ := trodVars_none hV
  have k0 := h0
  have lt0 : ∀ x ∈ p0, x.block < W.heap.size := by obtain ⟨m, hm⟩ := k0; exact DataW.trod_lt m _ _ _ hm
  obtain ⟨Az0, lz0, cz0, rfl⟩ := okWide_slice Try.underlying82 (hval 0 82 v0 rfl rfl)
  obtain ⟨fuel0, hf0⟩ := h0
  obtain ⟨y0, hK0, hQ0⟩ := (op_slice (B := 56) Try.underlying82 (op_iso (β := PT.S67) (fun x => (x.f0, x.f1, x.f2)) (fun x => ⟨x.1, x.2.1, x.2.2⟩) (fun _ => rfl) (op_triple Try.underlying67 (op_bool Try.underlying4) (op_slice (B := 4) Try.underlying42 (op_int Try.underlying48) (by kernel_rfl) (by kernel_rfl)) (op_slice (B := 4) Try.underlying42 (op_int Try.underlying48) (by kernel_rfl) (by kernel_rfl)) rfl (by kernel_rfl) rfl (by kernel_rfl) rfl (by kernel_rfl) (by kernel_rfl))) (by kernel_rfl) (by kernel_rfl)) fuel0 _ _ hf0 (fun n hn => by simpa using List.all_eq_true.1 hsz n (DataW.weights_mem_each (j := 0) rfl rfl n hn))
  obtain ⟨A0, c0, e0, hl0, hC0⟩ := hK0
  simp only [Value.cells, List.cons.injEq, and_true, Value.slice.injEq] at e0
  obtain ⟨rfl, rfl, rfl⟩ := e0
  have k1 := h1
  have lt1 : ∀ x ∈ p1, x.block < W.heap.size := by obtain ⟨m, hm⟩ := k1; exact DataW.trod_lt m _ _ _ hm
  obtain ⟨Az1, lz1, cz1, rfl⟩ := okWide_slice Try.underlying82 (hval 1 82 v1 rfl rfl)
  obtain ⟨fuel1, hf1⟩ := h1
  obtain ⟨y1, hK1, hQ1⟩ := (op_slice (B := 56) Try.underlying82 (op_iso (β := PT.S67) (fun x => (x.f0, x.f1, x.f2)) (fun x => ⟨x.1, x.2.1, x.2.2⟩) (fun _ => rfl) (op_triple Try.underlying67 (op_bool Try.underlying4) (op_slice (B := 4) Try.underlying42 (op_int Try.underlying48) (by kernel_rfl) (by kernel_rfl)) (op_slice (B := 4) Try.underlying42 (op_int Try.underlying48) (by kernel_rfl) (by kernel_rfl)) rfl (by kernel_rfl) rfl (by kernel_rfl) rfl (by kernel_rfl) (by kernel_rfl))) (by kernel_rfl) (by kernel_rfl)) fuel1 _ _ hf1 (fun n hn => by simpa using List.all_eq_true.1 hsz n (DataW.weights_mem_each (j := 1) rfl rfl n hn))
  obtain ⟨A1, c1, e1, hl1, hC1⟩ := hK1
  simp only [Value.cells, List.cons.injEq, and_true, Value.slice.injEq] at e1
  obtain ⟨rfl, rfl, rfl⟩ := e1
  obtain ⟨k, hk⟩ := Pure.RationalDots y0 hQ0 y1 hQ1
  clear hA0 hval0 hsz0 hsz
  refine (PT.codewrightlaw02_RationalDots.calls (hr0 := hC0) (hc0 := hl0) (hr1 := hC1) (hc1 := hl1) (h := hk)).mono fun e W' ⟨he, bel⟩ => ?_
  subst he
  exact ⟨_, rfl, _, _, _, [], _, [], hW', trodAll_mk1 (shut_bool Try.underlying4 _), (trodAll_cons_mk (Below.trod Facts.laid (by kernel_rfl) (of_decide_eq_true (by kernel_rfl)) k0 bel lt0) (trodAll_cons_mk (Below.trod Facts.laid (by kernel_rfl) (of_decide_eq_true (by kernel_rfl)) k1 bel lt1) trodAll_mk0)), rfl, bel.frame _, fun h => by cases h⟩
set_option maxHeartbeats 4000000 in
theorem jf_of : joinedFacts Try.prog 16 Try.f16 Rows.rationalDotsSpec Rows.rationalDotsRow = true := by
  unfold joinedFacts
  repeat' (with_reducible refine Facts.band ?_ ?_)
  all_goals first
    | (with_reducible exact Facts.enter)
    | (with_reducible exact Facts.laid)
    | (rw [Facts.lifts]; rfl)
    | (rw [Facts.make]; rfl)
    | (as_aux_lemma => kernel_rfl)
theorem over : Rows.rationalDotsRow.holds Try.pinned (OpenSpec.ofChange Rows.rationalDotsSpec) :=
  OpenClaim.holds_of_wide 16 Try.f16 rfl rfl rfl rfl rfl rfl rfl ⟨rfl, rfl, rfl, rfl, rfl⟩ rfl rfl rfl rfl rfl (by kernel_rfl) Try.func16 jf_of
    (of_decide_eq_true (by kernel_rfl)) (by unfold Func.isWrapper; first | (rw [if_pos (by decide +kernel)]; kernel_rfl) | (rw [if_neg (by decide +kernel)]; exact ⟨rfl, rfl⟩))
    (fun os started H enc _ => lifted os started H enc)
theorem proved : Rows.RationalDotsSaid := over
#print axioms proved
end Go.Proofs.Ytecfdemglbfnoaa.rationalDots
namespace Go.Proofs.Ytecfdemglbfnoaa
/-- The row, under a short name, for the claim. -/
theorem rationalDots_holds : Rows.RationalDotsSaid := rationalDots.proved
end Go.Proofs.Ytecfdemglbfnoaa
