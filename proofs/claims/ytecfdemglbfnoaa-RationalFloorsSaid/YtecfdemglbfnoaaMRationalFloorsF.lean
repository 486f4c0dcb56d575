/- Walks and plain facts for the law RationalFloors, several texts in one: each theorem says what it shows; no condition beyond those that it names. -/
import Derived.Deep.Slices
import Derived.Deep.Fields
import Derived.SizedLaws
import Derived.Test.YtecfdemglbfnoaaMRationalFloorsE
section
namespace Go.Proofs.Ytecfdemglbfnoaa.PT
open Go.RowKit Go.Proofs.YtecfdemglbfnoaaW.PrintWords Go.Proofs.YtecfdemglbfnoaaW.PrintLast Go.Proofs.YtecfdemglbfnoaaW.PrintMore
attribute [local go_sem] max2_int min2_int max_two min_two max_three min_three max_four min_four
set_option linter.unusedVariables false
set_option linter.unusedSimpArgs false
set_option maxHeartbeats 8000000
set_option maxRecDepth 100000
def codewrightlaw02_RationalFloors.j0 : Nat → List Int → Bool → List Int → Bool → Bool → Bool → List Int → List Int → Option (Bool)
 | 0, _, _, _, _, _, _, _, _ => none
 | k + 1, x4, x5, x6, x7, x44, x2548000, x2548001, x2548002 => if x44 = true then (none) else (if (x5 == x7) = true then ((codewrightlaw02_same.f k false x4 ([] : List Int) false x6 ([] : List Int)).bind fun t2596 => (if t2596 = true then (if x5 = true then ((rational_Floor.f k x2548000 x2548001 x2548002).bind fun bt2597 => ((rational_Trim.f k x2548000 x2548001 x2548002).bind fun bt2604 => ((codewrightlaw02_same.f k bt2597.1 bt2597.2.1 bt2597.2.2 bt2604.1 bt2604.2.1 bt2604.2.2).bind fun t2611 => (some t2611)))) else (some true)) else (none))) else (none))
def codewrightlaw02_RationalFloors.f (k : Nat) (a0_0 : Bool) (l0_1 : List Int) (l0_2 : List Int) : Option (Bool) := (codewrightlaw02_long.f k 30 (([(⟨a0_0, l0_1, l0_2⟩ : S67)] : List (S67)))).bind fun t2551 => (if t2551 = true then (some true) else ((rational_Floor.f k a0_0 l0_1 l0_2).bind fun bt2552 => ((rational_Whole.f k a0_0 l0_1 l0_2).bind fun bt2560 => ((codewrightref02_Whole.f k a0_0 l0_1 l0_2).bind fun bt2564 => ((codewrightref02_Int.f k 1).bind fun bt2568 => ((codewrightref02_Floor.f k a0_0 l0_1 l0_2).bind fun bt2576 => ((codewrightlaw02_same.f k bt2552.1 bt2552.2.1 bt2552.2.2 bt2576.1 bt2576.2.1 bt2576.2.2).bind fun t2583 => (if t2583 = true then ((rational_Cmp.f k bt2552.1 bt2552.2.1 bt2552.2.2 a0_0 l0_1 l0_2).bind fun t2584 => (if t2584 > 0 then (codewrightlaw02_RationalFloors.j0 k bt2560.1 bt2560.2 bt2564.1 bt2564.2 true a0_0 l0_1 l0_2) else ((rational_Add.f k (([(⟨bt2552.1, bt2552.2.1, bt2552.2.2⟩ : S67), (⟨bt2568.1, bt2568.2.1, bt2568.2.2⟩ : S67)] : List (S67)))).bind fun bt2588 => ((rational_Cmp.f k bt2588.1 bt2588.2.1 bt2588.2.2 a0_0 l0_1 l0_2).bind fun t2595 => (codewrightlaw02_RationalFloors.j0 k bt2560.1 bt2560.2 bt2564.1 bt2564.2 (decide (t2595 ≤ 0)) a0_0 l0_1 l0_2))))) else (codewrightlaw02_RationalFloors.j0 k bt2560.1 bt2560.2 bt2564.1 bt2564.2 true a0_0 l0_1 l0_2)))))))))
def codewrightlaw02_RationalFloors.T7 : Bool × List (List Nat × List Nat) := (true, [([], []), ([], []), ([1], [1]), ([0, 2, 2], [0, 2]), ([3], [3]), ([4, 3], [4]), ([5], [5]), ([5], [5]), ([6, 7, 5, 5], [5, 6, 7]), ([8, 5], [5, 8]), ([5, 9], [5, 9]), ([10, 8], [10]), ([11], [11]), ([11], [11]), ([12, 13, 11], [11, 12, 13]), ([14, 11, 11], [11, 14]), ([11], [11]), ([15, 16, 15, 11], [11, 15, 16]), ([17, 11], [11, 17]), ([11, 18], [11, 18])])
def codewrightlaw02_RationalFloors.B7 : List Nat := [0, 0, 2, 7, 15, 31, 63, 63, 255, 511, 1023, 2047, 4095, 4095, 16383, 32767, 4095, 131071, 262143, 524287]
theorem codewrightlaw02_RationalFloors.tab7 : rtab .any (opsOf Try.f20 7) = codewrightlaw02_RationalFloors.T7 := by kernel_rfl
theorem codewrightlaw02_RationalFloors.bits7 : waitsOk codewrightlaw02_RationalFloors.T7.2 codewrightlaw02_RationalFloors.B7 = true := by kernel_rfl
def codewrightlaw02_RationalFloors.T9 : Bool × List (List Nat × List Nat) := (true, [([], []), ([], []), ([0, 1], [0, 1]), ([2], [2]), ([3], [3]), ([4, 3], [3, 4]), ([3], [3]), ([6, 3], [3, 6]), ([5, 7, 3, 3], [3, 5, 7]), ([3, 8], [3, 8]), ([9, 8], [9]), ([10], [10]), ([11, 10], [10, 11]), ([12, 10, 10], [10, 12]), ([13], [13]), ([14, 13, 13], [13, 14]), ([13], [13]), ([16, 15, 13], [13, 16]), ([15, 17, 17, 13], [13, 15, 17]), ([13, 18, 10], [10, 13, 18]), ([10, 19], [10, 19]), ([20, 18, 0, 1, 2, 3, 4, 5, 6, 7, 8, 9, 10, 11, 12, 13, 14, 15, 16, 17, 18, 19, 20], [20])])
def codewrightlaw02_RationalFloors.B9 : List Nat := [0, 0, 3, 7, 15, 31, 15, 79, 255, 511, 1023, 2047, 4095, 8191, 16383, 32767, 16383, 131071, 262143, 524287, 1048575, 2097151]
theorem codewrightlaw02_RationalFloors.tab9 : rtab .any (opsOf Try.f20 9) = codewrightlaw02_RationalFloors.T9 := by kernel_rfl
theorem codewrightlaw02_RationalFloors.bits9 : waitsOk codewrightlaw02_RationalFloors.T9.2 codewrightlaw02_RationalFloors.B9 = true := by kernel_rfl
theorem codewrightlaw02_RationalFloors.calls (k : Nat) (a0_0 : Bool) (P0_1_ : Nat → Prop) (A0_1 : Option Addr) (c0_1 : Nat) (l0_1 : List Int) (P0_2_ : Nat → Prop) (A0_2 : Option Addr) (c0_2 : Nat) (l0_2 : List Int) (r : Bool) (w : World) (hs0_1 : Kd.V (Kd.int .u32) 48 w w.heap.size (fun k_ => P0_1_ k_) (.slice A0_1 l0_1.length c0_1) l0_1) (hs0_2 : Kd.V (Kd.int .u32) 48 w w.heap.size (fun k_ => P0_2_ k_) (.slice A0_2 l0_2.length c0_2) l0_2) (h : codewrightlaw02_RationalFloors.f k a0_0 l0_1 l0_2 = some r) :
 Calls Try.prog 20 #[.agg #[.bool a0_0, .slice A0_1 l0_1.length c0_1, .slice A0_2 l0_2.length c0_2]] w fun e w' => e = .returned (.bool r) ∧ Below w.heap.size w w' := by
 have eB := Try.underlying67
 have ak := am (show Kd.V (Kd.int .u32) 48 w w.heap.size (fun k_ => ((P0_1_ k_ ∨ P0_2_ k_) ∨ w.heap.size ≤ k_)) (.slice A0_1 l0_1.length c0_1) l0_1 from Kd.V_mono hs0_1 (fun k_ hk => .inl (.inl hk)))
 have al := am (show Kd.V (Kd.int .u32) 48 w w.heap.size (fun k_ => ((P0_1_ k_ ∨ P0_2_ k_) ∨ w.heap.size ≤ k_)) (.slice A0_2 l0_2.length c0_2) l0_2 from Kd.V_mono hs0_2 (fun k_ hk => .inl (.inr hk)))
 have HB := am (Below.refl w.heap.size w)
 have H : ((codewrightlaw02_long.f k 30 (([(⟨a0_0, l0_1, l0_2⟩ : S67)] : List (S67)))).bind fun bX => (if bX = true then (some true) else ((rational_Floor.f k a0_0 l0_1 l0_2).bind fun aT => ((rational_Whole.f k a0_0 l0_1 l0_2).bind fun aV => ((codewrightref02_Whole.f k a0_0 l0_1 l0_2).bind fun aW => ((codewrightref02_Int.f k 1).bind fun bf => ((codewrightref02_Floor.f k a0_0 l0_1 l0_2).bind fun bg => ((codewrightlaw02_same.f k aT.1 aT.2.1 aT.2.2 bg.1 bg.2.1 bg.2.2).bind fun bG => (if bG = true then ((rational_Cmp.f k aT.1 aT.2.1 aT.2.2 a0_0 l0_1 l0_2).bind fun a9 => (if a9 > 0 then (codewrightlaw02_RationalFloors.j0 k aV.1 aV.2 aW.1 aW.2 true a0_0 l0_1 l0_2) else ((rational_Add.f k (([(⟨aT.1, aT.2.1, aT.2.2⟩ : S67), (⟨bf.1, bf.2.1, bf.2.2⟩ : S67)] : List (S67)))).bind fun aU => ((rational_Cmp.f k aU.1 aU.2.1 aU.2.2 a0_0 l0_1 l0_2).bind fun bd => (codewrightlaw02_RationalFloors.j0 k aV.1 aV.2 aW.1 aW.2 (decide (bd ≤ 0)) a0_0 l0_1 l0_2))))) else (codewrightlaw02_RationalFloors.j0 k aV.1 aV.2 aW.1 aW.2 true a0_0 l0_1 l0_2)))))))))) = some r := h
 clear h
 obtain ⟨an, bQ⟩ : ∃ y_ : List (S67), y_ = (([(⟨a0_0, l0_1, l0_2⟩ : S67)] : List (S67))) := ⟨_, rfl⟩
 rw [← bQ] at H
 have bE := am bQ
 clear bQ
 obtain ⟨bX, A2, H⟩ := bs H
 (try dsimp -simprocs only at H)
 by_cases c3 : bX = true
 ·
  subst c3
  have H1 : (some true) = some r := by rw [if_pos rfl] at H; exact H
  clear H
  have H := H1
  clear H1
  obtain rfl := Option.some.inj H
  go_enter Try.func20, Try.ntmps20
  go_wp2_with (first | ((with_reducible refine gate_dst (N := 1) rfl ?_); (try (refine gate_guard (by rfl) ?_; dsimp only)); refine box_event ?hg (N := 1) ?hd (cs := #[.bool a0_0, .slice A0_1 l0_1.length c0_1, .slice A0_2 l0_2.length c0_2]) (t := 67) ?hr ?_; (case hd => rfl); (case hg => rfl); (case hr => first | (go_simp; done) | (go_simp; rfl)); intro ad hg w4 hbox hb; replace ak := ke ak hg hb; replace al := ke al hg hb; have ab := am (hbox); have cg := ng hg (bu HB.out); have aj := ng hg (bu HB.out); replace HB := be HB hb; clear hb hbox hg; obtain ⟨dp, dq, dr, dt, du, dv⟩ := bz ab) | ((with_reducible refine gate_dst (N := 10) rfl ?_); (try (refine gate_guard (by rfl) ?_; dsimp only)); refine Kd.N_lit k67 _ 67 ?hg (N' := 10) ?hd (xs := ([(⟨a0_0, l0_1, l0_2⟩ : S67)] : List (S67))) (inner := [.bool a0_0, .slice A0_1 l0_1.length c0_1, .slice A0_2 l0_2.length c0_2]) (ok := (fun k_ => ((P0_1_ k_ ∨ P0_2_ k_) ∨ w.heap.size ≤ k_) ∧ k_ ≠ ad)) (okp := (fun k_ => ((P0_1_ k_ ∨ P0_2_ k_) ∨ w.heap.size ≤ k_) ∧ k_ ≠ ad)) ?hr ?hp (fun _ hk => hk) ((show ∀ k_, w4.heap.size ≤ k_ → (fun k_ => ((P0_1_ k_ ∨ P0_2_ k_) ∨ w.heap.size ≤ k_) ∧ k_ ≠ ad) k_ from fun k_ hk => ⟨(.inr (Nat.le_trans (below_size (bu1 HB.out aj.out)) hk)), Kd.freshB (g := ad) (o := .cells #[.bool a0_0, .slice A0_1 l0_1.length c0_1, .slice A0_2 l0_2.length c0_2] 67 (0, 0)) (ku ab.out) k_ hk⟩) _ (Nat.le_refl _)) (Below.refl _ _) (Nat.le_refl _) (by simp) ?_; (case hd => rfl); (case hg => rfl); (case hr => first | (go_simp; done) | (go_simp; rfl)); (case hp => exact (Reps.c3 (show Kd.FK k67 _ _ (⟨a0_0, l0_1, l0_2⟩ : S67) [.bool a0_0, .slice A0_1 l0_1.length c0_1, .slice A0_2 l0_2.length c0_2] from (k67_mkF _ _ (⟨a0_0, l0_1, l0_2⟩ : S67) (Kd.V_reads' (vy ((fun k_ => ((P0_1_ k_ ∨ P0_2_ k_) ∨ w.heap.size ≤ k_) ∧ k_ ≠ ad)) ak.out)).2.1 (Kd.V_F (vy ((fun k_ => ((P0_1_ k_ ∨ P0_2_ k_) ∨ w.heap.size ≤ k_) ∧ k_ ≠ ad)) ak.out)) (Kd.V_reads' (vy ((fun k_ => ((P0_1_ k_ ∨ P0_2_ k_) ∨ w.heap.size ≤ k_) ∧ k_ ≠ ad)) al.out)).2.1 (Kd.V_F (vy ((fun k_ => ((P0_1_ k_ ∨ P0_2_ k_) ∨ w.heap.size ≤ k_) ∧ k_ ≠ ad)) al.out)))) (Reps.none _ _))); intro cl w6 ch hb hg_ hnew_; clear hg_ hnew_; (first | rw [← bE.out] at ch | (simp only [Int.reduceToNat] at ch; rw [← bE.out] at ch)); replace ak := el ak ch hb; replace al := el al ch hb; have ag := am (Kd.N_lower ch (below_size (bu1 HB.out aj.out))); replace ab := kb ab hb; replace HB := be1 HB aj hb; clear hb ch; obtain ⟨eC, eD, eE⟩ := Kd.N_slice ag.out; subst eE) | ((with_reducible refine gate_callee (f := 86) rfl ?_); refine goesL_ (some 11) rfl rfl Try.func86 (by kernel_rfl) rfl #[.int .i64 30, .slice eC an.length eD] rfl lu ?_; (with_reducible refine (codewrightlaw02_long.calls k 30 _ _ an true _ ?side1 ?side2 A2.out).mono ?_); (case side1 => exact cu (Kd.N_reads' ag.out).2.2); (case side2 => exact (Kd.N_reads' ag.out).2.1); rintro e w' ⟨rfl, ⟨nd, rfl⟩⟩; refine ⟨_, rfl, ?_⟩))
  go_ret
  exact ⟨by first | rfl | (simp [errW_none, errW_some] <;> rfl) | (simp [*, errW_none, errW_some] <;> rfl), by repeat (first | (with_reducible first | exact HB.out | apply below_alloc | apply pw_below_drewN | apply below_drew1 | refine below_set ?_ aj.out) | exact HB.out)⟩
 ·
  replace c3 := Bool.eq_false_iff.mpr c3
  subst c3
  have H1 : ((rational_Floor.f k a0_0 l0_1 l0_2).bind fun aT => ((rational_Whole.f k a0_0 l0_1 l0_2).bind fun aV => ((codewrightref02_Whole.f k a0_0 l0_1 l0_2).bind fun aW => ((codewrightref02_Int.f k 1).bind fun bf => ((codewrightref02_Floor.f k a0_0 l0_1 l0_2).bind fun bg => ((codewrightlaw02_same.f k aT.1 aT.2.1 aT.2.2 bg.1 bg.2.1 bg.2.2).bind fun bG => (if bG = true then ((rational_Cmp.f k aT.1 aT.2.1 aT.2.2 a0_0 l0_1 l0_2).bind fun a9 => (if a9 > 0 then (codewrightlaw02_RationalFloors.j0 k aV.1 aV.2 aW.1 aW.2 true a0_0 l0_1 l0_2) else ((rational_Add.f k (([(⟨aT.1, aT.2.1, aT.2.2⟩ : S67), (⟨bf.1, bf.2.1, bf.2.2⟩ : S67)] : List (S67)))).bind fun aU => ((rational_Cmp.f k aU.1 aU.2.1 aU.2.2 a0_0 l0_1 l0_2).bind fun bd => (codewrightlaw02_RationalFloors.j0 k aV.1 aV.2 aW.1 aW.2 (decide (bd ≤ 0)) a0_0 l0_1 l0_2))))) else (codewrightlaw02_RationalFloors.j0 k aV.1 aV.2 aW.1 aW.2 true a0_0 l0_1 l0_2)))))))) = some r := by rw [if_neg (show ¬ (false = true) by decide)] at H; exact H
  clear H
  have H := H1
  clear H1
  obtain ⟨⟨aS, aI, aJ⟩, A9, H⟩ := bs H
  (try dsimp -simprocs only at H)
  obtain ⟨⟨aX, a7⟩, eF, H⟩ := bs H
  (try dsimp -simprocs only at H)
  obtain ⟨⟨aY, ba⟩, eG, H⟩ := bs H
  (try dsimp -simprocs only at H)
  obtain ⟨⟨av, ao, ap⟩, eH, H⟩ := bs H
  (try dsimp -simprocs only at H)
  have ci := am H
  clear H
  go_enter Try.func20, Try.ntmps20
  go_upto_region 7 with (first | ((with_reducible refine gate_dst (N := 1) rfl ?_); (try (refine gate_guard (by rfl) ?_; dsimp only)); refine box_event ?hg (N := 1) ?hd (cs := #[.bool a0_0, .slice A0_1 l0_1.length c0_1, .slice A0_2 l0_2.length c0_2]) (t := 67) ?hr ?_; (case hd => rfl); (case hg => rfl); (case hr => first | (go_simp; done) | (go_simp; rfl)); intro ad hg eI hbox hb; replace ak := ke ak hg hb; replace al := ke al hg hb; have ab := am (hbox); have cg := ng hg (bu HB.out); have aj := ng hg (bu HB.out); replace HB := be HB hb; clear hb hbox hg; obtain ⟨cG, cH, cI, cJ, cK, cL⟩ := bz ab) | ((with_reducible refine gate_dst (N := 10) rfl ?_); (try (refine gate_guard (by rfl) ?_; dsimp only)); refine Kd.N_lit k67 _ 67 ?hg (N' := 10) ?hd (xs := ([(⟨a0_0, l0_1, l0_2⟩ : S67)] : List (S67))) (inner := [.bool a0_0, .slice A0_1 l0_1.length c0_1, .slice A0_2 l0_2.length c0_2]) (ok := (fun k_ => ((P0_1_ k_ ∨ P0_2_ k_) ∨ w.heap.size ≤ k_) ∧ k_ ≠ ad)) (okp := (fun k_ => ((P0_1_ k_ ∨ P0_2_ k_) ∨ w.heap.size ≤ k_) ∧ k_ ≠ ad)) ?hr ?hp (fun _ hk => hk) ((show ∀ k_, eI.heap.size ≤ k_ → (fun k_ => ((P0_1_ k_ ∨ P0_2_ k_) ∨ w.heap.size ≤ k_) ∧ k_ ≠ ad) k_ from fun k_ hk => ⟨(.inr (Nat.le_trans (below_size (bu1 HB.out aj.out)) hk)), Kd.freshB (g := ad) (o := .cells #[.bool a0_0, .slice A0_1 l0_1.length c0_1, .slice A0_2 l0_2.length c0_2] 67 (0, 0)) (ku ab.out) k_ hk⟩) _ (Nat.le_refl _)) (Below.refl _ _) (Nat.le_refl _) (by simp) ?_; (case hd => rfl); (case hg => rfl); (case hr => first | (go_simp; done) | (go_simp; rfl)); (case hp => exact (Reps.c3 (show Kd.FK k67 _ _ (⟨a0_0, l0_1, l0_2⟩ : S67) [.bool a0_0, .slice A0_1 l0_1.length c0_1, .slice A0_2 l0_2.length c0_2] from (k67_mkF _ _ (⟨a0_0, l0_1, l0_2⟩ : S67) (Kd.V_reads' (vy ((fun k_ => ((P0_1_ k_ ∨ P0_2_ k_) ∨ w.heap.size ≤ k_) ∧ k_ ≠ ad)) ak.out)).2.1 (Kd.V_F (vy ((fun k_ => ((P0_1_ k_ ∨ P0_2_ k_) ∨ w.heap.size ≤ k_) ∧ k_ ≠ ad)) ak.out)) (Kd.V_reads' (vy ((fun k_ => ((P0_1_ k_ ∨ P0_2_ k_) ∨ w.heap.size ≤ k_) ∧ k_ ≠ ad)) al.out)).2.1 (Kd.V_F (vy ((fun k_ => ((P0_1_ k_ ∨ P0_2_ k_) ∨ w.heap.size ≤ k_) ∧ k_ ≠ ad)) al.out)))) (Reps.none _ _))); intro cl cc bR hb hg_ hnew_; clear hg_ hnew_; (first | rw [← bE.out] at bR | (simp only [Int.reduceToNat] at bR; rw [← bE.out] at bR)); replace ak := el ak bR hb; replace al := el al bR hb; have ag := am (Kd.N_lower bR (below_size (bu1 HB.out aj.out))); replace ab := kb ab hb; replace HB := be1 HB aj hb; clear hb bR; obtain ⟨aC, aD, dw⟩ := Kd.N_slice ag.out; subst dw) | ((with_reducible refine gate_callee (f := 86) rfl ?_); refine goesL_ (some 11) rfl rfl Try.func86 (by kernel_rfl) rfl #[.int .i64 30, .slice aC an.length aD] rfl lu ?_; (with_reducible refine (codewrightlaw02_long.calls k 30 _ _ an false _ ?side1 ?side2 A2.out).mono ?_); (case side1 => exact cu (Kd.N_reads' ag.out).2.2); (case side2 => exact (Kd.N_reads' ag.out).2.1); rintro e w' ⟨rfl, ⟨nd, rfl⟩⟩; refine ⟨_, rfl, ?_⟩; (try (rw [drewN_self cc]; generalize hq_ : World.drewN cc _ = cc; have bH : Aside0 (Kd.V (Kd.int .u32) 48 cc w.heap.size (fun k_ => ((P0_1_ k_ ∨ P0_2_ k_) ∨ w.heap.size ≤ k_) ∧ some k_ ≠ (.slice aC an.length aD : Value).ownBlock ∧ k_ ≠ ad) (.slice A0_1 l0_1.length c0_1) l0_1) := ⟨by rw [← hq_]; exact vz ak.out⟩; have bI : Aside0 (Kd.V (Kd.int .u32) 48 cc w.heap.size (fun k_ => ((P0_1_ k_ ∨ P0_2_ k_) ∨ w.heap.size ≤ k_) ∧ some k_ ≠ (.slice aC an.length aD : Value).ownBlock ∧ k_ ≠ ad) (.slice A0_2 l0_2.length c0_2) l0_2) := ⟨by rw [← hq_]; exact vz al.out⟩; have bJ : Aside0 (Kd.N k67 67 cc w.heap.size (fun k_ => ((P0_1_ k_ ∨ P0_2_ k_) ∨ w.heap.size ≤ k_) ∧ k_ ≠ ad) (.slice aC an.length aD) an) := ⟨by rw [← hq_]; exact (nu ag.out)⟩; have bK : Aside0 (cc.heap[ad]? = some (.cells #[.bool a0_0, .slice A0_1 l0_1.length c0_1, .slice A0_2 l0_2.length c0_2] 67 (0, 0))) := ⟨by rw [← hq_]; exact (ku ab.out)⟩; have bL : Aside0 (Below w.heap.size w cc) := ⟨by rw [← hq_]; exact (bu1 HB.out aj.out)⟩; clear ak al ag ab HB hq_; have ak := bH; have al := bI; have ag := bJ; have ab := bK; have HB := bL; clear bH bI bJ bK bL)); obtain ⟨cM, cN, cO, cP, cQ, cR⟩ := bz ab) | ((with_reducible refine gate_callee (f := 106) rfl ?_); refine goesL_ (some 13) rfl rfl Try.func106 (by kernel_rfl) rfl #[.agg #[.bool a0_0, .slice A0_1 l0_1.length c0_1, .slice A0_2 l0_2.length c0_2]] rfl lu ?_; (with_reducible refine (rational_Floor.calls k a0_0 (fun k_ => ((((P0_1_ k_ ∨ P0_2_ k_) ∨ w.heap.size ≤ k_) ∧ k_ ≠ ad) ∧ some k_ ≠ (.slice aC an.length aD : Value).ownBlock)) _ _ l0_1 (fun k_ => ((((P0_1_ k_ ∨ P0_2_ k_) ∨ w.heap.size ≤ k_) ∧ k_ ≠ ad) ∧ some k_ ≠ (.slice aC an.length aD : Value).ownBlock)) _ _ l0_2 aS aI aJ _ ?side1 ?side2 A9.out).mono ?_); (case side1 => exact vz ak.out); (case side2 => exact vz al.out); rintro e eU ⟨ed, ee, rfl, bj, bq, hb⟩; refine ⟨_, rfl, ?_⟩; replace ak := kv ak hb; replace al := kv al hb; have ah := ar w.heap.size (ok' := fun k_ => ((P0_1_ k_ ∨ P0_2_ k_) ∨ w.heap.size ≤ k_) ∧ some k_ ≠ (.slice aC an.length aD : Value).ownBlock ∧ k_ ≠ ad) bj (fa (fz1 HB aj) (fa (fo ag) (fb ab))); have ai := ar w.heap.size (ok' := fun k_ => ((P0_1_ k_ ∨ P0_2_ k_) ∨ w.heap.size ≤ k_) ∧ some k_ ≠ (.slice aC an.length aD : Value).ownBlock ∧ k_ ≠ ad) bq (fa (fz1 HB aj) (fa (fo ag) (fb ab))); replace ag := kn ag hb; replace ab := kb ab hb; replace HB := be1 HB aj hb; (try clear hb); (try clear hk); (try clear bj); (try clear bq)) | ((with_reducible refine gate_dst (N := 3) rfl ?_); (try (refine gate_guard (by rfl) ?_; dsimp only)); refine box_event ?hg (N := 3) ?hd (cs := #[.bool false, .slice none 0 0, .slice none 0 0]) (t := 67) ?hr ?_; (case hd => rfl); (case hg => rfl); (case hr => first | (go_simp; done) | (go_simp; rfl)); intro ae hg eJ hbox hb; replace ak := ke ak hg hb; replace al := ke al hg hb; replace ag := am (Kd.N_below (Kd.N_elderB (nu ag.out) ae (Nat.le_of_eq hg.symm)) hb); replace ah := ke ah hg hb; replace ai := ke ai hg hb; have ac := am (hbox); have dx := ng hg (bu1 HB.out aj.out); have aq := ng hg (bu1 HB.out aj.out); replace HB := be1 HB aj hb; have bo := nl hg ab; have bM := nr hg ab; replace ab := kb ab hb; clear hb hbox hg; have ef := bM.out; have eg := bo.out; obtain ⟨cS, cT, cU, cV, cW, cX⟩ := bz ac; obtain ⟨aZ, a0, dy⟩ := Kd.V_slice ah.out; subst dy; obtain ⟨a1, a2, dz⟩ := Kd.V_slice ai.out; subst dz) | ((with_reducible refine gate_store (t := 67) (p := 3) rfl ?_); refine store_event (t := 67) (p := 3) (v := ?vo_w26) (w1 := (((eJ.setCell ⟨ae, 0, none⟩ (.bool aS)).setCell ⟨ae, 1, none⟩ (.slice aZ aI.length a0)).setCell ⟨ae, 2, none⟩ (.slice a1 aJ.length a2))) ?hg ?ho ?hn ?hr ?_; (case ho => rfl); (case hg => rfl); (case hn => rfl); (case hr => first | (go_simp; done) | (go_simp; rfl)); intro cd hw; have bH : Aside0 (Kd.V (Kd.int .u32) 48 cd w.heap.size (fun k_ => ((P0_1_ k_ ∨ P0_2_ k_) ∨ w.heap.size ≤ k_) ∧ some k_ ≠ (.slice aC an.length aD : Value).ownBlock ∧ k_ ≠ ad ∧ k_ ≠ ae) (.slice A0_1 l0_1.length c0_1) l0_1) := ⟨(by rw [hw]; exact vf ak.out)⟩; have bI : Aside0 (Kd.V (Kd.int .u32) 48 cd w.heap.size (fun k_ => ((P0_1_ k_ ∨ P0_2_ k_) ∨ w.heap.size ≤ k_) ∧ some k_ ≠ (.slice aC an.length aD : Value).ownBlock ∧ k_ ≠ ad ∧ k_ ≠ ae) (.slice A0_2 l0_2.length c0_2) l0_2) := ⟨(by rw [hw]; exact vf al.out)⟩; have bJ : Aside0 (Kd.N k67 67 cd w.heap.size (fun k_ => ((P0_1_ k_ ∨ P0_2_ k_) ∨ w.heap.size ≤ k_) ∧ k_ ≠ ad ∧ k_ ≠ ae) (.slice aC an.length aD) an) := ⟨(by rw [hw]; exact (by (with_reducible repeat (first | apply Kd.N_alloc | apply Kd.N_drewN | apply Kd.N_drew)); exact Kd.N_mono (Kd.N_far (p := ⟨ae, 2, none⟩) (Kd.N_far (p := ⟨ae, 1, none⟩) (Kd.N_far (p := ⟨ae, 0, none⟩) (Kd.N_mono ag.out (fun k_ hk => (⟨hk, hk.2⟩ : _ ∧ k_ ≠ ae))) (fun _ hk => hk.2) (.bool aS)) (fun _ hk => hk.2) (.slice aZ aI.length a0)) (fun _ hk => hk.2) (.slice a1 aJ.length a2)) (fun _ hk => ⟨hk.1.1.1, ⟨hk.1.1.2, hk.1.2⟩⟩)))⟩; have bK : Aside0 (Kd.V (Kd.int .u32) 48 cd w.heap.size (fun k_ => ((P0_1_ k_ ∨ P0_2_ k_) ∨ w.heap.size ≤ k_) ∧ some k_ ≠ (.slice aC an.length aD : Value).ownBlock ∧ k_ ≠ ad ∧ k_ ≠ ae) (.slice aZ aI.length a0) aI) := ⟨(by rw [hw]; exact vf ah.out)⟩; have bL : Aside0 (Kd.V (Kd.int .u32) 48 cd w.heap.size (fun k_ => ((P0_1_ k_ ∨ P0_2_ k_) ∨ w.heap.size ≤ k_) ∧ some k_ ≠ (.slice aC an.length aD : Value).ownBlock ∧ k_ ≠ ad ∧ k_ ≠ ae) (.slice a1 aJ.length a2) aJ) := ⟨(by rw [hw]; exact vf ai.out)⟩; have bS : Aside0 (cd.heap[ad]? = some (.cells #[.bool a0_0, .slice A0_1 l0_1.length c0_1, .slice A0_2 l0_2.length c0_2] 67 (0, 0))) := ⟨(by rw [hw]; exact (kf bo.out ab.out))⟩; have bT : Aside0 (cd.heap[ae]? = some (.cells #[.bool aS, .slice aZ aI.length a0, .slice a1 aJ.length a2] 67 (0, 0))) := ⟨(by rw [hw]; exact (kp ac.out))⟩; have bU : Aside0 (Below w.heap.size w cd) := ⟨(by rw [hw]; exact (bu2 HB.out aj.out aq.out))⟩; clear hw ak al ag ah ai ab ac HB; have ak := bH; have al := bI; have ag := bJ; have ah := bK; have ai := bL; have ab := bS; have ac := bT; have HB := bU; clear bH bI bJ bK bL bS bT bU; obtain ⟨cY, cZ, c0, c2, c5, c6⟩ := bz ab) | ((with_reducible refine gate_callee (f := 107) rfl ?_); refine goesL_ (some 16) rfl rfl Try.func107 (by kernel_rfl) rfl #[.agg #[.bool a0_0, .slice A0_1 l0_1.length c0_1, .slice A0_2 l0_2.length c0_2]] rfl lu ?_; (with_reducible refine (rational_Whole.calls k a0_0 (fun k_ => (((P0_1_ k_ ∨ P0_2_ k_) ∨ w.heap.size ≤ k_) ∧ (some k_ ≠ (.slice aC an.length aD : Value).ownBlock ∧ (k_ ≠ ad ∧ k_ ≠ ae)))) _ _ l0_1 (fun k_ => (((P0_1_ k_ ∨ P0_2_ k_) ∨ w.heap.size ≤ k_) ∧ (some k_ ≠ (.slice aC an.length aD : Value).ownBlock ∧ (k_ ≠ ad ∧ k_ ≠ ae)))) _ _ l0_2 aX a7 _ ?side1 ?side2 eF.out).mono ?_); (case side1 => exact vz ak.out); (case side2 => exact vz al.out); rintro e eV ⟨bV, rfl, bj, hb⟩; refine ⟨_, rfl, ?_⟩; replace ak := kv ak hb; replace al := kv al hb; replace ah := kv ah hb; replace ai := kv ai hb; have au := ar w.heap.size (ok' := fun k_ => ((P0_1_ k_ ∨ P0_2_ k_) ∨ w.heap.size ≤ k_) ∧ some k_ ≠ (.slice aC an.length aD : Value).ownBlock ∧ k_ ≠ ad ∧ k_ ≠ ae) bj (fa (fz2 HB aj aq) (fa (fo ag) (fa (fb ab) (fb ac)))); replace ag := kn ag hb; replace ab := kb ab hb; replace ac := kb ac hb; replace HB := be2 HB aj aq hb; (try clear hb); (try clear hk); (try clear bj); obtain ⟨c7, da, db, dc, dd, de⟩ := bz ab) | ((with_reducible refine gate_callee (f := 108) rfl ?_); refine goesL_ (some 21) rfl rfl Try.func108 (by kernel_rfl) rfl #[.agg #[.bool a0_0, .slice A0_1 l0_1.length c0_1, .slice A0_2 l0_2.length c0_2]] rfl lu ?_; (with_reducible refine (codewrightref02_Whole.calls k a0_0 (fun k_ => (((P0_1_ k_ ∨ P0_2_ k_) ∨ w.heap.size ≤ k_) ∧ (some k_ ≠ (.slice aC an.length aD : Value).ownBlock ∧ (k_ ≠ ad ∧ k_ ≠ ae)))) _ _ l0_1 (fun k_ => (((P0_1_ k_ ∨ P0_2_ k_) ∨ w.heap.size ≤ k_) ∧ (some k_ ≠ (.slice aC an.length aD : Value).ownBlock ∧ (k_ ≠ ad ∧ k_ ≠ ae)))) _ _ l0_2 aY ba _ ?side1 ?side2 eG.out).mono ?_); (case side1 => exact vz ak.out); (case side2 => exact vz al.out); rintro e eW ⟨bW, rfl, bj, hb⟩; refine ⟨_, rfl, ?_⟩; replace ak := kv ak hb; replace al := kv al hb; replace ah := kv ah hb; replace ai := kv ai hb; replace au := kv au hb; have ay := ar w.heap.size (ok' := fun k_ => ((P0_1_ k_ ∨ P0_2_ k_) ∨ w.heap.size ≤ k_) ∧ some k_ ≠ (.slice aC an.length aD : Value).ownBlock ∧ k_ ≠ ad ∧ k_ ≠ ae) bj (fa (fz2 HB aj aq) (fa (fo ag) (fa (fb ab) (fb ac)))); replace ag := kn ag hb; replace ab := kb ab hb; replace ac := kb ac hb; replace HB := be2 HB aj aq hb; (try clear hb); (try clear hk); (try clear bj)) | ((with_reducible refine gate_callee (f := 99) rfl ?_); refine goesL_ (some 24) rfl rfl Try.func99 (by kernel_rfl) rfl #[.int .i64 1] rfl lu ?_; (with_reducible refine (codewrightref02_Int.calls k 1 av ao ap _ eH.out).mono ?_); rintro e eX ⟨eh, ei, rfl, bj, bq, hb⟩; refine ⟨_, rfl, ?_⟩; replace ak := kv ak hb; replace al := kv al hb; replace ah := kv ah hb; replace ai := kv ai hb; replace au := kv au hb; replace ay := kv ay hb; have aw := ar0 w.heap.size (ok' := fun k_ => ((P0_1_ k_ ∨ P0_2_ k_) ∨ w.heap.size ≤ k_) ∧ some k_ ≠ (.slice aC an.length aD : Value).ownBlock ∧ k_ ≠ ad ∧ k_ ≠ ae) bj (fa (fz2 HB aj aq) (fa (fo ag) (fa (fb ab) (fb ac)))); have ax := ar0 w.heap.size (ok' := fun k_ => ((P0_1_ k_ ∨ P0_2_ k_) ∨ w.heap.size ≤ k_) ∧ some k_ ≠ (.slice aC an.length aD : Value).ownBlock ∧ k_ ≠ ad ∧ k_ ≠ ae) bq (fa (fz2 HB aj aq) (fa (fo ag) (fa (fb ab) (fb ac)))); replace ag := kn ag hb; replace ab := kb ab hb; replace ac := kb ac hb; replace HB := be2 HB aj aq hb; (try clear hb); (try clear hk); (try clear bj); (try clear bq)) | ((with_reducible refine gate_dst (N := 8) rfl ?_); (try (refine gate_guard (by rfl) ?_; dsimp only)); refine box_event ?hg (N := 8) ?hd (cs := #[.bool false, .slice none 0 0, .slice none 0 0]) (t := 67) ?hr ?_; (case hd => rfl); (case hg => rfl); (case hr => first | (go_simp; done) | (go_simp; rfl)); intro aa hg a8 hbox hb; replace ak := ke ak hg hb; replace al := ke al hg hb; replace ag := am (Kd.N_below (Kd.N_elderB (nu ag.out) aa (Nat.le_of_eq hg.symm)) hb); replace ah := ke ah hg hb; replace ai := ke ai hg hb; replace au := ke au hg hb; replace ay := ke ay hg hb; replace aw := ke aw hg hb; replace ax := ke ax hg hb; have af := am (hbox); have dA := ng hg (bu2 HB.out aj.out aq.out); have az := ng hg (bu2 HB.out aj.out aq.out); replace HB := be2 HB aj aq hb; have aQ := nl hg ab; have bN := nr hg ab; replace ab := kb ab hb; have aR := nl hg ac; have bO := nr hg ac; replace ac := kb ac hb; clear hb hbox hg; have ej := bN.out; have ek := aQ.out; have em := bO.out; have eo := aR.out; obtain ⟨df, dg, dh, di, dj, dk⟩ := bz af; obtain ⟨aK, aL, dB⟩ := Kd.V_slice aw.out; subst dB; obtain ⟨aM, aN, dC⟩ := Kd.V_slice ax.out; subst dC))
  (try simp only [Act.put, List.setIfInBounds_toArray, List.set_cons_zero, List.set_cons_succ])
  go_cut [44] (fun eK wc => ∃ (kq : Nat) (bF : Bool), eK = .bool bF ∧ Aside0 (codewrightlaw02_RationalFloors.j0 kq aX a7 aY ba bF a0_0 l0_1 l0_2 = some r) ∧ Aside0 (kq ≤ k) ∧ Aside0 (Kd.V (Kd.int .u32) 48 wc w.heap.size (fun k_ => ((P0_1_ k_ ∨ P0_2_ k_) ∨ w.heap.size ≤ k_) ∧ k_ ≠ ad ∧ k_ ≠ ae ∧ k_ ≠ aa) bV aX) ∧ Aside0 (Kd.V (Kd.int .u32) 48 wc w.heap.size (fun k_ => ((P0_1_ k_ ∨ P0_2_ k_) ∨ w.heap.size ≤ k_) ∧ k_ ≠ ad ∧ k_ ≠ ae ∧ k_ ≠ aa) bW aY) ∧ Aside0 (Kd.V (Kd.int .u32) 48 wc w.heap.size (fun k_ => ((P0_1_ k_ ∨ P0_2_ k_) ∨ w.heap.size ≤ k_) ∧ k_ ≠ ad ∧ k_ ≠ ae ∧ k_ ≠ aa) (.slice A0_1 l0_1.length c0_1) l0_1) ∧ Aside0 (Kd.V (Kd.int .u32) 48 wc w.heap.size (fun k_ => ((P0_1_ k_ ∨ P0_2_ k_) ∨ w.heap.size ≤ k_) ∧ k_ ≠ ad ∧ k_ ≠ ae ∧ k_ ≠ aa) (.slice A0_2 l0_2.length c0_2) l0_2) ∧ Aside0 (Kd.V (Kd.int .u32) 48 wc w.heap.size (fun k_ => ((P0_1_ k_ ∨ P0_2_ k_) ∨ w.heap.size ≤ k_) ∧ k_ ≠ ad ∧ k_ ≠ ae ∧ k_ ≠ aa) (.slice aZ aI.length a0) aI) ∧ Aside0 (Kd.V (Kd.int .u32) 48 wc w.heap.size (fun k_ => ((P0_1_ k_ ∨ P0_2_ k_) ∨ w.heap.size ≤ k_) ∧ k_ ≠ ad ∧ k_ ≠ ae ∧ k_ ≠ aa) (.slice a1 aJ.length a2) aJ) ∧ Aside0 (Kd.V (Kd.int .u32) 48 wc w.heap.size (fun k_ => ((P0_1_ k_ ∨ P0_2_ k_) ∨ w.heap.size ≤ k_) ∧ k_ ≠ ad ∧ k_ ≠ ae ∧ k_ ≠ aa) (.slice aK ao.length aL) ao) ∧ Aside0 (Kd.V (Kd.int .u32) 48 wc w.heap.size (fun k_ => ((P0_1_ k_ ∨ P0_2_ k_) ∨ w.heap.size ≤ k_) ∧ k_ ≠ ad ∧ k_ ≠ ae ∧ k_ ≠ aa) (.slice aM ap.length aN) ap) ∧ Aside0 (wc.heap[ad]? = some (.cells #[.bool a0_0, (.slice A0_1 l0_1.length c0_1), (.slice A0_2 l0_2.length c0_2)] 67 (0, 0))) ∧ Aside0 (wc.heap[ae]? = some (.cells #[.bool aS, (.slice aZ aI.length a0), (.slice a1 aJ.length a2)] 67 (0, 0))) ∧ Aside0 (wc.heap[aa]? = some (.cells #[.bool av, (.slice aK ao.length aL), (.slice aM ap.length aN)] 67 (0, 0))) ∧ Aside0 (Below w.heap.size w wc))
  case first =>
   have H := ci.out
   clear ci
   obtain ⟨⟨bk, bl, bm⟩, dD, H⟩ := bs H
   (try dsimp -simprocs only at H)
   obtain ⟨bG, dE, H⟩ := bs H
   (try dsimp -simprocs only at H)
   by_cases cm : bG = true
   ·
    subst cm
    have H1 : ((rational_Cmp.f k aS aI aJ a0_0 l0_1 l0_2).bind fun a9 => (if a9 > 0 then (codewrightlaw02_RationalFloors.j0 k aX a7 aY ba true a0_0 l0_1 l0_2) else ((rational_Add.f k (([(⟨aS, aI, aJ⟩ : S67), (⟨av, ao, ap⟩ : S67)] : List (S67)))).bind fun aU => ((rational_Cmp.f k aU.1 aU.2.1 aU.2.2 a0_0 l0_1 l0_2).bind fun bd => (codewrightlaw02_RationalFloors.j0 k aX a7 aY ba (decide (bd ≤ 0)) a0_0 l0_1 l0_2))))) = some r := by rw [if_pos rfl] at H; exact H
    clear H
    have H := H1
    clear H1
    obtain ⟨a9, ep, H⟩ := bs H
    (try dsimp -simprocs only at H)
    by_cases cj : a9 > 0
    ·
     rw [if_pos cj] at H
     have bP : decide (0 < a9) = true := decide_eq_true cj
     clear cj
     (first | rw [bP] | rw [c42b1] | (simp only [i64_w, i32_w]; rw [bP]) | skip)
     have H' := am H
     clear H
     try go_wp2
     have bH : Aside0 (Kd.V (Kd.int .u32) 48 (((a8.setCell ⟨aa, 0, none⟩ (.bool av)).setCell ⟨aa, 1, none⟩ (.slice aK ao.length aL)).setCell ⟨aa, 2, none⟩ (.slice aM ap.length aN)) w.heap.size (fun k_ => ((P0_1_ k_ ∨ P0_2_ k_) ∨ w.heap.size ≤ k_) ∧ some k_ ≠ (.slice aC an.length aD : Value).ownBlock ∧ k_ ≠ ad ∧ k_ ≠ ae ∧ k_ ≠ aa) (.slice A0_1 l0_1.length c0_1) l0_1) := ⟨by exact vf ak.out⟩
     have bI : Aside0 (Kd.V (Kd.int .u32) 48 (((a8.setCell ⟨aa, 0, none⟩ (.bool av)).setCell ⟨aa, 1, none⟩ (.slice aK ao.length aL)).setCell ⟨aa, 2, none⟩ (.slice aM ap.length aN)) w.heap.size (fun k_ => ((P0_1_ k_ ∨ P0_2_ k_) ∨ w.heap.size ≤ k_) ∧ some k_ ≠ (.slice aC an.length aD : Value).ownBlock ∧ k_ ≠ ad ∧ k_ ≠ ae ∧ k_ ≠ aa) (.slice A0_2 l0_2.length c0_2) l0_2) := ⟨by exact vf al.out⟩
     have bJ : Aside0 (Kd.N k67 67 (((a8.setCell ⟨aa, 0, none⟩ (.bool av)).setCell ⟨aa, 1, none⟩ (.slice aK ao.length aL)).setCell ⟨aa, 2, none⟩ (.slice aM ap.length aN)) w.heap.size (fun k_ => ((P0_1_ k_ ∨ P0_2_ k_) ∨ w.heap.size ≤ k_) ∧ k_ ≠ ad ∧ k_ ≠ ae ∧ k_ ≠ aa) (.slice aC an.length aD) an) := ⟨by (with_reducible repeat (first | apply Kd.N_alloc | apply Kd.N_drewN | apply Kd.N_drew)); exact Kd.N_mono (Kd.N_far (p := ⟨aa, 2, none⟩) (Kd.N_far (p := ⟨aa, 1, none⟩) (Kd.N_far (p := ⟨aa, 0, none⟩) (Kd.N_mono ag.out (fun k_ hk => (⟨hk, hk.2⟩ : _ ∧ k_ ≠ aa))) (fun _ hk => hk.2) (.bool av)) (fun _ hk => hk.2) (.slice aK ao.length aL)) (fun _ hk => hk.2) (.slice aM ap.length aN)) (fun _ hk => ⟨hk.1.1.1, ⟨hk.1.1.2.1, ⟨hk.1.1.2.2, hk.1.2⟩⟩⟩)⟩
     have bK : Aside0 (Kd.V (Kd.int .u32) 48 (((a8.setCell ⟨aa, 0, none⟩ (.bool av)).setCell ⟨aa, 1, none⟩ (.slice aK ao.length aL)).setCell ⟨aa, 2, none⟩ (.slice aM ap.length aN)) w.heap.size (fun k_ => ((P0_1_ k_ ∨ P0_2_ k_) ∨ w.heap.size ≤ k_) ∧ some k_ ≠ (.slice aC an.length aD : Value).ownBlock ∧ k_ ≠ ad ∧ k_ ≠ ae ∧ k_ ≠ aa) (.slice aZ aI.length a0) aI) := ⟨by exact vf ah.out⟩
     have bL : Aside0 (Kd.V (Kd.int .u32) 48 (((a8.setCell ⟨aa, 0, none⟩ (.bool av)).setCell ⟨aa, 1, none⟩ (.slice aK ao.length aL)).setCell ⟨aa, 2, none⟩ (.slice aM ap.length aN)) w.heap.size (fun k_ => ((P0_1_ k_ ∨ P0_2_ k_) ∨ w.heap.size ≤ k_) ∧ some k_ ≠ (.slice aC an.length aD : Value).ownBlock ∧ k_ ≠ ad ∧ k_ ≠ ae ∧ k_ ≠ aa) (.slice a1 aJ.length a2) aJ) := ⟨by exact vf ai.out⟩
     have bS : Aside0 (Kd.V (Kd.int .u32) 48 (((a8.setCell ⟨aa, 0, none⟩ (.bool av)).setCell ⟨aa, 1, none⟩ (.slice aK ao.length aL)).setCell ⟨aa, 2, none⟩ (.slice aM ap.length aN)) w.heap.size (fun k_ => ((P0_1_ k_ ∨ P0_2_ k_) ∨ w.heap.size ≤ k_) ∧ some k_ ≠ (.slice aC an.length aD : Value).ownBlock ∧ k_ ≠ ad ∧ k_ ≠ ae ∧ k_ ≠ aa) bV aX) := ⟨by exact vf au.out⟩
     have bT : Aside0 (Kd.V (Kd.int .u32) 48 (((a8.setCell ⟨aa, 0, none⟩ (.bool av)).setCell ⟨aa, 1, none⟩ (.slice aK ao.length aL)).setCell ⟨aa, 2, none⟩ (.slice aM ap.length aN)) w.heap.size (fun k_ => ((P0_1_ k_ ∨ P0_2_ k_) ∨ w.heap.size ≤ k_) ∧ some k_ ≠ (.slice aC an.length aD : Value).ownBlock ∧ k_ ≠ ad ∧ k_ ≠ ae ∧ k_ ≠ aa) bW aY) := ⟨by exact vf ay.out⟩
     have bU : Aside0 (Kd.V (Kd.int .u32) 48 (((a8.setCell ⟨aa, 0, none⟩ (.bool av)).setCell ⟨aa, 1, none⟩ (.slice aK ao.length aL)).setCell ⟨aa, 2, none⟩ (.slice aM ap.length aN)) w.heap.size (fun k_ => ((P0_1_ k_ ∨ P0_2_ k_) ∨ w.heap.size ≤ k_) ∧ some k_ ≠ (.slice aC an.length aD : Value).ownBlock ∧ k_ ≠ ad ∧ k_ ≠ ae ∧ k_ ≠ aa) (.slice aK ao.length aL) ao) := ⟨by exact vf aw.out⟩
     have bY : Aside0 (Kd.V (Kd.int .u32) 48 (((a8.setCell ⟨aa, 0, none⟩ (.bool av)).setCell ⟨aa, 1, none⟩ (.slice aK ao.length aL)).setCell ⟨aa, 2, none⟩ (.slice aM ap.length aN)) w.heap.size (fun k_ => ((P0_1_ k_ ∨ P0_2_ k_) ∨ w.heap.size ≤ k_) ∧ some k_ ≠ (.slice aC an.length aD : Value).ownBlock ∧ k_ ≠ ad ∧ k_ ≠ ae ∧ k_ ≠ aa) (.slice aM ap.length aN) ap) := ⟨by exact vf ax.out⟩
     have bZ : Aside0 ((((a8.setCell ⟨aa, 0, none⟩ (.bool av)).setCell ⟨aa, 1, none⟩ (.slice aK ao.length aL)).setCell ⟨aa, 2, none⟩ (.slice aM ap.length aN)).heap[ad]? = some (.cells #[.bool a0_0, .slice A0_1 l0_1.length c0_1, .slice A0_2 l0_2.length c0_2] 67 (0, 0))) := ⟨by (with_reducible repeat (first | refine blk_drewN ?_ _ | refine blk_drew ?_ | refine blk_alloc ?_ _)); refine blk_far ?_ aQ.out _; (with_reducible repeat (first | refine blk_drewN ?_ _ | refine blk_drew ?_ | refine blk_alloc ?_ _)); refine blk_far ?_ aQ.out _; (with_reducible repeat (first | refine blk_drewN ?_ _ | refine blk_drew ?_ | refine blk_alloc ?_ _)); refine blk_far ?_ aQ.out _; (with_reducible repeat (first | refine blk_drewN ?_ _ | refine blk_drew ?_ | refine blk_alloc ?_ _)); exact ab.out⟩
     have br : Aside0 ((((a8.setCell ⟨aa, 0, none⟩ (.bool av)).setCell ⟨aa, 1, none⟩ (.slice aK ao.length aL)).setCell ⟨aa, 2, none⟩ (.slice aM ap.length aN)).heap[ae]? = some (.cells #[.bool aS, .slice aZ aI.length a0, .slice a1 aJ.length a2] 67 (0, 0))) := ⟨by (with_reducible repeat (first | refine blk_drewN ?_ _ | refine blk_drew ?_ | refine blk_alloc ?_ _)); refine blk_far ?_ aR.out _; (with_reducible repeat (first | refine blk_drewN ?_ _ | refine blk_drew ?_ | refine blk_alloc ?_ _)); refine blk_far ?_ aR.out _; (with_reducible repeat (first | refine blk_drewN ?_ _ | refine blk_drew ?_ | refine blk_alloc ?_ _)); refine blk_far ?_ aR.out _; (with_reducible repeat (first | refine blk_drewN ?_ _ | refine blk_drew ?_ | refine blk_alloc ?_ _)); exact ac.out⟩
     have bv : Aside0 ((((a8.setCell ⟨aa, 0, none⟩ (.bool av)).setCell ⟨aa, 1, none⟩ (.slice aK ao.length aL)).setCell ⟨aa, 2, none⟩ (.slice aM ap.length aN)).heap[aa]? = some (.cells #[.bool av, .slice aK ao.length aL, .slice aM ap.length aN] 67 (0, 0))) := ⟨by (with_reducible repeat (first | refine blk_drewN ?_ _ | refine blk_drew ?_ | refine blk_alloc ?_ _)); refine blk_put (cs := #[.bool av, .slice aK ao.length aL, .slice none 0 0]) ?_ 2 _ rfl; (with_reducible repeat (first | refine blk_drewN ?_ _ | refine blk_drew ?_ | refine blk_alloc ?_ _)); refine blk_put (cs := #[.bool av, .slice none 0 0, .slice none 0 0]) ?_ 1 _ rfl; (with_reducible repeat (first | refine blk_drewN ?_ _ | refine blk_drew ?_ | refine blk_alloc ?_ _)); refine blk_put (cs := #[.bool false, .slice none 0 0, .slice none 0 0]) ?_ 0 _ rfl; (with_reducible repeat (first | refine blk_drewN ?_ _ | refine blk_drew ?_ | refine blk_alloc ?_ _)); exact af.out⟩
     have bw : Aside0 (Below w.heap.size w (((a8.setCell ⟨aa, 0, none⟩ (.bool av)).setCell ⟨aa, 1, none⟩ (.slice aK ao.length aL)).setCell ⟨aa, 2, none⟩ (.slice aM ap.length aN))) := ⟨by repeat (first | (with_reducible first | exact HB.out | apply below_alloc | apply pw_below_drewN | apply below_drew1 | refine below_set ?_ aj.out | refine below_set ?_ aq.out | refine below_set ?_ az.out) | exact HB.out)⟩
     (try clear ak)
     (try clear al)
     (try clear ag)
     (try clear ah)
     (try clear ai)
     (try clear au)
     (try clear ay)
     (try clear aw)
     (try clear ax)
     (try clear ab)
     (try clear ac)
     (try clear af)
     (try clear HB)
     generalize (((a8.setCell ⟨aa, 0, none⟩ (.bool av)).setCell ⟨aa, 1, none⟩ (.slice aK ao.length aL)).setCell ⟨aa, 2, none⟩ (.slice aM ap.length aN)) = eL at bH bI bJ bK bL bS bT bU bY bZ br bv bw ⊢
     have ak := bH
     have al := bI
     have ag := bJ
     have ah := bK
     have ai := bL
     have au := bS
     have ay := bT
     have aw := bU
     have ax := bY
     have ab := bZ
     have ac := br
     have af := bv
     have HB := bw
     clear bH bI bJ bK bL bS bT bU bY bZ br bv bw
     replace ak := am (Kd.V_drew ak.out)
     replace al := am (Kd.V_drew al.out)
     replace ag := am (Kd.N_drew ag.out)
     replace ah := am (Kd.V_drew ah.out)
     replace ai := am (Kd.V_drew ai.out)
     replace au := am (Kd.V_drew au.out)
     replace ay := am (Kd.V_drew ay.out)
     replace aw := am (Kd.V_drew aw.out)
     replace ax := am (Kd.V_drew ax.out)
     replace ab := am (blk_drew ab.out)
     replace ac := am (blk_drew ac.out)
     replace af := am (blk_drew af.out)
     replace HB := am (below_drew1 HB.out)
     refine start_ (n := 20) (S := fun w' => w'.cell? ⟨ae, 0, none⟩ = some (.bool aS) ∧ w'.cell? ⟨ae, 1, none⟩ = some (.slice aZ aI.length a0) ∧ w'.cell? ⟨ae, 2, none⟩ = some (.slice a1 aJ.length a2) ∧ w'.cell? ⟨ad, 0, none⟩ = some (.bool a0_0) ∧ w'.cell? ⟨ad, 1, none⟩ = some (.slice A0_1 l0_1.length c0_1) ∧ w'.cell? ⟨ad, 2, none⟩ = some (.slice A0_2 l0_2.length c0_2)) (ds := []) #[false, false, false, false, false, false, false, false, false, false, false, false, false, false, false, false, false, false, false, false] (by kernel_rfl) rfl rfl ⟨bc ac 0, bc ac 1, bc ac 2, bc ab 0, bc ab 1, bc ab 2⟩ (fun hHeld => ?_); refine with_tabW codewrightlaw02_RationalFloors.tab7 codewrightlaw02_RationalFloors.bits7 (fun HT_ HW_ => ?_)
     generalize eL.drew = eY at ak al ag ah ai au ay aw ax ab ac af HB hHeld ⊢
     refine tq 0 (some 25) #[true, false, false, false, false, false, false, false, false, false, false, false, false, false, false, false, false, false, false, false] HT_ HW_ hHeld ?_
     refine tq 1 (some 26) #[true, true, false, false, false, false, false, false, false, false, false, false, false, false, false, false, false, false, false, false] HT_ HW_ hHeld ?_
     refine one_ (i := 2) (N := some 27) #[true, true, true, false, false, false, false, false, false, false, false, false, false, false, false, false, false, false, false, false] rfl rfl (one_of HT_.out (by kernel_rfl)) (by decide) (fun K hK => ?_)
     refine goes_ Try.func109 (by kernel_rfl) rfl #[.agg #[.bool a0_0, .slice A0_1 l0_1.length c0_1, .slice A0_2 l0_2.length c0_2]] (by rfl) rfl rfl lu ?_
     with_reducible refine (codewrightref02_Floor.calls k a0_0 (fun k_ => (((P0_1_ k_ ∨ P0_2_ k_) ∨ w.heap.size ≤ k_) ∧ (some k_ ≠ (.slice aC an.length aD : Value).ownBlock ∧ (k_ ≠ ad ∧ (k_ ≠ ae ∧ k_ ≠ aa))))) _ _ l0_1 (fun k_ => (((P0_1_ k_ ∨ P0_2_ k_) ∨ w.heap.size ≤ k_) ∧ (some k_ ≠ (.slice aC an.length aD : Value).ownBlock ∧ (k_ ≠ ad ∧ (k_ ≠ ae ∧ k_ ≠ aa))))) _ _ l0_2 bk bl bm _ ?side1 ?side2 dD.out).mono ?_
     (case side1 => exact vz ak.out)
     (case side2 => exact vz al.out)
     rintro e eZ ⟨ce, cf, rfl, bj, bq, hb⟩
     refine ⟨_, rfl, ?_⟩
     replace ak := kv ak hb
     replace al := kv al hb
     replace ah := kv ah hb
     replace ai := kv ai hb
     replace au := kv au hb
     replace ay := kv ay hb
     replace aw := kv aw hb
     replace ax := kv ax hb
     have aO := ar w.heap.size (ok' := fun k_ => ((P0_1_ k_ ∨ P0_2_ k_) ∨ w.heap.size ≤ k_) ∧ some k_ ≠ (.slice aC an.length aD : Value).ownBlock ∧ k_ ≠ ad ∧ k_ ≠ ae ∧ k_ ≠ aa) bj (fa (fz3 HB aj aq az) (fa (fo ag) (fa (fb ab) (fa (fb ac) (fb af)))))
     have aP := ar w.heap.size (ok' := fun k_ => ((P0_1_ k_ ∨ P0_2_ k_) ∨ w.heap.size ≤ k_) ∧ some k_ ≠ (.slice aC an.length aD : Value).ownBlock ∧ k_ ≠ ad ∧ k_ ≠ ae ∧ k_ ≠ aa) bq (fa (fz3 HB aj aq az) (fa (fo ag) (fa (fb ab) (fa (fb ac) (fb af)))))
     replace ag := kn ag hb
     replace ab := kb ab hb
     replace ac := kb ac hb
     replace af := kb af hb
     replace HB := be3 HB aj aq az hb
     (try clear hb)
     (try clear hb2)
     (try clear hk)
     (try clear hi)
     (try clear bj)
     (try clear bq)
     obtain ⟨dF, dG, cn⟩ := Kd.V_slice aO.out
     (first | subst cn | (injection cn with f1_ f2_ f3_; have f4_ := f1_.symm; have f5_ := f3_.symm; clear f1_ f2_ f3_; subst f4_; subst f5_))
     obtain ⟨dH, dI, co⟩ := Kd.V_slice aP.out
     (first | subst co | (injection co with f1_ f2_ f3_; have f4_ := f1_.symm; have f5_ := f3_.symm; clear f1_ f2_ f3_; subst f4_; subst f5_))
     refine hK.out _ _ ⟨bc ac 0, bc ac 1, bc ac 2, bc ab 0, bc ab 1, bc ab 2⟩ (fun hHeld => ?_)
     clear hK K
     refine nq 27 ?_
     refine one_ (i := 3) (N := some 28) #[true, true, true, true, false, false, false, false, false, false, false, false, false, false, false, false, false, false, false, false] rfl rfl (one_of HT_.out (by kernel_rfl)) (by decide) (fun K hK => ?_)
     refine goes_ Try.func83 (by kernel_rfl) rfl #[.agg #[.bool aS, .slice aZ aI.length a0, .slice a1 aJ.length a2], .agg #[.bool bk, .slice dF bl.length dG, .slice dH bm.length dI]] (by rfl) rfl rfl lu ?_
     with_reducible refine (codewrightlaw02_same.calls k aS _ _ aI _ _ aJ bk _ _ bl _ _ bm true _ ?side1 ?side2 ?side3 ?side4 ?side5 ?side6 ?side7 ?side8 dE.out).mono ?_
     (case side1 => exact cu (Kd.V_reads' ah.out).2.2)
     (case side2 => exact (Kd.V_reads' ah.out).2.1)
     (case side3 => exact cu (Kd.V_reads' ai.out).2.2)
     (case side4 => exact (Kd.V_reads' ai.out).2.1)
     (case side5 => exact cu (Kd.V_reads' aO.out).2.2)
     (case side6 => exact (Kd.V_reads' aO.out).2.1)
     (case side7 => exact cu (Kd.V_reads' aP.out).2.2)
     (case side8 => exact (Kd.V_reads' aP.out).2.1)
     rintro e e0 ⟨rfl, hb⟩
     refine ⟨_, rfl, ?_⟩
     replace ak := kv ak hb
     replace al := kv al hb
     replace ag := kn ag hb
     replace ah := kv ah hb
     replace ai := kv ai hb
     replace au := kv au hb
     replace ay := kv ay hb
     replace aw := kv aw hb
     replace ax := kv ax hb
     replace aO := kv aO hb
     replace aP := kv aP hb
     replace ab := kb ab hb
     replace ac := kb ac hb
     replace af := kb af hb
     replace HB := be3 HB aj aq az hb
     (try clear hb)
     (try clear hb2)
     (try clear hk)
     (try clear hi)
     refine hK.out _ _ ⟨bc ac 0, bc ac 1, bc ac 2, bc ab 0, bc ab 1, bc ab 2⟩ (fun hHeld => ?_)
     clear hK K
     refine nq 28 ?_
     refine pq 4 (some 29) #[true, true, true, true, true, false, false, false, false, false, false, false, false, false, false, false, false, false, false, false] HT_ ?_
     refine pq 5 (some 30) #[true, true, true, true, true, true, false, false, false, false, false, false, false, false, false, false, false, false, false, false] HT_ ?_
     refine tq 6 (some 31) #[true, true, true, true, true, true, true, false, false, false, false, false, false, false, false, false, false, false, false, false] HT_ HW_ hHeld ?_
     refine tq 7 (some 32) #[true, true, true, true, true, true, true, true, false, false, false, false, false, false, false, false, false, false, false, false] HT_ HW_ hHeld ?_
     refine one_ (i := 8) (N := some 33) #[true, true, true, true, true, true, true, true, true, false, false, false, false, false, false, false, false, false, false, false] rfl rfl (one_of HT_.out (by kernel_rfl)) (by decide) (fun K hK => ?_)
     refine goes_ Try.func104 (by kernel_rfl) rfl #[.agg #[.bool aS, .slice aZ aI.length a0, .slice a1 aJ.length a2], .agg #[.bool a0_0, .slice A0_1 l0_1.length c0_1, .slice A0_2 l0_2.length c0_2]] (by rfl) rfl rfl lu ?_
     with_reducible refine (rational_Cmp.calls k aS _ _ aI _ _ aJ a0_0 _ _ l0_1 _ _ l0_2 a9 _ ?side1 ?side2 ?side3 ?side4 ?side5 ?side6 ?side7 ?side8 ep.out).mono ?_
     (case side1 => exact cu (Kd.V_reads' ah.out).2.2)
     (case side2 => exact (Kd.V_reads' ah.out).2.1)
     (case side3 => exact cu (Kd.V_reads' ai.out).2.2)
     (case side4 => exact (Kd.V_reads' ai.out).2.1)
     (case side5 => exact cu (Kd.V_reads' ak.out).2.2)
     (case side6 => exact (Kd.V_reads' ak.out).2.1)
     (case side7 => exact cu (Kd.V_reads' al.out).2.2)
     (case side8 => exact (Kd.V_reads' al.out).2.1)
     rintro e e1 ⟨rfl, hb⟩
     refine ⟨_, rfl, ?_⟩
     replace ak := kv ak hb
     replace al := kv al hb
     replace ag := kn ag hb
     replace ah := kv ah hb
     replace ai := kv ai hb
     replace au := kv au hb
     replace ay := kv ay hb
     replace aw := kv aw hb
     replace ax := kv ax hb
     replace aO := kv aO hb
     replace aP := kv aP hb
     replace ab := kb ab hb
     replace ac := kb ac hb
     replace af := kb af hb
     replace HB := be3 HB aj aq az hb
     (try clear hb)
     (try clear hb2)
     (try clear hk)
     (try clear hi)
     refine hK.out _ _ ⟨bc ac 0, bc ac 1, bc ac 2, bc ab 0, bc ab 1, bc ab 2⟩ (fun hHeld => ?_)
     clear hK K
     refine nq 33 ?_
     refine pq 9 (some 34) #[true, true, true, true, true, true, true, true, true, true, false, false, false, false, false, false, false, false, false, false] HT_ ?_
     refine pq 10 (some 35) #[true, true, true, true, true, true, true, true, true, true, true, false, false, false, false, false, false, false, false, false] HT_ ?_
     refine pq 11 (some 36) #[true, true, true, true, true, true, true, true, true, true, true, true, false, false, false, false, false, false, false, false] HT_ ?_
     refine pure_ (i := 12) (N := some 37) (v := undef) (a' := ?_) #[true, true, true, true, true, true, true, true, true, true, true, true, true, false, false, false, false, false, false, false] rfl rfl (any_of HT_.out (by kernel_rfl)) (fun _ _ _ h => h) (Or.inr ⟨by rfl, rfl⟩) ?_ ?_
     rotate_left
     ·
      simp only [Act.put, List.setIfInBounds_toArray, List.set_cons_zero, List.set_cons_succ, i64_w, i32_w]
      rfl
     refine pure_ (i := 13) (N := some 38) (v := undef) (a' := ?_) #[true, true, true, true, true, true, true, true, true, true, true, true, true, true, false, false, false, false, false, false] rfl rfl (any_of HT_.out (by kernel_rfl)) (fun _ _ _ h => h) (Or.inr ⟨by rfl, rfl⟩) ?_ ?_
     rotate_left
     ·
      simp only [Act.put, List.setIfInBounds_toArray, List.set_cons_zero, List.set_cons_succ, i64_w, i32_w]
      rfl
     refine pure_ (i := 14) (N := some 39) (v := undef) (a' := ?_) #[true, true, true, true, true, true, true, true, true, true, true, true, true, true, true, false, false, false, false, false] rfl rfl (any_of HT_.out (by kernel_rfl)) (fun _ _ _ h => h) (Or.inr ⟨by rfl, rfl⟩) ?_ ?_
     rotate_left
     ·
      simp only [Act.put, List.setIfInBounds_toArray, List.set_cons_zero, List.set_cons_succ, i64_w, i32_w]
      rfl
     refine pure_ (i := 15) (N := some 40) (v := undef) (a' := ?_) #[true, true, true, true, true, true, true, true, true, true, true, true, true, true, true, true, false, false, false, false] rfl rfl (any_of HT_.out (by kernel_rfl)) (fun _ _ _ h => h) (Or.inr ⟨by rfl, rfl⟩) ?_ ?_
     rotate_left
     ·
      simp only [Act.put, List.setIfInBounds_toArray, List.set_cons_zero, List.set_cons_succ, i64_w, i32_w]
      rfl
     refine pure_ (i := 16) (N := some 41) (v := undef) (a' := ?_) #[true, true, true, true, true, true, true, true, true, true, true, true, true, true, true, true, true, false, false, false] rfl rfl (any_of HT_.out (by kernel_rfl)) (fun _ _ _ h => h) (Or.inr ⟨by rfl, rfl⟩) ?_ ?_
     rotate_left
     ·
      simp only [Act.put, List.setIfInBounds_toArray, List.set_cons_zero, List.set_cons_succ, i64_w, i32_w]
      rfl
     refine pure_ (i := 17) (N := some 42) (v := undef) (a' := ?_) #[true, true, true, true, true, true, true, true, true, true, true, true, true, true, true, true, true, true, false, false] rfl rfl (any_of HT_.out (by kernel_rfl)) (fun _ _ _ h => h) (Or.inr ⟨by rfl, rfl⟩) ?_ ?_
     rotate_left
     ·
      simp only [Act.put, List.setIfInBounds_toArray, List.set_cons_zero, List.set_cons_succ, i64_w, i32_w]
      rfl
     refine pure_ (i := 18) (N := some 43) (v := undef) (a' := ?_) #[true, true, true, true, true, true, true, true, true, true, true, true, true, true, true, true, true, true, true, false] rfl rfl (any_of HT_.out (by kernel_rfl)) (fun _ _ _ h => h) (Or.inr ⟨by rfl, rfl⟩) ?_ ?_
     rotate_left
     ·
      simp only [Act.put, List.setIfInBounds_toArray, List.set_cons_zero, List.set_cons_succ, i64_w, i32_w]
      rfl
     refine pq 19 (some 44) #[true, true, true, true, true, true, true, true, true, true, true, true, true, true, true, true, true, true, true, true] HT_ ?_
     refine done_ (done_of HT_.out (by kernel_rfl)) ?_
     try go_wp2
     go_meet
     case rel => exact ⟨_, (true), (by first | rfl | (simp; done) | (simp [*]; done)), H', ⟨by first | omega | exact Nat.le_refl _⟩, ⟨by exact vz au.out⟩, ⟨by exact vz ay.out⟩, ⟨by exact vz ak.out⟩, ⟨by exact vz al.out⟩, ⟨by exact vz ah.out⟩, ⟨by exact vz ai.out⟩, ⟨by exact vz aw.out⟩, ⟨by exact vz ax.out⟩, ⟨by (with_reducible repeat (first | refine blk_drewN ?_ _ | refine blk_drew ?_ | refine blk_alloc ?_ _)); exact ab.out⟩, ⟨by (with_reducible repeat (first | refine blk_drewN ?_ _ | refine blk_drew ?_ | refine blk_alloc ?_ _)); exact ac.out⟩, ⟨by (with_reducible repeat (first | refine blk_drewN ?_ _ | refine blk_drew ?_ | refine blk_alloc ?_ _)); exact af.out⟩, ⟨by repeat (first | (with_reducible first | exact HB.out | apply below_alloc | apply pw_below_drewN | apply below_drew1 | refine below_set ?_ aj.out | refine below_set ?_ aq.out | refine below_set ?_ az.out) | exact HB.out)⟩⟩
    ·
     rw [if_neg cj] at H
     have bP : decide (0 < a9) = false := decide_eq_false cj
     clear cj
     (first | rw [bP] | rw [c42b1] | (simp only [i64_w, i32_w]; rw [bP]) | skip)
     obtain ⟨b0, bx⟩ : ∃ y_ : List (S67), y_ = (([(⟨aS, aI, aJ⟩ : S67), (⟨av, ao, ap⟩ : S67)] : List (S67))) := ⟨_, rfl⟩
     replace H : ((rational_Add.f k b0).bind fun aU => ((rational_Cmp.f k aU.1 aU.2.1 aU.2.2 a0_0 l0_1 l0_2).bind fun bd => (codewrightlaw02_RationalFloors.j0 k aX a7 aY ba (decide (bd ≤ 0)) a0_0 l0_1 l0_2))) = some r := by first | (rw [bx]; with_reducible exact H) | (have H2_ := (Option.bind_some _ _).symm.trans H; rw [bx]; with_reducible exact H2_) | (have H2_ := (Option.bind_some _ _).symm.trans H; with_reducible exact H2_) | with_reducible exact H | (rw [bx]; exact H) | exact H
     have b1 := am bx
     clear bx
     obtain ⟨⟨b2, b3, b4⟩, eM, H⟩ := bs H
     (try dsimp -simprocs only at H)
     obtain ⟨bd, eN, H⟩ := bs H
     (try dsimp -simprocs only at H)
     have H' := am H
     clear H
     try go_wp2
     have bH : Aside0 (Kd.V (Kd.int .u32) 48 (((a8.setCell ⟨aa, 0, none⟩ (.bool av)).setCell ⟨aa, 1, none⟩ (.slice aK ao.length aL)).setCell ⟨aa, 2, none⟩ (.slice aM ap.length aN)) w.heap.size (fun k_ => ((P0_1_ k_ ∨ P0_2_ k_) ∨ w.heap.size ≤ k_) ∧ some k_ ≠ (.slice aC an.length aD : Value).ownBlock ∧ k_ ≠ ad ∧ k_ ≠ ae ∧ k_ ≠ aa) (.slice A0_1 l0_1.length c0_1) l0_1) := ⟨by exact vf ak.out⟩
     have bI : Aside0 (Kd.V (Kd.int .u32) 48 (((a8.setCell ⟨aa, 0, none⟩ (.bool av)).setCell ⟨aa, 1, none⟩ (.slice aK ao.length aL)).setCell ⟨aa, 2, none⟩ (.slice aM ap.length aN)) w.heap.size (fun k_ => ((P0_1_ k_ ∨ P0_2_ k_) ∨ w.heap.size ≤ k_) ∧ some k_ ≠ (.slice aC an.length aD : Value).ownBlock ∧ k_ ≠ ad ∧ k_ ≠ ae ∧ k_ ≠ aa) (.slice A0_2 l0_2.length c0_2) l0_2) := ⟨by exact vf al.out⟩
     have bJ : Aside0 (Kd.N k67 67 (((a8.setCell ⟨aa, 0, none⟩ (.bool av)).setCell ⟨aa, 1, none⟩ (.slice aK ao.length aL)).setCell ⟨aa, 2, none⟩ (.slice aM ap.length aN)) w.heap.size (fun k_ => ((P0_1_ k_ ∨ P0_2_ k_) ∨ w.heap.size ≤ k_) ∧ k_ ≠ ad ∧ k_ ≠ ae ∧ k_ ≠ aa) (.slice aC an.length aD) an) := ⟨by (with_reducible repeat (first | apply Kd.N_alloc | apply Kd.N_drewN | apply Kd.N_drew)); exact Kd.N_mono (Kd.N_far (p := ⟨aa, 2, none⟩) (Kd.N_far (p := ⟨aa, 1, none⟩) (Kd.N_far (p := ⟨aa, 0, none⟩) (Kd.N_mono ag.out (fun k_ hk => (⟨hk, hk.2⟩ : _ ∧ k_ ≠ aa))) (fun _ hk => hk.2) (.bool av)) (fun _ hk => hk.2) (.slice aK ao.length aL)) (fun _ hk => hk.2) (.slice aM ap.length aN)) (fun _ hk => ⟨hk.1.1.1, ⟨hk.1.1.2.1, ⟨hk.1.1.2.2, hk.1.2⟩⟩⟩)⟩
     have bK : Aside0 (Kd.V (Kd.int .u32) 48 (((a8.setCell ⟨aa, 0, none⟩ (.bool av)).setCell ⟨aa, 1, none⟩ (.slice aK ao.length aL)).setCell ⟨aa, 2, none⟩ (.slice aM ap.length aN)) w.heap.size (fun k_ => ((P0_1_ k_ ∨ P0_2_ k_) ∨ w.heap.size ≤ k_) ∧ some k_ ≠ (.slice aC an.length aD : Value).ownBlock ∧ k_ ≠ ad ∧ k_ ≠ ae ∧ k_ ≠ aa) (.slice aZ aI.length a0) aI) := ⟨by exact vf ah.out⟩
     have bL : Aside0 (Kd.V (Kd.int .u32) 48 (((a8.setCell ⟨aa, 0, none⟩ (.bool av)).setCell ⟨aa, 1, none⟩ (.slice aK ao.length aL)).setCell ⟨aa, 2, none⟩ (.slice aM ap.length aN)) w.heap.size (fun k_ => ((P0_1_ k_ ∨ P0_2_ k_) ∨ w.heap.size ≤ k_) ∧ some k_ ≠ (.slice aC an.length aD : Value).ownBlock ∧ k_ ≠ ad ∧ k_ ≠ ae ∧ k_ ≠ aa) (.slice a1 aJ.length a2) aJ) := ⟨by exact vf ai.out⟩
     have bS : Aside0 (Kd.V (Kd.int .u32) 48 (((a8.setCell ⟨aa, 0, none⟩ (.bool av)).setCell ⟨aa, 1, none⟩ (.slice aK ao.length aL)).setCell ⟨aa, 2, none⟩ (.slice aM ap.length aN)) w.heap.size (fun k_ => ((P0_1_ k_ ∨ P0_2_ k_) ∨ w.heap.size ≤ k_) ∧ some k_ ≠ (.slice aC an.length aD : Value).ownBlock ∧ k_ ≠ ad ∧ k_ ≠ ae ∧ k_ ≠ aa) bV aX) := ⟨by exact vf au.out⟩
     have bT : Aside0 (Kd.V (Kd.int .u32) 48 (((a8.setCell ⟨aa, 0, none⟩ (.bool av)).setCell ⟨aa, 1, none⟩ (.slice aK ao.length aL)).setCell ⟨aa, 2, none⟩ (.slice aM ap.length aN)) w.heap.size (fun k_ => ((P0_1_ k_ ∨ P0_2_ k_) ∨ w.heap.size ≤ k_) ∧ some k_ ≠ (.slice aC an.length aD : Value).ownBlock ∧ k_ ≠ ad ∧ k_ ≠ ae ∧ k_ ≠ aa) bW aY) := ⟨by exact vf ay.out⟩
     have bU : Aside0 (Kd.V (Kd.int .u32) 48 (((a8.setCell ⟨aa, 0, none⟩ (.bool av)).setCell ⟨aa, 1, none⟩ (.slice aK ao.length aL)).setCell ⟨aa, 2, none⟩ (.slice aM ap.length aN)) w.heap.size (fun k_ => ((P0_1_ k_ ∨ P0_2_ k_) ∨ w.heap.size ≤ k_) ∧ some k_ ≠ (.slice aC an.length aD : Value).ownBlock ∧ k_ ≠ ad ∧ k_ ≠ ae ∧ k_ ≠ aa) (.slice aK ao.length aL) ao) := ⟨by exact vf aw.out⟩
     have bY : Aside0 (Kd.V (Kd.int .u32) 48 (((a8.setCell ⟨aa, 0, none⟩ (.bool av)).setCell ⟨aa, 1, none⟩ (.slice aK ao.length aL)).setCell ⟨aa, 2, none⟩ (.slice aM ap.length aN)) w.heap.size (fun k_ => ((P0_1_ k_ ∨ P0_2_ k_) ∨ w.heap.size ≤ k_) ∧ some k_ ≠ (.slice aC an.length aD : Value).ownBlock ∧ k_ ≠ ad ∧ k_ ≠ ae ∧ k_ ≠ aa) (.slice aM ap.length aN) ap) := ⟨by exact vf ax.out⟩
     have bZ : Aside0 ((((a8.setCell ⟨aa, 0, none⟩ (.bool av)).setCell ⟨aa, 1, none⟩ (.slice aK ao.length aL)).setCell ⟨aa, 2, none⟩ (.slice aM ap.length aN)).heap[ad]? = some (.cells #[.bool a0_0, .slice A0_1 l0_1.length c0_1, .slice A0_2 l0_2.length c0_2] 67 (0, 0))) := ⟨by (with_reducible repeat (first | refine blk_drewN ?_ _ | refine blk_drew ?_ | refine blk_alloc ?_ _)); refine blk_far ?_ aQ.out _; (with_reducible repeat (first | refine blk_drewN ?_ _ | refine blk_drew ?_ | refine blk_alloc ?_ _)); refine blk_far ?_ aQ.out _; (with_reducible repeat (first | refine blk_drewN ?_ _ | refine blk_drew ?_ | refine blk_alloc ?_ _)); refine blk_far ?_ aQ.out _; (with_reducible repeat (first | refine blk_drewN ?_ _ | refine blk_drew ?_ | refine blk_alloc ?_ _)); exact ab.out⟩
     have br : Aside0 ((((a8.setCell ⟨aa, 0, none⟩ (.bool av)).setCell ⟨aa, 1, none⟩ (.slice aK ao.length aL)).setCell ⟨aa, 2, none⟩ (.slice aM ap.length aN)).heap[ae]? = some (.cells #[.bool aS, .slice aZ aI.length a0, .slice a1 aJ.length a2] 67 (0, 0))) := ⟨by (with_reducible repeat (first | refine blk_drewN ?_ _ | refine blk_drew ?_ | refine blk_alloc ?_ _)); refine blk_far ?_ aR.out _; (with_reducible repeat (first | refine blk_drewN ?_ _ | refine blk_drew ?_ | refine blk_alloc ?_ _)); refine blk_far ?_ aR.out _; (with_reducible repeat (first | refine blk_drewN ?_ _ | refine blk_drew ?_ | refine blk_alloc ?_ _)); refine blk_far ?_ aR.out _; (with_reducible repeat (first | refine blk_drewN ?_ _ | refine blk_drew ?_ | refine blk_alloc ?_ _)); exact ac.out⟩
     have bv : Aside0 ((((a8.setCell ⟨aa, 0, none⟩ (.bool av)).setCell ⟨aa, 1, none⟩ (.slice aK ao.length aL)).setCell ⟨aa, 2, none⟩ (.slice aM ap.length aN)).heap[aa]? = some (.cells #[.bool av, .slice aK ao.length aL, .slice aM ap.length aN] 67 (0, 0))) := ⟨by (with_reducible repeat (first | refine blk_drewN ?_ _ | refine blk_drew ?_ | refine blk_alloc ?_ _)); refine blk_put (cs := #[.bool av, .slice aK ao.length aL, .slice none 0 0]) ?_ 2 _ rfl; (with_reducible repeat (first | refine blk_drewN ?_ _ | refine blk_drew ?_ | refine blk_alloc ?_ _)); refine blk_put (cs := #[.bool av, .slice none 0 0, .slice none 0 0]) ?_ 1 _ rfl; (with_reducible repeat (first | refine blk_drewN ?_ _ | refine blk_drew ?_ | refine blk_alloc ?_ _)); refine blk_put (cs := #[.bool false, .slice none 0 0, .slice none 0 0]) ?_ 0 _ rfl; (with_reducible repeat (first | refine blk_drewN ?_ _ | refine blk_drew ?_ | refine blk_alloc ?_ _)); exact af.out⟩
     have bw : Aside0 (Below w.heap.size w (((a8.setCell ⟨aa, 0, none⟩ (.bool av)).setCell ⟨aa, 1, none⟩ (.slice aK ao.length aL)).setCell ⟨aa, 2, none⟩ (.slice aM ap.length aN))) := ⟨by repeat (first | (with_reducible first | exact HB.out | apply below_alloc | apply pw_below_drewN | apply below_drew1 | refine below_set ?_ aj.out | refine below_set ?_ aq.out | refine below_set ?_ az.out) | exact HB.out)⟩
     (try clear ak)
     (try clear al)
     (try clear ag)
     (try clear ah)
     (try clear ai)
     (try clear au)
     (try clear ay)
     (try clear aw)
     (try clear ax)
     (try clear ab)
     (try clear ac)
     (try clear af)
     (try clear HB)
     generalize (((a8.setCell ⟨aa, 0, none⟩ (.bool av)).setCell ⟨aa, 1, none⟩ (.slice aK ao.length aL)).setCell ⟨aa, 2, none⟩ (.slice aM ap.length aN)) = eO at bH bI bJ bK bL bS bT bU bY bZ br bv bw ⊢
     have ak := bH
     have al := bI
     have ag := bJ
     have ah := bK
     have ai := bL
     have au := bS
     have ay := bT
     have aw := bU
     have ax := bY
     have ab := bZ
     have ac := br
     have af := bv
     have HB := bw
     clear bH bI bJ bK bL bS bT bU bY bZ br bv bw
     replace ak := am (Kd.V_drew ak.out)
     replace al := am (Kd.V_drew al.out)
     replace ag := am (Kd.N_drew ag.out)
     replace ah := am (Kd.V_drew ah.out)
     replace ai := am (Kd.V_drew ai.out)
     replace au := am (Kd.V_drew au.out)
     replace ay := am (Kd.V_drew ay.out)
     replace aw := am (Kd.V_drew aw.out)
     replace ax := am (Kd.V_drew ax.out)
     replace ab := am (blk_drew ab.out)
     replace ac := am (blk_drew ac.out)
     replace af := am (blk_drew af.out)
     replace HB := am (below_drew1 HB.out)
     refine start_ (n := 20) (S := fun w' => w'.cell? ⟨ae, 0, none⟩ = some (.bool aS) ∧ w'.cell? ⟨ae, 1, none⟩ = some (.slice aZ aI.length a0) ∧ w'.cell? ⟨ae, 2, none⟩ = some (.slice a1 aJ.length a2) ∧ w'.cell? ⟨ad, 0, none⟩ = some (.bool a0_0) ∧ w'.cell? ⟨ad, 1, none⟩ = some (.slice A0_1 l0_1.length c0_1) ∧ w'.cell? ⟨ad, 2, none⟩ = some (.slice A0_2 l0_2.length c0_2) ∧ w'.cell? ⟨aa, 0, none⟩ = some (.bool av) ∧ w'.cell? ⟨aa, 1, none⟩ = some (.slice aK ao.length aL) ∧ w'.cell? ⟨aa, 2, none⟩ = some (.slice aM ap.length aN)) (ds := []) #[false, false, false, false, false, false, false, false, false, false, false, false, false, false, false, false, false, false, false, false] (by kernel_rfl) rfl rfl ⟨bc ac 0, bc ac 1, bc ac 2, bc ab 0, bc ab 1, bc ab 2, bc af 0, bc af 1, bc af 2⟩ (fun hHeld => ?_); refine with_tabW codewrightlaw02_RationalFloors.tab7 codewrightlaw02_RationalFloors.bits7 (fun HT_ HW_ => ?_)
     generalize eO.drew = e2 at ak al ag ah ai au ay aw ax ab ac af HB hHeld ⊢
     refine tq 0 (some 25) #[true, false, false, false, false, false, false, false, false, false, false, false, false, false, false, false, false, false, false, false] HT_ HW_ hHeld ?_
     refine tq 1 (some 26) #[true, true, false, false, false, false, false, false, false, false, false, false, false, false, false, false, false, false, false, false] HT_ HW_ hHeld ?_
     refine one_ (i := 2) (N := some 27) #[true, true, true, false, false, false, false, false, false, false, false, false, false, false, false, false, false, false, false, false] rfl rfl (one_of HT_.out (by kernel_rfl)) (by decide) (fun K hK => ?_)
     refine goes_ Try.func109 (by kernel_rfl) rfl #[.agg #[.bool a0_0, .slice A0_1 l0_1.length c0_1, .slice A0_2 l0_2.length c0_2]] (by rfl) rfl rfl lu ?_
     with_reducible refine (codewrightref02_Floor.calls k a0_0 (fun k_ => (((P0_1_ k_ ∨ P0_2_ k_) ∨ w.heap.size ≤ k_) ∧ (some k_ ≠ (.slice aC an.length aD : Value).ownBlock ∧ (k_ ≠ ad ∧ (k_ ≠ ae ∧ k_ ≠ aa))))) _ _ l0_1 (fun k_ => (((P0_1_ k_ ∨ P0_2_ k_) ∨ w.heap.size ≤ k_) ∧ (some k_ ≠ (.slice aC an.length aD : Value).ownBlock ∧ (k_ ≠ ad ∧ (k_ ≠ ae ∧ k_ ≠ aa))))) _ _ l0_2 bk bl bm _ ?side1 ?side2 dD.out).mono ?_
     (case side1 => exact vz ak.out)
     (case side2 => exact vz al.out)
     rintro e e3 ⟨ce, cf, rfl, bj, bq, hb⟩
     refine ⟨_, rfl, ?_⟩
     replace ak := kv ak hb
     replace al := kv al hb
     replace ah := kv ah hb
     replace ai := kv ai hb
     replace au := kv au hb
     replace ay := kv ay hb
     replace aw := kv aw hb
     replace ax := kv ax hb
     have aO := ar w.heap.size (ok' := fun k_ => ((P0_1_ k_ ∨ P0_2_ k_) ∨ w.heap.size ≤ k_) ∧ some k_ ≠ (.slice aC an.length aD : Value).ownBlock ∧ k_ ≠ ad ∧ k_ ≠ ae ∧ k_ ≠ aa) bj (fa (fz3 HB aj aq az) (fa (fo ag) (fa (fb ab) (fa (fb ac) (fb af)))))
     have aP := ar w.heap.size (ok' := fun k_ => ((P0_1_ k_ ∨ P0_2_ k_) ∨ w.heap.size ≤ k_) ∧ some k_ ≠ (.slice aC an.length aD : Value).ownBlock ∧ k_ ≠ ad ∧ k_ ≠ ae ∧ k_ ≠ aa) bq (fa (fz3 HB aj aq az) (fa (fo ag) (fa (fb ab) (fa (fb ac) (fb af)))))
     replace ag := kn ag hb
     replace ab := kb ab hb
     replace ac := kb ac hb
     replace af := kb af hb
     replace HB := be3 HB aj aq az hb
     (try clear hb)
     (try clear hb2)
     (try clear hk)
     (try clear hi)
     (try clear bj)
     (try clear bq)
     obtain ⟨dJ, dK, cp⟩ := Kd.V_slice aO.out
     (first | subst cp | (injection cp with f1_ f2_ f3_; have f4_ := f1_.symm; have f5_ := f3_.symm; clear f1_ f2_ f3_; subst f4_; subst f5_))
     obtain ⟨dL, dM, cq⟩ := Kd.V_slice aP.out
     (first | subst cq | (injection cq with f1_ f2_ f3_; have f4_ := f1_.symm; have f5_ := f3_.symm; clear f1_ f2_ f3_; subst f4_; subst f5_))
     refine hK.out _ _ ⟨bc ac 0, bc ac 1, bc ac 2, bc ab 0, bc ab 1, bc ab 2, bc af 0, bc af 1, bc af 2⟩ (fun hHeld => ?_)
     clear hK K
     refine nq 27 ?_
     refine one_ (i := 3) (N := some 28) #[true, true, true, true, false, false, false, false, false, false, false, false, false, false, false, false, false, false, false, false] rfl rfl (one_of HT_.out (by kernel_rfl)) (by decide) (fun K hK => ?_)
     refine goes_ Try.func83 (by kernel_rfl) rfl #[.agg #[.bool aS, .slice aZ aI.length a0, .slice a1 aJ.length a2], .agg #[.bool bk, .slice dJ bl.length dK, .slice dL bm.length dM]] (by rfl) rfl rfl lu ?_
     with_reducible refine (codewrightlaw02_same.calls k aS _ _ aI _ _ aJ bk _ _ bl _ _ bm true _ ?side1 ?side2 ?side3 ?side4 ?side5 ?side6 ?side7 ?side8 dE.out).mono ?_
     (case side1 => exact cu (Kd.V_reads' ah.out).2.2)
     (case side2 => exact (Kd.V_reads' ah.out).2.1)
     (case side3 => exact cu (Kd.V_reads' ai.out).2.2)
     (case side4 => exact (Kd.V_reads' ai.out).2.1)
     (case side5 => exact cu (Kd.V_reads' aO.out).2.2)
     (case side6 => exact (Kd.V_reads' aO.out).2.1)
     (case side7 => exact cu (Kd.V_reads' aP.out).2.2)
     (case side8 => exact (Kd.V_reads' aP.out).2.1)
     rintro e e4 ⟨rfl, hb⟩
     refine ⟨_, rfl, ?_⟩
     replace ak := kv ak hb
     replace al := kv al hb
     replace ag := kn ag hb
     replace ah := kv ah hb
     replace ai := kv ai hb
     replace au := kv au hb
     replace ay := kv ay hb
     replace aw := kv aw hb
     replace ax := kv ax hb
     replace aO := kv aO hb
     replace aP := kv aP hb
     replace ab := kb ab hb
     replace ac := kb ac hb
     replace af := kb af hb
     replace HB := be3 HB aj aq az hb
     (try clear hb)
     (try clear hb2)
     (try clear hk)
     (try clear hi)
     refine hK.out _ _ ⟨bc ac 0, bc ac 1, bc ac 2, bc ab 0, bc ab 1, bc ab 2, bc af 0, bc af 1, bc af 2⟩ (fun hHeld => ?_)
     clear hK K
     refine nq 28 ?_
     refine pq 4 (some 29) #[true, true, true, true, true, false, false, false, false, false, false, false, false, false, false, false, false, false, false, false] HT_ ?_
     refine pq 5 (some 30) #[true, true, true, true, true, true, false, false, false, false, false, false, false, false, false, false, false, false, false, false] HT_ ?_
     refine tq 6 (some 31) #[true, true, true, true, true, true, true, false, false, false, false, false, false, false, false, false, false, false, false, false] HT_ HW_ hHeld ?_
     refine tq 7 (some 32) #[true, true, true, true, true, true, true, true, false, false, false, false, false, false, false, false, false, false, false, false] HT_ HW_ hHeld ?_
     refine one_ (i := 8) (N := some 33) #[true, true, true, true, true, true, true, true, true, false, false, false, false, false, false, false, false, false, false, false] rfl rfl (one_of HT_.out (by kernel_rfl)) (by decide) (fun K hK => ?_)
     refine goes_ Try.func104 (by kernel_rfl) rfl #[.agg #[.bool aS, .slice aZ aI.length a0, .slice a1 aJ.length a2], .agg #[.bool a0_0, .slice A0_1 l0_1.length c0_1, .slice A0_2 l0_2.length c0_2]] (by rfl) rfl rfl lu ?_
     with_reducible refine (rational_Cmp.calls k aS _ _ aI _ _ aJ a0_0 _ _ l0_1 _ _ l0_2 a9 _ ?side1 ?side2 ?side3 ?side4 ?side5 ?side6 ?side7 ?side8 ep.out).mono ?_
     (case side1 => exact cu (Kd.V_reads' ah.out).2.2)
     (case side2 => exact (Kd.V_reads' ah.out).2.1)
     (case side3 => exact cu (Kd.V_reads' ai.out).2.2)
     (case side4 => exact (Kd.V_reads' ai.out).2.1)
     (case side5 => exact cu (Kd.V_reads' ak.out).2.2)
     (case side6 => exact (Kd.V_reads' ak.out).2.1)
     (case side7 => exact cu (Kd.V_reads' al.out).2.2)
     (case side8 => exact (Kd.V_reads' al.out).2.1)
     rintro e eP ⟨rfl, hb⟩
     refine ⟨_, rfl, ?_⟩
     replace ak := kv ak hb
     replace al := kv al hb
     replace ag := kn ag hb
     replace ah := kv ah hb
     replace ai := kv ai hb
     replace au := kv au hb
     replace ay := kv ay hb
     replace aw := kv aw hb
     replace ax := kv ax hb
     replace aO := kv aO hb
     replace aP := kv aP hb
     replace ab := kb ab hb
     replace ac := kb ac hb
     replace af := kb af hb
     replace HB := be3 HB aj aq az hb
     (try clear hb)
     (try clear hb2)
     (try clear hk)
     (try clear hi)
     refine hK.out _ _ ⟨bc ac 0, bc ac 1, bc ac 2, bc ab 0, bc ab 1, bc ab 2, bc af 0, bc af 1, bc af 2⟩ (fun hHeld => ?_)
     clear hK K
     refine nq 33 ?_
     refine pq 9 (some 34) #[true, true, true, true, true, true, true, true, true, true, false, false, false, false, false, false, false, false, false, false] HT_ ?_
     refine pq 10 (some 35) #[true, true, true, true, true, true, true, true, true, true, true, false, false, false, false, false, false, false, false, false] HT_ ?_
     refine pq 11 (some 36) #[true, true, true, true, true, true, true, true, true, true, true, true, false, false, false, false, false, false, false, false] HT_ ?_
     refine tq 12 (some 37) #[true, true, true, true, true, true, true, true, true, true, true, true, true, false, false, false, false, false, false, false] HT_ HW_ hHeld ?_
     refine tq 13 (some 38) #[true, true, true, true, true, true, true, true, true, true, true, true, true, true, false, false, false, false, false, false] HT_ HW_ hHeld ?_
     refine tq 16 (some 41) #[true, true, true, true, true, true, true, true, true, true, true, true, true, true, false, false, true, false, false, false] HT_ HW_ hHeld ?_
     refine one_ (i := 14) (N := some 39) #[true, true, true, true, true, true, true, true, true, true, true, true, true, true, true, false, true, false, false, false] rfl rfl (one_of HT_.out (by kernel_rfl)) (by decide) (fun K hK => ?_)
     refine Kd.N_lit_step k67 _ 67 ?hg (N' := 39) ?hd (xs := ([(⟨aS, aI, aJ⟩ : S67), (⟨av, ao, ap⟩ : S67)] : List (S67))) (inner := [.bool aS, .slice aZ aI.length a0, .slice a1 aJ.length a2, .bool av, .slice aK ao.length aL, .slice aM ap.length aN]) (ok := (fun k_ => ((P0_1_ k_ ∨ P0_2_ k_) ∨ w.heap.size ≤ k_) ∧ some k_ ≠ (.slice aC an.length aD : Value).ownBlock ∧ k_ ≠ ad ∧ k_ ≠ ae ∧ k_ ≠ aa)) (okp := (fun k_ => ((P0_1_ k_ ∨ P0_2_ k_) ∨ w.heap.size ≤ k_) ∧ some k_ ≠ (.slice aC an.length aD : Value).ownBlock ∧ k_ ≠ ad ∧ k_ ≠ ae ∧ k_ ≠ aa)) ?hr ?hp (fun _ hk => hk) ((show ∀ k_, eP.heap.size ≤ k_ → (fun k_ => ((P0_1_ k_ ∨ P0_2_ k_) ∨ w.heap.size ≤ k_) ∧ some k_ ≠ (.slice aC an.length aD : Value).ownBlock ∧ k_ ≠ ad ∧ k_ ≠ ae ∧ k_ ≠ aa) k_ from fun k_ hk => ⟨(.inr (Nat.le_trans (below_size (bu3 HB.out aj.out aq.out az.out)) hk)), Kd.fresh' (Kd.N_lt (nu ag.out)) k_ hk, Kd.freshB (g := ad) (o := .cells #[.bool a0_0, .slice A0_1 l0_1.length c0_1, .slice A0_2 l0_2.length c0_2] 67 (0, 0)) (ku ab.out) k_ hk, Kd.freshB (g := ae) (o := .cells #[.bool aS, .slice aZ aI.length a0, .slice a1 aJ.length a2] 67 (0, 0)) (ku ac.out) k_ hk, Kd.freshB (g := aa) (o := .cells #[.bool av, .slice aK ao.length aL, .slice aM ap.length aN] 67 (0, 0)) (ku af.out) k_ hk⟩) _ (Nat.le_refl _)) (Below.refl _ _) (Nat.le_refl _) (by simp) ?_; (case hd => rfl); (case hg => rfl); (case hr => first | (go_simp; done) | (go_simp; rfl)); (case hp => exact (Reps.c3 (show Kd.FK k67 _ _ (⟨aS, aI, aJ⟩ : S67) [.bool aS, .slice aZ aI.length a0, .slice a1 aJ.length a2] from (k67_mkF _ _ (⟨aS, aI, aJ⟩ : S67) (Kd.V_reads' (vy ((fun k_ => ((P0_1_ k_ ∨ P0_2_ k_) ∨ w.heap.size ≤ k_) ∧ some k_ ≠ (.slice aC an.length aD : Value).ownBlock ∧ k_ ≠ ad ∧ k_ ≠ ae ∧ k_ ≠ aa)) ah.out)).2.1 (Kd.V_F (vy ((fun k_ => ((P0_1_ k_ ∨ P0_2_ k_) ∨ w.heap.size ≤ k_) ∧ some k_ ≠ (.slice aC an.length aD : Value).ownBlock ∧ k_ ≠ ad ∧ k_ ≠ ae ∧ k_ ≠ aa)) ah.out)) (Kd.V_reads' (vy ((fun k_ => ((P0_1_ k_ ∨ P0_2_ k_) ∨ w.heap.size ≤ k_) ∧ some k_ ≠ (.slice aC an.length aD : Value).ownBlock ∧ k_ ≠ ad ∧ k_ ≠ ae ∧ k_ ≠ aa)) ai.out)).2.1 (Kd.V_F (vy ((fun k_ => ((P0_1_ k_ ∨ P0_2_ k_) ∨ w.heap.size ≤ k_) ∧ some k_ ≠ (.slice aC an.length aD : Value).ownBlock ∧ k_ ≠ ad ∧ k_ ≠ ae ∧ k_ ≠ aa)) ai.out)))) (Reps.c3 (show Kd.FK k67 _ _ (⟨av, ao, ap⟩ : S67) [.bool av, .slice aK ao.length aL, .slice aM ap.length aN] from (k67_mkF _ _ (⟨av, ao, ap⟩ : S67) (Kd.V_reads' (vy ((fun k_ => ((P0_1_ k_ ∨ P0_2_ k_) ∨ w.heap.size ≤ k_) ∧ some k_ ≠ (.slice aC an.length aD : Value).ownBlock ∧ k_ ≠ ad ∧ k_ ≠ ae ∧ k_ ≠ aa)) aw.out)).2.1 (Kd.V_F (vy ((fun k_ => ((P0_1_ k_ ∨ P0_2_ k_) ∨ w.heap.size ≤ k_) ∧ some k_ ≠ (.slice aC an.length aD : Value).ownBlock ∧ k_ ≠ ad ∧ k_ ≠ ae ∧ k_ ≠ aa)) aw.out)) (Kd.V_reads' (vy ((fun k_ => ((P0_1_ k_ ∨ P0_2_ k_) ∨ w.heap.size ≤ k_) ∧ some k_ ≠ (.slice aC an.length aD : Value).ownBlock ∧ k_ ≠ ad ∧ k_ ≠ ae ∧ k_ ≠ aa)) ax.out)).2.1 (Kd.V_F (vy ((fun k_ => ((P0_1_ k_ ∨ P0_2_ k_) ∨ w.heap.size ≤ k_) ∧ some k_ ≠ (.slice aC an.length aD : Value).ownBlock ∧ k_ ≠ ad ∧ k_ ≠ ae ∧ k_ ≠ aa)) ax.out)))) (Reps.none _ _))))
     intro eq e5 bb hb hg_ hnew_
     clear hg_ hnew_
     (first | rw [← b1.out] at bb | (simp only [Int.reduceToNat] at bb; rw [← b1.out] at bb))
     replace ak := el ak bb hb
     replace al := el al bb hb
     replace ag := en ag bb hb
     replace ah := el ah bb hb
     replace ai := el ai bb hb
     replace au := el au bb hb
     replace ay := el ay bb hb
     replace aw := el aw bb hb
     replace ax := el ax bb hb
     replace aO := el aO bb hb
     replace aP := el aP bb hb
     have bn := am (Kd.N_lower bb (below_size (bu3 HB.out aj.out aq.out az.out)))
     replace ab := kb ab hb
     replace ac := kb ac hb
     replace af := kb af hb
     replace HB := be3 HB aj aq az hb
     clear hb bb
     obtain ⟨dN, dO, cr⟩ := Kd.N_slice bn.out
     (first | subst cr | (injection cr with f1_ f2_ f3_; have f4_ := f1_.symm; have f5_ := f3_.symm; clear f1_ f2_ f3_; subst f4_; subst f5_))
     refine hK.out _ _ ⟨bc ac 0, bc ac 1, bc ac 2, bc ab 0, bc ab 1, bc ab 2, bc af 0, bc af 1, bc af 2⟩ (fun hHeld => ?_)
     clear hK K
     refine nq 39 ?_
     refine one_ (i := 15) (N := some 40) #[true, true, true, true, true, true, true, true, true, true, true, true, true, true, true, true, true, false, false, false] rfl rfl (one_of HT_.out (by kernel_rfl)) (by decide) (fun K hK => ?_)
     refine goes_ Try.func98 (by kernel_rfl) rfl #[.slice dN b0.length dO] (by rfl) rfl rfl lu ?_
     with_reducible refine (rational_Add.calls k (fun k_ => (((P0_1_ k_ ∨ P0_2_ k_) ∨ w.heap.size ≤ k_) ∧ (some k_ ≠ (.slice aC an.length aD : Value).ownBlock ∧ (k_ ≠ ad ∧ (k_ ≠ ae ∧ k_ ≠ aa))))) _ _ b0 b2 b3 b4 _ ?side1 eM.out).mono ?_
     (case side1 => exact Kd.N_V (bn.out))
     rintro e e6 ⟨er, es, rfl, bj, bq, hb⟩
     refine ⟨_, rfl, ?_⟩
     replace ak := kv ak hb
     replace al := kv al hb
     replace ah := kv ah hb
     replace ai := kv ai hb
     replace au := kv au hb
     replace ay := kv ay hb
     replace aw := kv aw hb
     replace ax := kv ax hb
     replace aO := kv aO hb
     replace aP := kv aP hb
     replace bn := kn bn hb
     have bA := ar w.heap.size (ok' := fun k_ => ((P0_1_ k_ ∨ P0_2_ k_) ∨ w.heap.size ≤ k_) ∧ some k_ ≠ (.slice aC an.length aD : Value).ownBlock ∧ k_ ≠ ad ∧ k_ ≠ ae ∧ k_ ≠ aa) bj (fa (fz3 HB aj aq az) (fa (fo ag) (fa (fb ab) (fa (fb ac) (fb af)))))
     have bB := ar w.heap.size (ok' := fun k_ => ((P0_1_ k_ ∨ P0_2_ k_) ∨ w.heap.size ≤ k_) ∧ some k_ ≠ (.slice aC an.length aD : Value).ownBlock ∧ k_ ≠ ad ∧ k_ ≠ ae ∧ k_ ≠ aa) bq (fa (fz3 HB aj aq az) (fa (fo ag) (fa (fb ab) (fa (fb ac) (fb af)))))
     replace ag := kn ag hb
     replace ab := kb ab hb
     replace ac := kb ac hb
     replace af := kb af hb
     replace HB := be3 HB aj aq az hb
     (try clear hb)
     (try clear hb2)
     (try clear hk)
     (try clear hi)
     (try clear bj)
     (try clear bq)
     obtain ⟨dP, dQ, ct⟩ := Kd.V_slice bA.out
     (first | subst ct | (injection ct with f1_ f2_ f3_; have f4_ := f1_.symm; have f5_ := f3_.symm; clear f1_ f2_ f3_; subst f4_; subst f5_))
     obtain ⟨dR, dS, cv⟩ := Kd.V_slice bB.out
     (first | subst cv | (injection cv with f1_ f2_ f3_; have f4_ := f1_.symm; have f5_ := f3_.symm; clear f1_ f2_ f3_; subst f4_; subst f5_))
     refine hK.out _ _ ⟨bc ac 0, bc ac 1, bc ac 2, bc ab 0, bc ab 1, bc ab 2, bc af 0, bc af 1, bc af 2⟩ (fun hHeld => ?_)
     clear hK K
     refine nq 40 ?_
     refine one_ (i := 17) (N := some 42) #[true, true, true, true, true, true, true, true, true, true, true, true, true, true, true, true, true, true, false, false] rfl rfl (one_of HT_.out (by kernel_rfl)) (by decide) (fun K hK => ?_)
     refine goes_ Try.func104 (by kernel_rfl) rfl #[.agg #[.bool b2, .slice dP b3.length dQ, .slice dR b4.length dS], .agg #[.bool a0_0, .slice A0_1 l0_1.length c0_1, .slice A0_2 l0_2.length c0_2]] (by rfl) rfl rfl lu ?_
     with_reducible refine (rational_Cmp.calls k b2 _ _ b3 _ _ b4 a0_0 _ _ l0_1 _ _ l0_2 bd _ ?side1 ?side2 ?side3 ?side4 ?side5 ?side6 ?side7 ?side8 eN.out).mono ?_
     (case side1 => exact cu (Kd.V_reads' bA.out).2.2)
     (case side2 => exact (Kd.V_reads' bA.out).2.1)
     (case side3 => exact cu (Kd.V_reads' bB.out).2.2)
     (case side4 => exact (Kd.V_reads' bB.out).2.1)
     (case side5 => exact cu (Kd.V_reads' ak.out).2.2)
     (case side6 => exact (Kd.V_reads' ak.out).2.1)
     (case side7 => exact cu (Kd.V_reads' al.out).2.2)
     (case side8 => exact (Kd.V_reads' al.out).2.1)
     rintro e e7 ⟨rfl, hb⟩
     refine ⟨_, rfl, ?_⟩
     replace ak := kv ak hb
     replace al := kv al hb
     replace ag := kn ag hb
     replace ah := kv ah hb
     replace ai := kv ai hb
     replace au := kv au hb
     replace ay := kv ay hb
     replace aw := kv aw hb
     replace ax := kv ax hb
     replace aO := kv aO hb
     replace aP := kv aP hb
     replace bn := kn bn hb
     replace bA := kv bA hb
     replace bB := kv bB hb
     replace ab := kb ab hb
     replace ac := kb ac hb
     replace af := kb af hb
     replace HB := be3 HB aj aq az hb
     (try clear hb)
     (try clear hb2)
     (try clear hk)
     (try clear hi)
     refine hK.out _ _ ⟨bc ac 0, bc ac 1, bc ac 2, bc ab 0, bc ab 1, bc ab 2, bc af 0, bc af 1, bc af 2⟩ (fun hHeld => ?_)
     clear hK K
     refine nq 42 ?_
     refine pq 18 (some 43) #[true, true, true, true, true, true, true, true, true, true, true, true, true, true, true, true, true, true, true, false] HT_ ?_
     refine pq 19 (some 44) #[true, true, true, true, true, true, true, true, true, true, true, true, true, true, true, true, true, true, true, true] HT_ ?_
     refine done_ (done_of HT_.out (by kernel_rfl)) ?_
     try go_wp2
     go_meet
     case rel => exact ⟨_, (decide (bd ≤ 0)), (by first | rfl | (simp; done) | (simp [*]; done)), H', ⟨by first | omega | exact Nat.le_refl _⟩, ⟨by exact vz au.out⟩, ⟨by exact vz ay.out⟩, ⟨by exact vz ak.out⟩, ⟨by exact vz al.out⟩, ⟨by exact vz ah.out⟩, ⟨by exact vz ai.out⟩, ⟨by exact vz aw.out⟩, ⟨by exact vz ax.out⟩, ⟨by (with_reducible repeat (first | refine blk_drewN ?_ _ | refine blk_drew ?_ | refine blk_alloc ?_ _)); exact ab.out⟩, ⟨by (with_reducible repeat (first | refine blk_drewN ?_ _ | refine blk_drew ?_ | refine blk_alloc ?_ _)); exact ac.out⟩, ⟨by (with_reducible repeat (first | refine blk_drewN ?_ _ | refine blk_drew ?_ | refine blk_alloc ?_ _)); exact af.out⟩, ⟨by repeat (first | (with_reducible first | exact HB.out | apply below_alloc | apply pw_below_drewN | apply below_drew1 | refine below_set ?_ aj.out | refine below_set ?_ aq.out | refine below_set ?_ az.out) | exact HB.out)⟩⟩
   ·
    replace cm := Bool.eq_false_iff.mpr cm
    subst cm
    have H1 : (codewrightlaw02_RationalFloors.j0 k aX a7 aY ba true a0_0 l0_1 l0_2) = some r := by rw [if_neg (show ¬ (false = true) by decide)] at H; exact H
    clear H
    have H := H1
    clear H1
    have H' := am H
    clear H
    try go_wp2
    have bH : Aside0 (Kd.V (Kd.int .u32) 48 (((a8.setCell ⟨aa, 0, none⟩ (.bool av)).setCell ⟨aa, 1, none⟩ (.slice aK ao.length aL)).setCell ⟨aa, 2, none⟩ (.slice aM ap.length aN)) w.heap.size (fun k_ => ((P0_1_ k_ ∨ P0_2_ k_) ∨ w.heap.size ≤ k_) ∧ some k_ ≠ (.slice aC an.length aD : Value).ownBlock ∧ k_ ≠ ad ∧ k_ ≠ ae ∧ k_ ≠ aa) (.slice A0_1 l0_1.length c0_1) l0_1) := ⟨by exact vf ak.out⟩
    have bI : Aside0 (Kd.V (Kd.int .u32) 48 (((a8.setCell ⟨aa, 0, none⟩ (.bool av)).setCell ⟨aa, 1, none⟩ (.slice aK ao.length aL)).setCell ⟨aa, 2, none⟩ (.slice aM ap.length aN)) w.heap.size (fun k_ => ((P0_1_ k_ ∨ P0_2_ k_) ∨ w.heap.size ≤ k_) ∧ some k_ ≠ (.slice aC an.length aD : Value).ownBlock ∧ k_ ≠ ad ∧ k_ ≠ ae ∧ k_ ≠ aa) (.slice A0_2 l0_2.length c0_2) l0_2) := ⟨by exact vf al.out⟩
    have bJ : Aside0 (Kd.N k67 67 (((a8.setCell ⟨aa, 0, none⟩ (.bool av)).setCell ⟨aa, 1, none⟩ (.slice aK ao.length aL)).setCell ⟨aa, 2, none⟩ (.slice aM ap.length aN)) w.heap.size (fun k_ => ((P0_1_ k_ ∨ P0_2_ k_) ∨ w.heap.size ≤ k_) ∧ k_ ≠ ad ∧ k_ ≠ ae ∧ k_ ≠ aa) (.slice aC an.length aD) an) := ⟨by (with_reducible repeat (first | apply Kd.N_alloc | apply Kd.N_drewN | apply Kd.N_drew)); exact Kd.N_mono (Kd.N_far (p := ⟨aa, 2, none⟩) (Kd.N_far (p := ⟨aa, 1, none⟩) (Kd.N_far (p := ⟨aa, 0, none⟩) (Kd.N_mono ag.out (fun k_ hk => (⟨hk, hk.2⟩ : _ ∧ k_ ≠ aa))) (fun _ hk => hk.2) (.bool av)) (fun _ hk => hk.2) (.slice aK ao.length aL)) (fun _ hk => hk.2) (.slice aM ap.length aN)) (fun _ hk => ⟨hk.1.1.1, ⟨hk.1.1.2.1, ⟨hk.1.1.2.2, hk.1.2⟩⟩⟩)⟩
    have bK : Aside0 (Kd.V (Kd.int .u32) 48 (((a8.setCell ⟨aa, 0, none⟩ (.bool av)).setCell ⟨aa, 1, none⟩ (.slice aK ao.length aL)).setCell ⟨aa, 2, none⟩ (.slice aM ap.length aN)) w.heap.size (fun k_ => ((P0_1_ k_ ∨ P0_2_ k_) ∨ w.heap.size ≤ k_) ∧ some k_ ≠ (.slice aC an.length aD : Value).ownBlock ∧ k_ ≠ ad ∧ k_ ≠ ae ∧ k_ ≠ aa) (.slice aZ aI.length a0) aI) := ⟨by exact vf ah.out⟩
    have bL : Aside0 (Kd.V (Kd.int .u32) 48 (((a8.setCell ⟨aa, 0, none⟩ (.bool av)).setCell ⟨aa, 1, none⟩ (.slice aK ao.length aL)).setCell ⟨aa, 2, none⟩ (.slice aM ap.length aN)) w.heap.size (fun k_ => ((P0_1_ k_ ∨ P0_2_ k_) ∨ w.heap.size ≤ k_) ∧ some k_ ≠ (.slice aC an.length aD : Value).ownBlock ∧ k_ ≠ ad ∧ k_ ≠ ae ∧ k_ ≠ aa) (.slice a1 aJ.length a2) aJ) := ⟨by exact vf ai.out⟩
    have bS : Aside0 (Kd.V (Kd.int .u32) 48 (((a8.setCell ⟨aa, 0, none⟩ (.bool av)).setCell ⟨aa, 1, none⟩ (.slice aK ao.length aL)).setCell ⟨aa, 2, none⟩ (.slice aM ap.length aN)) w.heap.size (fun k_ => ((P0_1_ k_ ∨ P0_2_ k_) ∨ w.heap.size ≤ k_) ∧ some k_ ≠ (.slice aC an.length aD : Value).ownBlock ∧ k_ ≠ ad ∧ k_ ≠ ae ∧ k_ ≠ aa) bV aX) := ⟨by exact vf au.out⟩
    have bT : Aside0 (Kd.V (Kd.int .u32) 48 (((a8.setCell ⟨aa, 0, none⟩ (.bool av)).setCell ⟨aa, 1, none⟩ (.slice aK ao.length aL)).setCell ⟨aa, 2, none⟩ (.slice aM ap.length aN)) w.heap.size (fun k_ => ((P0_1_ k_ ∨ P0_2_ k_) ∨ w.heap.size ≤ k_) ∧ some k_ ≠ (.slice aC an.length aD : Value).ownBlock ∧ k_ ≠ ad ∧ k_ ≠ ae ∧ k_ ≠ aa) bW aY) := ⟨by exact vf ay.out⟩
    have bU : Aside0 (Kd.V (Kd.int .u32) 48 (((a8.setCell ⟨aa, 0, none⟩ (.bool av)).setCell ⟨aa, 1, none⟩ (.slice aK ao.length aL)).setCell ⟨aa, 2, none⟩ (.slice aM ap.length aN)) w.heap.size (fun k_ => ((P0_1_ k_ ∨ P0_2_ k_) ∨ w.heap.size ≤ k_) ∧ some k_ ≠ (.slice aC an.length aD : Value).ownBlock ∧ k_ ≠ ad ∧ k_ ≠ ae ∧ k_ ≠ aa) (.slice aK ao.length aL) ao) := ⟨by exact vf aw.out⟩
    have bY : Aside0 (Kd.V (Kd.int .u32) 48 (((a8.setCell ⟨aa, 0, none⟩ (.bool av)).setCell ⟨aa, 1, none⟩ (.slice aK ao.length aL)).setCell ⟨aa, 2, none⟩ (.slice aM ap.length aN)) w.heap.size (fun k_ => ((P0_1_ k_ ∨ P0_2_ k_) ∨ w.heap.size ≤ k_) ∧ some k_ ≠ (.slice aC an.length aD : Value).ownBlock ∧ k_ ≠ ad ∧ k_ ≠ ae ∧ k_ ≠ aa) (.slice aM ap.length aN) ap) := ⟨by exact vf ax.out⟩
    have bZ : Aside0 ((((a8.setCell ⟨aa, 0, none⟩ (.bool av)).setCell ⟨aa, 1, none⟩ (.slice aK ao.length aL)).setCell ⟨aa, 2, none⟩ (.slice aM ap.length aN)).heap[ad]? = some (.cells #[.bool a0_0, .slice A0_1 l0_1.length c0_1, .slice A0_2 l0_2.length c0_2] 67 (0, 0))) := ⟨by (with_reducible repeat (first | refine blk_drewN ?_ _ | refine blk_drew ?_ | refine blk_alloc ?_ _)); refine blk_far ?_ aQ.out _; (with_reducible repeat (first | refine blk_drewN ?_ _ | refine blk_drew ?_ | refine blk_alloc ?_ _)); refine blk_far ?_ aQ.out _; (with_reducible repeat (first | refine blk_drewN ?_ _ | refine blk_drew ?_ | refine blk_alloc ?_ _)); refine blk_far ?_ aQ.out _; (with_reducible repeat (first | refine blk_drewN ?_ _ | refine blk_drew ?_ | refine blk_alloc ?_ _)); exact ab.out⟩
    have br : Aside0 ((((a8.setCell ⟨aa, 0, none⟩ (.bool av)).setCell ⟨aa, 1, none⟩ (.slice aK ao.length aL)).setCell ⟨aa, 2, none⟩ (.slice aM ap.length aN)).heap[ae]? = some (.cells #[.bool aS, .slice aZ aI.length a0, .slice a1 aJ.length a2] 67 (0, 0))) := ⟨by (with_reducible repeat (first | refine blk_drewN ?_ _ | refine blk_drew ?_ | refine blk_alloc ?_ _)); refine blk_far ?_ aR.out _; (with_reducible repeat (first | refine blk_drewN ?_ _ | refine blk_drew ?_ | refine blk_alloc ?_ _)); refine blk_far ?_ aR.out _; (with_reducible repeat (first | refine blk_drewN ?_ _ | refine blk_drew ?_ | refine blk_alloc ?_ _)); refine blk_far ?_ aR.out _; (with_reducible repeat (first | refine blk_drewN ?_ _ | refine blk_drew ?_ | refine blk_alloc ?_ _)); exact ac.out⟩
    have bv : Aside0 ((((a8.setCell ⟨aa, 0, none⟩ (.bool av)).setCell ⟨aa, 1, none⟩ (.slice aK ao.length aL)).setCell ⟨aa, 2, none⟩ (.slice aM ap.length aN)).heap[aa]? = some (.cells #[.bool av, .slice aK ao.length aL, .slice aM ap.length aN] 67 (0, 0))) := ⟨by (with_reducible repeat (first | refine blk_drewN ?_ _ | refine blk_drew ?_ | refine blk_alloc ?_ _)); refine blk_put (cs := #[.bool av, .slice aK ao.length aL, .slice none 0 0]) ?_ 2 _ rfl; (with_reducible repeat (first | refine blk_drewN ?_ _ | refine blk_drew ?_ | refine blk_alloc ?_ _)); refine blk_put (cs := #[.bool av, .slice none 0 0, .slice none 0 0]) ?_ 1 _ rfl; (with_reducible repeat (first | refine blk_drewN ?_ _ | refine blk_drew ?_ | refine blk_alloc ?_ _)); refine blk_put (cs := #[.bool false, .slice none 0 0, .slice none 0 0]) ?_ 0 _ rfl; (with_reducible repeat (first | refine blk_drewN ?_ _ | refine blk_drew ?_ | refine blk_alloc ?_ _)); exact af.out⟩
    have bw : Aside0 (Below w.heap.size w (((a8.setCell ⟨aa, 0, none⟩ (.bool av)).setCell ⟨aa, 1, none⟩ (.slice aK ao.length aL)).setCell ⟨aa, 2, none⟩ (.slice aM ap.length aN))) := ⟨by repeat (first | (with_reducible first | exact HB.out | apply below_alloc | apply pw_below_drewN | apply below_drew1 | refine below_set ?_ aj.out | refine below_set ?_ aq.out | refine below_set ?_ az.out) | exact HB.out)⟩
    (try clear ak)
    (try clear al)
    (try clear ag)
    (try clear ah)
    (try clear ai)
    (try clear au)
    (try clear ay)
    (try clear aw)
    (try clear ax)
    (try clear ab)
    (try clear ac)
    (try clear af)
    (try clear HB)
    generalize (((a8.setCell ⟨aa, 0, none⟩ (.bool av)).setCell ⟨aa, 1, none⟩ (.slice aK ao.length aL)).setCell ⟨aa, 2, none⟩ (.slice aM ap.length aN)) = eQ at bH bI bJ bK bL bS bT bU bY bZ br bv bw ⊢
    have ak := bH
    have al := bI
    have ag := bJ
    have ah := bK
    have ai := bL
    have au := bS
    have ay := bT
    have aw := bU
    have ax := bY
    have ab := bZ
    have ac := br
    have af := bv
    have HB := bw
    clear bH bI bJ bK bL bS bT bU bY bZ br bv bw
    replace ak := am (Kd.V_drew ak.out)
    replace al := am (Kd.V_drew al.out)
    replace ag := am (Kd.N_drew ag.out)
    replace ah := am (Kd.V_drew ah.out)
    replace ai := am (Kd.V_drew ai.out)
    replace au := am (Kd.V_drew au.out)
    replace ay := am (Kd.V_drew ay.out)
    replace aw := am (Kd.V_drew aw.out)
    replace ax := am (Kd.V_drew ax.out)
    replace ab := am (blk_drew ab.out)
    replace ac := am (blk_drew ac.out)
    replace af := am (blk_drew af.out)
    replace HB := am (below_drew1 HB.out)
    refine start_ (n := 20) (S := fun w' => w'.cell? ⟨ae, 0, none⟩ = some (.bool aS) ∧ w'.cell? ⟨ae, 1, none⟩ = some (.slice aZ aI.length a0) ∧ w'.cell? ⟨ae, 2, none⟩ = some (.slice a1 aJ.length a2) ∧ w'.cell? ⟨ad, 0, none⟩ = some (.bool a0_0) ∧ w'.cell? ⟨ad, 1, none⟩ = some (.slice A0_1 l0_1.length c0_1) ∧ w'.cell? ⟨ad, 2, none⟩ = some (.slice A0_2 l0_2.length c0_2)) (ds := []) #[false, false, false, false, false, false, false, false, false, false, false, false, false, false, false, false, false, false, false, false] (by kernel_rfl) rfl rfl ⟨bc ac 0, bc ac 1, bc ac 2, bc ab 0, bc ab 1, bc ab 2⟩ (fun hHeld => ?_); refine with_tabW codewrightlaw02_RationalFloors.tab7 codewrightlaw02_RationalFloors.bits7 (fun HT_ HW_ => ?_)
    generalize eQ.drew = e8 at ak al ag ah ai au ay aw ax ab ac af HB hHeld ⊢
    refine tq 0 (some 25) #[true, false, false, false, false, false, false, false, false, false, false, false, false, false, false, false, false, false, false, false] HT_ HW_ hHeld ?_
    refine tq 1 (some 26) #[true, true, false, false, false, false, false, false, false, false, false, false, false, false, false, false, false, false, false, false] HT_ HW_ hHeld ?_
    refine one_ (i := 2) (N := some 27) #[true, true, true, false, false, false, false, false, false, false, false, false, false, false, false, false, false, false, false, false] rfl rfl (one_of HT_.out (by kernel_rfl)) (by decide) (fun K hK => ?_)
    refine goes_ Try.func109 (by kernel_rfl) rfl #[.agg #[.bool a0_0, .slice A0_1 l0_1.length c0_1, .slice A0_2 l0_2.length c0_2]] (by rfl) rfl rfl lu ?_
    with_reducible refine (codewrightref02_Floor.calls k a0_0 (fun k_ => (((P0_1_ k_ ∨ P0_2_ k_) ∨ w.heap.size ≤ k_) ∧ (some k_ ≠ (.slice aC an.length aD : Value).ownBlock ∧ (k_ ≠ ad ∧ (k_ ≠ ae ∧ k_ ≠ aa))))) _ _ l0_1 (fun k_ => (((P0_1_ k_ ∨ P0_2_ k_) ∨ w.heap.size ≤ k_) ∧ (some k_ ≠ (.slice aC an.length aD : Value).ownBlock ∧ (k_ ≠ ad ∧ (k_ ≠ ae ∧ k_ ≠ aa))))) _ _ l0_2 bk bl bm _ ?side1 ?side2 dD.out).mono ?_
    (case side1 => exact vz ak.out)
    (case side2 => exact vz al.out)
    rintro e e9 ⟨ce, cf, rfl, bj, bq, hb⟩
    refine ⟨_, rfl, ?_⟩
    replace ak := kv ak hb
    replace al := kv al hb
    replace ah := kv ah hb
    replace ai := kv ai hb
    replace au := kv au hb
    replace ay := kv ay hb
    replace aw := kv aw hb
    replace ax := kv ax hb
    have aO := ar w.heap.size (ok' := fun k_ => ((P0_1_ k_ ∨ P0_2_ k_) ∨ w.heap.size ≤ k_) ∧ some k_ ≠ (.slice aC an.length aD : Value).ownBlock ∧ k_ ≠ ad ∧ k_ ≠ ae ∧ k_ ≠ aa) bj (fa (fz3 HB aj aq az) (fa (fo ag) (fa (fb ab) (fa (fb ac) (fb af)))))
    have aP := ar w.heap.size (ok' := fun k_ => ((P0_1_ k_ ∨ P0_2_ k_) ∨ w.heap.size ≤ k_) ∧ some k_ ≠ (.slice aC an.length aD : Value).ownBlock ∧ k_ ≠ ad ∧ k_ ≠ ae ∧ k_ ≠ aa) bq (fa (fz3 HB aj aq az) (fa (fo ag) (fa (fb ab) (fa (fb ac) (fb af)))))
    replace ag := kn ag hb
    replace ab := kb ab hb
    replace ac := kb ac hb
    replace af := kb af hb
    replace HB := be3 HB aj aq az hb
    (try clear hb)
    (try clear hb2)
    (try clear hk)
    (try clear hi)
    (try clear bj)
    (try clear bq)
    obtain ⟨dT, dU, cw⟩ := Kd.V_slice aO.out
    (first | subst cw | (injection cw with f1_ f2_ f3_; have f4_ := f1_.symm; have f5_ := f3_.symm; clear f1_ f2_ f3_; subst f4_; subst f5_))
    obtain ⟨dV, dW, cx⟩ := Kd.V_slice aP.out
    (first | subst cx | (injection cx with f1_ f2_ f3_; have f4_ := f1_.symm; have f5_ := f3_.symm; clear f1_ f2_ f3_; subst f4_; subst f5_))
    refine hK.out _ _ ⟨bc ac 0, bc ac 1, bc ac 2, bc ab 0, bc ab 1, bc ab 2⟩ (fun hHeld => ?_)
    clear hK K
    refine nq 27 ?_
    refine one_ (i := 3) (N := some 28) #[true, true, true, true, false, false, false, false, false, false, false, false, false, false, false, false, false, false, false, false] rfl rfl (one_of HT_.out (by kernel_rfl)) (by decide) (fun K hK => ?_)
    refine goes_ Try.func83 (by kernel_rfl) rfl #[.agg #[.bool aS, .slice aZ aI.length a0, .slice a1 aJ.length a2], .agg #[.bool bk, .slice dT bl.length dU, .slice dV bm.length dW]] (by rfl) rfl rfl lu ?_
    with_reducible refine (codewrightlaw02_same.calls k aS _ _ aI _ _ aJ bk _ _ bl _ _ bm false _ ?side1 ?side2 ?side3 ?side4 ?side5 ?side6 ?side7 ?side8 dE.out).mono ?_
    (case side1 => exact cu (Kd.V_reads' ah.out).2.2)
    (case side2 => exact (Kd.V_reads' ah.out).2.1)
    (case side3 => exact cu (Kd.V_reads' ai.out).2.2)
    (case side4 => exact (Kd.V_reads' ai.out).2.1)
    (case side5 => exact cu (Kd.V_reads' aO.out).2.2)
    (case side6 => exact (Kd.V_reads' aO.out).2.1)
    (case side7 => exact cu (Kd.V_reads' aP.out).2.2)
    (case side8 => exact (Kd.V_reads' aP.out).2.1)
    rintro e fc ⟨rfl, hb⟩
    refine ⟨_, rfl, ?_⟩
    replace ak := kv ak hb
    replace al := kv al hb
    replace ag := kn ag hb
    replace ah := kv ah hb
    replace ai := kv ai hb
    replace au := kv au hb
    replace ay := kv ay hb
    replace aw := kv aw hb
    replace ax := kv ax hb
    replace aO := kv aO hb
    replace aP := kv aP hb
    replace ab := kb ab hb
    replace ac := kb ac hb
    replace af := kb af hb
    replace HB := be3 HB aj aq az hb
    (try clear hb)
    (try clear hb2)
    (try clear hk)
    (try clear hi)
    refine hK.out _ _ ⟨bc ac 0, bc ac 1, bc ac 2, bc ab 0, bc ab 1, bc ab 2⟩ (fun hHeld => ?_)
    clear hK K
    refine nq 28 ?_
    refine pq 4 (some 29) #[true, true, true, true, true, false, false, false, false, false, false, false, false, false, false, false, false, false, false, false] HT_ ?_
    refine pq 5 (some 30) #[true, true, true, true, true, true, false, false, false, false, false, false, false, false, false, false, false, false, false, false] HT_ ?_
    refine pure_ (i := 6) (N := some 31) (v := undef) (a' := ?_) #[true, true, true, true, true, true, true, false, false, false, false, false, false, false, false, false, false, false, false, false] rfl rfl (any_of HT_.out (by kernel_rfl)) (fun _ _ _ h => h) (Or.inr ⟨by rfl, rfl⟩) ?_ ?_
    rotate_left
    ·
     simp only [Act.put, List.setIfInBounds_toArray, List.set_cons_zero, List.set_cons_succ, i64_w, i32_w]
     rfl
    refine pure_ (i := 7) (N := some 32) (v := undef) (a' := ?_) #[true, true, true, true, true, true, true, true, false, false, false, false, false, false, false, false, false, false, false, false] rfl rfl (any_of HT_.out (by kernel_rfl)) (fun _ _ _ h => h) (Or.inr ⟨by rfl, rfl⟩) ?_ ?_
    rotate_left
    ·
     simp only [Act.put, List.setIfInBounds_toArray, List.set_cons_zero, List.set_cons_succ, i64_w, i32_w]
     rfl
    refine pure_ (i := 8) (N := some 33) (v := undef) (a' := ?_) #[true, true, true, true, true, true, true, true, true, false, false, false, false, false, false, false, false, false, false, false] rfl rfl (any_of HT_.out (by kernel_rfl)) (fun _ _ _ h => h) (Or.inr ⟨by rfl, rfl⟩) ?_ ?_
    rotate_left
    ·
     simp only [Act.put, List.setIfInBounds_toArray, List.set_cons_zero, List.set_cons_succ, i64_w, i32_w]
     rfl
    refine pure_ (i := 9) (N := some 34) (v := undef) (a' := ?_) #[true, true, true, true, true, true, true, true, true, true, false, false, false, false, false, false, false, false, false, false] rfl rfl (any_of HT_.out (by kernel_rfl)) (fun _ _ _ h => h) (Or.inr ⟨by rfl, rfl⟩) ?_ ?_
    rotate_left
    ·
     simp only [Act.put, List.setIfInBounds_toArray, List.set_cons_zero, List.set_cons_succ, i64_w, i32_w]
     rfl
    refine pq 10 (some 35) #[true, true, true, true, true, true, true, true, true, true, true, false, false, false, false, false, false, false, false, false] HT_ ?_
    refine pq 11 (some 36) #[true, true, true, true, true, true, true, true, true, true, true, true, false, false, false, false, false, false, false, false] HT_ ?_
    refine pure_ (i := 12) (N := some 37) (v := undef) (a' := ?_) #[true, true, true, true, true, true, true, true, true, true, true, true, true, false, false, false, false, false, false, false] rfl rfl (any_of HT_.out (by kernel_rfl)) (fun _ _ _ h => h) (Or.inr ⟨by rfl, rfl⟩) ?_ ?_
    rotate_left
    ·
     simp only [Act.put, List.setIfInBounds_toArray, List.set_cons_zero, List.set_cons_succ, i64_w, i32_w]
     rfl
    refine pure_ (i := 13) (N := some 38) (v := undef) (a' := ?_) #[true, true, true, true, true, true, true, true, true, true, true, true, true, true, false, false, false, false, false, false] rfl rfl (any_of HT_.out (by kernel_rfl)) (fun _ _ _ h => h) (Or.inr ⟨by rfl, rfl⟩) ?_ ?_
    rotate_left
    ·
     simp only [Act.put, List.setIfInBounds_toArray, List.set_cons_zero, List.set_cons_succ, i64_w, i32_w]
     rfl
    refine pure_ (i := 14) (N := some 39) (v := undef) (a' := ?_) #[true, true, true, true, true, true, true, true, true, true, true, true, true, true, true, false, false, false, false, false] rfl rfl (any_of HT_.out (by kernel_rfl)) (fun _ _ _ h => h) (Or.inr ⟨by rfl, rfl⟩) ?_ ?_
    rotate_left
    ·
     simp only [Act.put, List.setIfInBounds_toArray, List.set_cons_zero, List.set_cons_succ, i64_w, i32_w]
     rfl
    refine pure_ (i := 15) (N := some 40) (v := undef) (a' := ?_) #[true, true, true, true, true, true, true, true, true, true, true, true, true, true, true, true, false, false, false, false] rfl rfl (any_of HT_.out (by kernel_rfl)) (fun _ _ _ h => h) (Or.inr ⟨by rfl, rfl⟩) ?_ ?_
    rotate_left
    ·
     simp only [Act.put, List.setIfInBounds_toArray, List.set_cons_zero, List.set_cons_succ, i64_w, i32_w]
     rfl
    refine pure_ (i := 16) (N := some 41) (v := undef) (a' := ?_) #[true, true, true, true, true, true, true, true, true, true, true, true, true, true, true, true, true, false, false, false] rfl rfl (any_of HT_.out (by kernel_rfl)) (fun _ _ _ h => h) (Or.inr ⟨by rfl, rfl⟩) ?_ ?_
    rotate_left
    ·
     simp only [Act.put, List.setIfInBounds_toArray, List.set_cons_zero, List.set_cons_succ, i64_w, i32_w]
     rfl
    refine pure_ (i := 17) (N := some 42) (v := undef) (a' := ?_) #[true, true, true, true, true, true, true, true, true, true, true, true, true, true, true, true, true, true, false, false] rfl rfl (any_of HT_.out (by kernel_rfl)) (fun _ _ _ h => h) (Or.inr ⟨by rfl, rfl⟩) ?_ ?_
    rotate_left
    ·
     simp only [Act.put, List.setIfInBounds_toArray, List.set_cons_zero, List.set_cons_succ, i64_w, i32_w]
     rfl
    refine pure_ (i := 18) (N := some 43) (v := undef) (a' := ?_) #[true, true, true, true, true, true, true, true, true, true, true, true, true, true, true, true, true, true, true, false] rfl rfl (any_of HT_.out (by kernel_rfl)) (fun _ _ _ h => h) (Or.inr ⟨by rfl, rfl⟩) ?_ ?_
    rotate_left
    ·
     simp only [Act.put, List.setIfInBounds_toArray, List.set_cons_zero, List.set_cons_succ, i64_w, i32_w]
     rfl
    refine pq 19 (some 44) #[true, true, true, true, true, true, true, true, true, true, true, true, true, true, true, true, true, true, true, true] HT_ ?_
    refine done_ (done_of HT_.out (by kernel_rfl)) ?_
    try go_wp2
    go_meet
    case rel => exact ⟨_, (true), (by first | rfl | (simp; done) | (simp [*]; done)), H', ⟨by first | omega | exact Nat.le_refl _⟩, ⟨by exact vz au.out⟩, ⟨by exact vz ay.out⟩, ⟨by exact vz ak.out⟩, ⟨by exact vz al.out⟩, ⟨by exact vz ah.out⟩, ⟨by exact vz ai.out⟩, ⟨by exact vz aw.out⟩, ⟨by exact vz ax.out⟩, ⟨by (with_reducible repeat (first | refine blk_drewN ?_ _ | refine blk_drew ?_ | refine blk_alloc ?_ _)); exact ab.out⟩, ⟨by (with_reducible repeat (first | refine blk_drewN ?_ _ | refine blk_drew ?_ | refine blk_alloc ?_ _)); exact ac.out⟩, ⟨by (with_reducible repeat (first | refine blk_drewN ?_ _ | refine blk_drew ?_ | refine blk_alloc ?_ _)); exact af.out⟩, ⟨by repeat (first | (with_reducible first | exact HB.out | apply below_alloc | apply pw_below_drewN | apply below_drew1 | refine below_set ?_ aj.out | refine below_set ?_ aq.out | refine below_set ?_ az.out) | exact HB.out)⟩⟩
  case rest =>
   clear ci
   try clear c1
   try clear p2
   try clear c3
   try clear c4
   try clear c8
   try clear c9
   try clear c10
   try clear cm
   obtain ⟨kq, bF, rfl, HA, HJ12, a5, a6, aA, aB, aE, aF, aG, aH, ab, ac, af, HB⟩ := hcut
   cases kq with
   | zero => exact absurd HA.out (by simp [codewrightlaw02_RationalFloors.j0])
   | succ kj12 =>
    have H := HA.out
    clear HA
    simp only [codewrightlaw02_RationalFloors.j0] at H
    by_cases dl : bF = true
    ·
     subst dl
     have H1 : (none) = some r := by rw [if_pos rfl] at H; exact H
     clear H
     have H := H1
     clear H1
     exact absurd H (by simp)
    ·
     replace dl := Bool.eq_false_iff.mpr dl
     subst dl
     have H1 : (if (a7 == ba) = true then ((codewrightlaw02_same.f kj12 false aX ([] : List Int) false aY ([] : List Int)).bind fun b5 => (if b5 = true then (if a7 = true then ((rational_Floor.f kj12 a0_0 l0_1 l0_2).bind fun a3 => ((rational_Trim.f kj12 a0_0 l0_1 l0_2).bind fun a4 => ((codewrightlaw02_same.f kj12 a3.1 a3.2.1 a3.2.2 a4.1 a4.2.1 a4.2.2).bind fun bp => (some bp)))) else (some true)) else (none))) else (none)) = some r := by rw [if_neg (show ¬ (false = true) by decide)] at H; exact H
     clear H
     have H := H1
     clear H1
     by_cases ck : (a7 == ba) = true
     ·
      rw [if_pos ck] at H
      have et : (a7 == ba) = true := ck
      (try (have eu : decide (a7 = ba) = true := by simpa using ck))
      (try (have ev : (a7 == ba) = true := by simpa using ck))
      clear ck
      obtain ⟨b5, ew, H⟩ := bs H
      (try dsimp -simprocs only at H)
      by_cases dm : b5 = true
      ·
       subst dm
       have H1 : (if a7 = true then ((rational_Floor.f kj12 a0_0 l0_1 l0_2).bind fun a3 => ((rational_Trim.f kj12 a0_0 l0_1 l0_2).bind fun a4 => ((codewrightlaw02_same.f kj12 a3.1 a3.2.1 a3.2.2 a4.1 a4.2.1 a4.2.2).bind fun bp => (some bp)))) else (some true)) = some r := by rw [if_pos rfl] at H; exact H
       clear H
       have H := H1
       clear H1
       by_cases dn : a7 = true
       ·
        subst dn
        have H1 : ((rational_Floor.f kj12 a0_0 l0_1 l0_2).bind fun a3 => ((rational_Trim.f kj12 a0_0 l0_1 l0_2).bind fun a4 => ((codewrightlaw02_same.f kj12 a3.1 a3.2.1 a3.2.2 a4.1 a4.2.1 a4.2.2).bind fun bp => (some bp)))) = some r := by rw [if_pos rfl] at H; exact H
        clear H
        have H := H1
        clear H1
        obtain ⟨⟨b6, b7, b8⟩, eR, H⟩ := bs H
        (try dsimp -simprocs only at H)
        obtain ⟨⟨b9, ca, cb⟩, eS, H⟩ := bs H
        (try dsimp -simprocs only at H)
        obtain ⟨bp, eT, H⟩ := bs H
        replace H : (some bp) = some r := H
        obtain rfl := Option.some.inj H
        try go_wp2
        replace a5 := am (Kd.V_drew a5.out)
        replace a6 := am (Kd.V_drew a6.out)
        replace aA := am (Kd.V_drew aA.out)
        replace aB := am (Kd.V_drew aB.out)
        replace aE := am (Kd.V_drew aE.out)
        replace aF := am (Kd.V_drew aF.out)
        replace aG := am (Kd.V_drew aG.out)
        replace aH := am (Kd.V_drew aH.out)
        replace ab := am (blk_drew ab.out)
        replace ac := am (blk_drew ac.out)
        replace af := am (blk_drew af.out)
        replace HB := am (below_drew1 HB.out)
        obtain ⟨dX, dY, cy⟩ := Kd.V_slice a5.out
        (first | subst cy | (injection cy with f1_ f2_ f3_; have f4_ := f1_.symm; have f5_ := f3_.symm; clear f1_ f2_ f3_; subst f4_; subst f5_))
        obtain ⟨dZ, d0, cz⟩ := Kd.V_slice a6.out
        (first | subst cz | (injection cz with f1_ f2_ f3_; have f4_ := f1_.symm; have f5_ := f3_.symm; clear f1_ f2_ f3_; subst f4_; subst f5_))
        refine start_ (n := 22) (S := fun w' => w'.cell? ⟨ad, 0, none⟩ = some (.bool a0_0) ∧ w'.cell? ⟨ad, 1, none⟩ = some (.slice A0_1 l0_1.length c0_1) ∧ w'.cell? ⟨ad, 2, none⟩ = some (.slice A0_2 l0_2.length c0_2)) (ds := []) #[false, false, false, false, false, false, false, false, false, false, false, false, false, false, false, false, false, false, false, false, false, false] (by kernel_rfl) rfl rfl ⟨bc ab 0, bc ab 1, bc ab 2⟩ (fun hHeld => ?_); refine with_tabW codewrightlaw02_RationalFloors.tab9 codewrightlaw02_RationalFloors.bits9 (fun HT_ HW_ => ?_)
        generalize wc.drew = fd at a5 a6 aA aB aE aF aG aH ab ac af HB hHeld ⊢
        refine pq 0 (some 45) #[true, false, false, false, false, false, false, false, false, false, false, false, false, false, false, false, false, false, false, false, false, false] HT_ ?_
        refine pq 1 (some 46) #[true, true, false, false, false, false, false, false, false, false, false, false, false, false, false, false, false, false, false, false, false, false] HT_ ?_
        refine pq 2 (some 47) #[true, true, true, false, false, false, false, false, false, false, false, false, false, false, false, false, false, false, false, false, false, false] HT_ ?_
        refine pq 3 (some 48) #[true, true, true, true, false, false, false, false, false, false, false, false, false, false, false, false, false, false, false, false, false, false] HT_ ?_
        refine pq 4 (some 49) #[true, true, true, true, true, false, false, false, false, false, false, false, false, false, false, false, false, false, false, false, false, false] HT_ ?_
        refine pq 5 (some 50) #[true, true, true, true, true, true, false, false, false, false, false, false, false, false, false, false, false, false, false, false, false, false] HT_ ?_
        refine pq 6 (some 51) #[true, true, true, true, true, true, true, false, false, false, false, false, false, false, false, false, false, false, false, false, false, false] HT_ ?_
        refine pq 7 (some 52) #[true, true, true, true, true, true, true, true, false, false, false, false, false, false, false, false, false, false, false, false, false, false] HT_ ?_
        refine one_ (i := 8) (N := some 53) #[true, true, true, true, true, true, true, true, true, false, false, false, false, false, false, false, false, false, false, false, false, false] rfl rfl (one_of HT_.out (by kernel_rfl)) (by decide) (fun K hK => ?_)
        refine goes_ Try.func83 (by kernel_rfl) rfl #[.agg #[.bool false, .slice dX aX.length dY, .slice none 0 0], .agg #[.bool false, .slice dZ aY.length d0, .slice none 0 0]] (by rfl) rfl rfl lu ?_
        refine (codewrightlaw02_same.calls kj12 false _ _ aX _ _ ([] : List Int) false _ _ aY _ _ ([] : List Int) true _ ?side1 ?side2 ?side3 ?side4 ?side5 ?side6 ?side7 ?side8 ew.out).mono ?_
        (case side1 => exact cu (Kd.V_reads' a5.out).2.2)
        (case side2 => exact (Kd.V_reads' a5.out).2.1)
        (case side3 => exact Kd.C_nil _ _)
        (case side4 => exact Nat.le_refl _)
        (case side5 => exact cu (Kd.V_reads' a6.out).2.2)
        (case side6 => exact (Kd.V_reads' a6.out).2.1)
        (case side7 => exact Kd.C_nil _ _)
        (case side8 => exact Nat.le_refl _)
        rintro e fe ⟨rfl, hb⟩
        refine ⟨_, rfl, ?_⟩
        replace a5 := kv a5 hb
        replace a6 := kv a6 hb
        replace aA := kv aA hb
        replace aB := kv aB hb
        replace aE := kv aE hb
        replace aF := kv aF hb
        replace aG := kv aG hb
        replace aH := kv aH hb
        replace ab := kb ab hb
        replace ac := kb ac hb
        replace af := kb af hb
        replace HB := be3 HB aj aq az hb
        (try clear hb)
        (try clear hb2)
        (try clear hk)
        (try clear hi)
        refine hK.out _ _ ⟨bc ab 0, bc ab 1, bc ab 2⟩ (fun hHeld => ?_)
        clear hK K
        refine nq 53 ?_
        refine pq 9 (some 54) #[true, true, true, true, true, true, true, true, true, true, false, false, false, false, false, false, false, false, false, false, false, false] HT_ ?_
        refine pq 10 (some 55) #[true, true, true, true, true, true, true, true, true, true, true, false, false, false, false, false, false, false, false, false, false, false] HT_ ?_
        refine pq 11 (some 56) #[true, true, true, true, true, true, true, true, true, true, true, true, false, false, false, false, false, false, false, false, false, false] HT_ ?_
        refine pq 12 (some 57) #[true, true, true, true, true, true, true, true, true, true, true, true, true, false, false, false, false, false, false, false, false, false] HT_ ?_
        refine pq 13 (some 58) #[true, true, true, true, true, true, true, true, true, true, true, true, true, true, false, false, false, false, false, false, false, false] HT_ ?_
        refine tq 14 (some 59) #[true, true, true, true, true, true, true, true, true, true, true, true, true, true, true, false, false, false, false, false, false, false] HT_ HW_ hHeld ?_
        refine tq 16 (some 61) #[true, true, true, true, true, true, true, true, true, true, true, true, true, true, true, false, true, false, false, false, false, false] HT_ HW_ hHeld ?_
        refine one_ (i := 15) (N := some 60) #[true, true, true, true, true, true, true, true, true, true, true, true, true, true, true, true, true, false, false, false, false, false] rfl rfl (one_of HT_.out (by kernel_rfl)) (by decide) (fun K hK => ?_)
        refine goes_ Try.func106 (by kernel_rfl) rfl #[.agg #[.bool a0_0, .slice A0_1 l0_1.length c0_1, .slice A0_2 l0_2.length c0_2]] (by rfl) rfl rfl lu ?_
        with_reducible refine (rational_Floor.calls kj12 a0_0 (fun k_ => (((P0_1_ k_ ∨ P0_2_ k_) ∨ w.heap.size ≤ k_) ∧ (k_ ≠ ad ∧ (k_ ≠ ae ∧ k_ ≠ aa)))) _ _ l0_1 (fun k_ => (((P0_1_ k_ ∨ P0_2_ k_) ∨ w.heap.size ≤ k_) ∧ (k_ ≠ ad ∧ (k_ ≠ ae ∧ k_ ≠ aa)))) _ _ l0_2 b6 b7 b8 _ ?side1 ?side2 eR.out).mono ?_
        (case side1 => exact vz aA.out)
        (case side2 => exact vz aB.out)
        rintro e ff ⟨ex, ey, rfl, bj, bq, hb⟩
        refine ⟨_, rfl, ?_⟩
        replace a5 := kv a5 hb
        replace a6 := kv a6 hb
        replace aA := kv aA hb
        replace aB := kv aB hb
        replace aE := kv aE hb
        replace aF := kv aF hb
        replace aG := kv aG hb
        replace aH := kv aH hb
        have bh := ar w.heap.size (ok' := fun k_ => ((P0_1_ k_ ∨ P0_2_ k_) ∨ w.heap.size ≤ k_) ∧ k_ ≠ ad ∧ k_ ≠ ae ∧ k_ ≠ aa) bj (fa (fz3 HB aj aq az) (fa (fb ab) (fa (fb ac) (fb af))))
        have bi := ar w.heap.size (ok' := fun k_ => ((P0_1_ k_ ∨ P0_2_ k_) ∨ w.heap.size ≤ k_) ∧ k_ ≠ ad ∧ k_ ≠ ae ∧ k_ ≠ aa) bq (fa (fz3 HB aj aq az) (fa (fb ab) (fa (fb ac) (fb af))))
        replace ab := kb ab hb
        replace ac := kb ac hb
        replace af := kb af hb
        replace HB := be3 HB aj aq az hb
        (try clear hb)
        (try clear hb2)
        (try clear hk)
        (try clear hi)
        (try clear bj)
        (try clear bq)
        refine hK.out _ _ ⟨bc ab 0, bc ab 1, bc ab 2⟩ (fun hHeld => ?_)
        clear hK K
        refine nq 60 ?_
        refine one_ (i := 17) (N := some 62) #[true, true, true, true, true, true, true, true, true, true, true, true, true, true, true, true, true, true, false, false, false, false] rfl rfl (one_of HT_.out (by kernel_rfl)) (by decide) (fun K hK => ?_)
        refine goes_ Try.func87 (by kernel_rfl) rfl #[.agg #[.bool a0_0, .slice A0_1 l0_1.length c0_1, .slice A0_2 l0_2.length c0_2]] (by rfl) rfl rfl lu ?_
        with_reducible refine (rational_Trim.calls kj12 a0_0 (fun k_ => (((P0_1_ k_ ∨ P0_2_ k_) ∨ w.heap.size ≤ k_) ∧ (k_ ≠ ad ∧ (k_ ≠ ae ∧ k_ ≠ aa)))) _ _ l0_1 (fun k_ => (((P0_1_ k_ ∨ P0_2_ k_) ∨ w.heap.size ≤ k_) ∧ (k_ ≠ ad ∧ (k_ ≠ ae ∧ k_ ≠ aa)))) _ _ l0_2 b9 ca cb _ ?side1 ?side2 eS.out).mono ?_
        (case side1 => exact vz aA.out)
        (case side2 => exact vz aB.out)
        rintro e fg ⟨ez, eA, rfl, bj, bq, hb⟩
        refine ⟨_, rfl, ?_⟩
        replace a5 := kv a5 hb
        replace a6 := kv a6 hb
        replace aA := kv aA hb
        replace aB := kv aB hb
        replace aE := kv aE hb
        replace aF := kv aF hb
        replace aG := kv aG hb
        replace aH := kv aH hb
        replace bh := kv bh hb
        replace bi := kv bi hb
        have bC := ar w.heap.size (ok' := fun k_ => ((P0_1_ k_ ∨ P0_2_ k_) ∨ w.heap.size ≤ k_) ∧ k_ ≠ ad ∧ k_ ≠ ae ∧ k_ ≠ aa) bj (fa (fz3 HB aj aq az) (fa (fb ab) (fa (fb ac) (fb af))))
        have bD := ar w.heap.size (ok' := fun k_ => ((P0_1_ k_ ∨ P0_2_ k_) ∨ w.heap.size ≤ k_) ∧ k_ ≠ ad ∧ k_ ≠ ae ∧ k_ ≠ aa) bq (fa (fz3 HB aj aq az) (fa (fb ab) (fa (fb ac) (fb af))))
        replace ab := kb ab hb
        replace ac := kb ac hb
        replace af := kb af hb
        replace HB := be3 HB aj aq az hb
        (try clear hb)
        (try clear hb2)
        (try clear hk)
        (try clear hi)
        (try clear bj)
        (try clear bq)
        obtain ⟨d1, d2, cA⟩ := Kd.V_slice bh.out
        (first | subst cA | (injection cA with f1_ f2_ f3_; have f4_ := f1_.symm; have f5_ := f3_.symm; clear f1_ f2_ f3_; subst f4_; subst f5_))
        obtain ⟨d3, d4, cB⟩ := Kd.V_slice bi.out
        (first | subst cB | (injection cB with f1_ f2_ f3_; have f4_ := f1_.symm; have f5_ := f3_.symm; clear f1_ f2_ f3_; subst f4_; subst f5_))
        obtain ⟨d5, d6, cC⟩ := Kd.V_slice bC.out
        (first | subst cC | (injection cC with f1_ f2_ f3_; have f4_ := f1_.symm; have f5_ := f3_.symm; clear f1_ f2_ f3_; subst f4_; subst f5_))
        obtain ⟨d7, d8, cD⟩ := Kd.V_slice bD.out
        (first | subst cD | (injection cD with f1_ f2_ f3_; have f4_ := f1_.symm; have f5_ := f3_.symm; clear f1_ f2_ f3_; subst f4_; subst f5_))
        refine hK.out _ _ ⟨bc ab 0, bc ab 1, bc ab 2⟩ (fun hHeld => ?_)
        clear hK K
        refine nq 62 ?_
        refine one_ (i := 18) (N := some 63) #[true, true, true, true, true, true, true, true, true, true, true, true, true, true, true, true, true, true, true, false, false, false] rfl rfl (one_of HT_.out (by kernel_rfl)) (by decide) (fun K hK => ?_)
        refine goes_ Try.func83 (by kernel_rfl) rfl #[.agg #[.bool b6, .slice d1 b7.length d2, .slice d3 b8.length d4], .agg #[.bool b9, .slice d5 ca.length d6, .slice d7 cb.length d8]] (by rfl) rfl rfl lu ?_
        with_reducible refine (codewrightlaw02_same.calls kj12 b6 _ _ b7 _ _ b8 b9 _ _ ca _ _ cb bp _ ?side1 ?side2 ?side3 ?side4 ?side5 ?side6 ?side7 ?side8 eT.out).mono ?_
        (case side1 => exact cu (Kd.V_reads' bh.out).2.2)
        (case side2 => exact (Kd.V_reads' bh.out).2.1)
        (case side3 => exact cu (Kd.V_reads' bi.out).2.2)
        (case side4 => exact (Kd.V_reads' bi.out).2.1)
        (case side5 => exact cu (Kd.V_reads' bC.out).2.2)
        (case side6 => exact (Kd.V_reads' bC.out).2.1)
        (case side7 => exact cu (Kd.V_reads' bD.out).2.2)
        (case side8 => exact (Kd.V_reads' bD.out).2.1)
        rintro e fh ⟨rfl, hb⟩
        refine ⟨_, rfl, ?_⟩
        replace a5 := kv a5 hb
        replace a6 := kv a6 hb
        replace aA := kv aA hb
        replace aB := kv aB hb
        replace aE := kv aE hb
        replace aF := kv aF hb
        replace aG := kv aG hb
        replace aH := kv aH hb
        replace bh := kv bh hb
        replace bi := kv bi hb
        replace bC := kv bC hb
        replace bD := kv bD hb
        replace ab := kb ab hb
        replace ac := kb ac hb
        replace af := kb af hb
        replace HB := be3 HB aj aq az hb
        (try clear hb)
        (try clear hb2)
        (try clear hk)
        (try clear hi)
        refine hK.out _ _ ⟨bc ab 0, bc ab 1, bc ab 2⟩ (fun hHeld => ?_)
        clear hK K
        refine nq 63 ?_
        refine pq 19 (some 64) #[true, true, true, true, true, true, true, true, true, true, true, true, true, true, true, true, true, true, true, true, false, false] HT_ ?_
        refine pq 20 (some 65) #[true, true, true, true, true, true, true, true, true, true, true, true, true, true, true, true, true, true, true, true, true, false] HT_ ?_
        refine pq 21 (some 2) #[true, true, true, true, true, true, true, true, true, true, true, true, true, true, true, true, true, true, true, true, true, true] HT_ ?_
        refine done_ (done_of HT_.out (by kernel_rfl)) ?_
        try go_wp2
        go_ret
        exact ⟨by first | rfl | (simp [errW_none, errW_some] <;> rfl) | (simp [*, errW_none, errW_some] <;> rfl), by repeat (first | (with_reducible first | exact HB.out | apply below_alloc | apply pw_below_drewN | apply below_drew1 | refine below_set ?_ aj.out | refine below_set ?_ aq.out | refine below_set ?_ az.out) | exact HB.out)⟩
       ·
        replace dn := Bool.eq_false_iff.mpr dn
        subst dn
        have H1 : (some true) = some r := by rw [if_neg (show ¬ (false = true) by decide)] at H; exact H
        clear H
        have H := H1
        clear H1
        obtain rfl := Option.some.inj H
        try go_wp2
        replace a5 := am (Kd.V_drew a5.out)
        replace a6 := am (Kd.V_drew a6.out)
        replace aA := am (Kd.V_drew aA.out)
        replace aB := am (Kd.V_drew aB.out)
        replace aE := am (Kd.V_drew aE.out)
        replace aF := am (Kd.V_drew aF.out)
        replace aG := am (Kd.V_drew aG.out)
        replace aH := am (Kd.V_drew aH.out)
        replace ab := am (blk_drew ab.out)
        replace ac := am (blk_drew ac.out)
        replace af := am (blk_drew af.out)
        replace HB := am (below_drew1 HB.out)
        obtain ⟨d9, ea, cE⟩ := Kd.V_slice a5.out
        (first | subst cE | (injection cE with f1_ f2_ f3_; have f4_ := f1_.symm; have f5_ := f3_.symm; clear f1_ f2_ f3_; subst f4_; subst f5_))
        obtain ⟨eb, ec, cF⟩ := Kd.V_slice a6.out
        (first | subst cF | (injection cF with f1_ f2_ f3_; have f4_ := f1_.symm; have f5_ := f3_.symm; clear f1_ f2_ f3_; subst f4_; subst f5_))
        refine start_ (n := 22) (S := fun w' => True) (ds := []) #[false, false, false, false, false, false, false, false, false, false, false, false, false, false, false, false, false, false, false, false, false, false] (by kernel_rfl) rfl rfl trivial (fun hHeld => ?_); refine with_tabW codewrightlaw02_RationalFloors.tab9 codewrightlaw02_RationalFloors.bits9 (fun HT_ HW_ => ?_)
        generalize wc.drew = fi at a5 a6 aA aB aE aF aG aH ab ac af HB hHeld ⊢
        refine pq 0 (some 45) #[true, false, false, false, false, false, false, false, false, false, false, false, false, false, false, false, false, false, false, false, false, false] HT_ ?_
        refine pq 1 (some 46) #[true, true, false, false, false, false, false, false, false, false, false, false, false, false, false, false, false, false, false, false, false, false] HT_ ?_
        refine pq 2 (some 47) #[true, true, true, false, false, false, false, false, false, false, false, false, false, false, false, false, false, false, false, false, false, false] HT_ ?_
        refine pq 3 (some 48) #[true, true, true, true, false, false, false, false, false, false, false, false, false, false, false, false, false, false, false, false, false, false] HT_ ?_
        refine pq 4 (some 49) #[true, true, true, true, true, false, false, false, false, false, false, false, false, false, false, false, false, false, false, false, false, false] HT_ ?_
        refine pq 5 (some 50) #[true, true, true, true, true, true, false, false, false, false, false, false, false, false, false, false, false, false, false, false, false, false] HT_ ?_
        refine pq 6 (some 51) #[true, true, true, true, true, true, true, false, false, false, false, false, false, false, false, false, false, false, false, false, false, false] HT_ ?_
        refine pq 7 (some 52) #[true, true, true, true, true, true, true, true, false, false, false, false, false, false, false, false, false, false, false, false, false, false] HT_ ?_
        refine one_ (i := 8) (N := some 53) #[true, true, true, true, true, true, true, true, true, false, false, false, false, false, false, false, false, false, false, false, false, false] rfl rfl (one_of HT_.out (by kernel_rfl)) (by decide) (fun K hK => ?_)
        refine goes_ Try.func83 (by kernel_rfl) rfl #[.agg #[.bool false, .slice d9 aX.length ea, .slice none 0 0], .agg #[.bool false, .slice eb aY.length ec, .slice none 0 0]] (by rfl) rfl rfl lu ?_
        refine (codewrightlaw02_same.calls kj12 false _ _ aX _ _ ([] : List Int) false _ _ aY _ _ ([] : List Int) true _ ?side1 ?side2 ?side3 ?side4 ?side5 ?side6 ?side7 ?side8 ew.out).mono ?_
        (case side1 => exact cu (Kd.V_reads' a5.out).2.2)
        (case side2 => exact (Kd.V_reads' a5.out).2.1)
        (case side3 => exact Kd.C_nil _ _)
        (case side4 => exact Nat.le_refl _)
        (case side5 => exact cu (Kd.V_reads' a6.out).2.2)
        (case side6 => exact (Kd.V_reads' a6.out).2.1)
        (case side7 => exact Kd.C_nil _ _)
        (case side8 => exact Nat.le_refl _)
        rintro e fj ⟨rfl, hb⟩
        refine ⟨_, rfl, ?_⟩
        replace a5 := kv a5 hb
        replace a6 := kv a6 hb
        replace aA := kv aA hb
        replace aB := kv aB hb
        replace aE := kv aE hb
        replace aF := kv aF hb
        replace aG := kv aG hb
        replace aH := kv aH hb
        replace ab := kb ab hb
        replace ac := kb ac hb
        replace af := kb af hb
        replace HB := be3 HB aj aq az hb
        (try clear hb)
        (try clear hb2)
        (try clear hk)
        (try clear hi)
        refine hK.out _ _ trivial (fun hHeld => ?_)
        clear hK K
        refine nq 53 ?_
        refine pq 9 (some 54) #[true, true, true, true, true, true, true, true, true, true, false, false, false, false, false, false, false, false, false, false, false, false] HT_ ?_
        refine pq 10 (some 55) #[true, true, true, true, true, true, true, true, true, true, true, false, false, false, false, false, false, false, false, false, false, false] HT_ ?_
        refine pq 11 (some 56) #[true, true, true, true, true, true, true, true, true, true, true, true, false, false, false, false, false, false, false, false, false, false] HT_ ?_
        refine pq 12 (some 57) #[true, true, true, true, true, true, true, true, true, true, true, true, true, false, false, false, false, false, false, false, false, false] HT_ ?_
        refine pq 13 (some 58) #[true, true, true, true, true, true, true, true, true, true, true, true, true, true, false, false, false, false, false, false, false, false] HT_ ?_
        refine pure_ (i := 14) (N := some 59) (v := undef) (a' := ?_) #[true, true, true, true, true, true, true, true, true, true, true, true, true, true, true, false, false, false, false, false, false, false] rfl rfl (any_of HT_.out (by kernel_rfl)) (fun _ _ _ h => h) (Or.inr ⟨by rfl, rfl⟩) ?_ ?_
        rotate_left
        ·
         simp only [Act.put, List.setIfInBounds_toArray, List.set_cons_zero, List.set_cons_succ, i64_w, i32_w]
         rfl
        refine pure_ (i := 15) (N := some 60) (v := undef) (a' := ?_) #[true, true, true, true, true, true, true, true, true, true, true, true, true, true, true, true, false, false, false, false, false, false] rfl rfl (any_of HT_.out (by kernel_rfl)) (fun _ _ _ h => h) (Or.inr ⟨by rfl, rfl⟩) ?_ ?_
        rotate_left
        ·
         simp only [Act.put, List.setIfInBounds_toArray, List.set_cons_zero, List.set_cons_succ, i64_w, i32_w]
         rfl
        refine pure_ (i := 16) (N := some 61) (v := undef) (a' := ?_) #[true, true, true, true, true, true, true, true, true, true, true, true, true, true, true, true, true, false, false, false, false, false] rfl rfl (any_of HT_.out (by kernel_rfl)) (fun _ _ _ h => h) (Or.inr ⟨by rfl, rfl⟩) ?_ ?_
        rotate_left
        ·
         simp only [Act.put, List.setIfInBounds_toArray, List.set_cons_zero, List.set_cons_succ, i64_w, i32_w]
         rfl
        refine pure_ (i := 17) (N := some 62) (v := undef) (a' := ?_) #[true, true, true, true, true, true, true, true, true, true, true, true, true, true, true, true, true, true, false, false, false, false] rfl rfl (any_of HT_.out (by kernel_rfl)) (fun _ _ _ h => h) (Or.inr ⟨by rfl, rfl⟩) ?_ ?_
        rotate_left
        ·
         simp only [Act.put, List.setIfInBounds_toArray, List.set_cons_zero, List.set_cons_succ, i64_w, i32_w]
         rfl
        refine pure_ (i := 18) (N := some 63) (v := undef) (a' := ?_) #[true, true, true, true, true, true, true, true, true, true, true, true, true, true, true, true, true, true, true, false, false, false] rfl rfl (any_of HT_.out (by kernel_rfl)) (fun _ _ _ h => h) (Or.inr ⟨by rfl, rfl⟩) ?_ ?_
        rotate_left
        ·
         simp only [Act.put, List.setIfInBounds_toArray, List.set_cons_zero, List.set_cons_succ, i64_w, i32_w]
         rfl
        refine pq 19 (some 64) #[true, true, true, true, true, true, true, true, true, true, true, true, true, true, true, true, true, true, true, true, false, false] HT_ ?_
        refine pq 20 (some 65) #[true, true, true, true, true, true, true, true, true, true, true, true, true, true, true, true, true, true, true, true, true, false] HT_ ?_
        refine pq 21 (some 2) #[true, true, true, true, true, true, true, true, true, true, true, true, true, true, true, true, true, true, true, true, true, true] HT_ ?_
        refine done_ (done_of HT_.out (by kernel_rfl)) ?_
        try go_wp2
        go_ret
        exact ⟨by first | rfl | (simp [errW_none, errW_some] <;> rfl) | (simp [*, errW_none, errW_some] <;> rfl), by repeat (first | (with_reducible first | exact HB.out | apply below_alloc | apply pw_below_drewN | apply below_drew1 | refine below_set ?_ aj.out | refine below_set ?_ aq.out | refine below_set ?_ az.out) | exact HB.out)⟩
      ·
       replace dm := Bool.eq_false_iff.mpr dm
       subst dm
       have H1 : (none) = some r := by rw [if_neg (show ¬ (false = true) by decide)] at H; exact H
       clear H
       have H := H1
       clear H1
       exact absurd H (by simp)
     ·
      rw [if_neg ck] at H
      exact absurd H (by simp)
end Go.Proofs.Ytecfdemglbfnoaa.PT
end
section
namespace Go.Proofs.Ytecfdemglbfnoaa.Num
open Go.RowKit Go.Proofs.Ytecfdemglbfnoaa.PT Go.Proofs.YtecfdemglbfnoaaW.PrintWords
def rep (q : Rat) : Bool × List Int × List Int := (decide (q.num < 0), lb q.num.natAbs, lb q.den)
def sg (neg : Bool) (n : Nat) : Int := if neg then -(n : Int) else (n : Int)
def rv (neg : Bool) (n d : List Int) : Rat := mkRat (sg neg (valn n)) (valn d)
def Sz (m : Nat) (q : Rat) : Prop := q.num.natAbs < pw m ∧ q.den < pw m
theorem sg_abs (neg : Bool) (n : Nat) : (sg neg n).natAbs = n := by cases neg <;> simp [sg]
theorem sg_self (z : Int) : sg (decide (z < 0)) z.natAbs = z := by
  by_cases h : z < 0
  · rw [decide_eq_true h]; simp only [sg, if_true]; omega
  · rw [decide_eq_false h]; simp only [sg, Bool.false_eq_true, if_false]; omega
theorem sg_zero (neg : Bool) : sg neg 0 = 0 := by cases neg <;> rfl
theorem sg_ne {neg : Bool} {n : Nat} (h : n ≠ 0) : sg neg n ≠ 0 := by cases neg <;> simp [sg, h]
theorem sg_add (neg : Bool) (m n : Nat) : sg neg (m + n) = sg neg m + sg neg n := by cases neg <;> simp [sg] <;> omega
theorem sg_sub (neg : Bool) {m n : Nat} (h : n ≤ m) : sg neg (m - n) = sg neg m + sg (!neg) n := by cases neg <;> simp [sg] <;> omega
theorem sg_mulN (a : Bool) (m n : Nat) : sg a (m * n) = sg a m * (n : Int) := by cases a <;> simp [sg, Int.neg_mul]
theorem sg_not (neg : Bool) (n : Nat) : sg (!neg) n = - sg neg n := by cases neg <;> simp [sg]
theorem sg_div (neg : Bool) {m g : Nat} (h : g ∣ m) : sg neg m / (g : Int) = sg neg (m / g) := by
  cases neg
  · simp [sg]
  · simp only [sg, if_true]
    rw [Int.neg_ediv_of_dvd (Int.ofNat_dvd.mpr h)]; rfl
theorem rv_zero_num (neg : Bool) {n d : List Int} (h : valn n = 0) : rv neg n d = 0 := by rw [rv, h, sg_zero]; exact Rat.zero_mkRat _
theorem rv_zero_den (neg : Bool) {n d : List Int} (h : valn d = 0) : rv neg n d = 0 := by rw [rv, h]; exact Rat.mkRat_zero _
theorem rv_rep (q : Rat) : rv (rep q).1 (rep q).2.1 (rep q).2.2 = q := by
  simp only [rep, rv, valn_lb, sg_self]; exact Rat.mkRat_self q
theorem rep_zero : rep 0 = (false, [], [1]) := by
  simp only [rep, Rat.zero_num, Rat.zero_den]
  rw [show lb (0 : Int).natAbs = [] from lb_zero, show lb 1 = [1] from by rw [lb_pos (by decide), show (1 : Nat) / 4294967296 = 0 from rfl, lb_zero]; rfl]
  rfl
theorem rep_inj {p q : Rat} (h : rep p = rep q) : p = q := by rw [← rv_rep p, ← rv_rep q, h]
theorem rep_mkRat (neg : Bool) {n d : Nat} (hn : n ≠ 0) (hd : d ≠ 0) : rep (mkRat (sg neg n) d) = (neg, lb (n / n.gcd d), lb (d / n.gcd d)) := by
  have hg : d.gcd n = n.gcd d := Nat.gcd_comm d n
  have hdv : n.gcd d ∣ n := Nat.gcd_dvd_left n d
  have hq : n / n.gcd d ≠ 0 := Nat.ne_of_gt (Nat.div_pos (Nat.le_of_dvd (Nat.pos_of_ne_zero hn) hdv) (Nat.gcd_pos_of_pos_left _ (Nat.pos_of_ne_zero hn)))
  have hnum : (mkRat (sg neg n) d).num = sg neg (n / n.gcd d) := by
    rw [Rat.num_mkRat, if_neg hd, sg_abs, hg, sg_div neg hdv]
  have hden : (mkRat (sg neg n) d).den = d / n.gcd d := by
    rw [Rat.den_mkRat, if_neg hd, sg_abs, hg]
  have hs : decide (sg neg (n / n.gcd d) < 0) = neg := by
    generalize n / n.gcd d = x at hq
    cases neg
    · exact decide_eq_false (by simp [sg])
    · exact decide_eq_true (by simp only [sg, if_true]; omega)
  simp only [rep, hnum, hden, sg_abs, hs]
theorem mkRat_sz {neg : Bool} {n d m : Nat} (hn : n < pw m) (hd : d < pw m) (hm : 1 ≤ m) : Sz m (mkRat (sg neg n) d) := by
  have h1 : 1 < pw m := Nat.lt_of_lt_of_le (by rw [pw_succ, pw_zero]; decide) (pw_mono hm)
  refine ⟨?_, ?_⟩
  · rw [Rat.num_mkRat]
    split
    · exact pw_pos m
    · rw [sg_abs, sg_div neg (Nat.gcd_dvd_right d n), sg_abs]; exact Nat.lt_of_le_of_lt (Nat.div_le_self _ _) hn
  · rw [Rat.den_mkRat]
    split
    · exact h1
    · exact Nat.lt_of_le_of_lt (Nat.div_le_self _ _) hd
theorem Sz_rv {neg : Bool} {n d : List Int} {m : Nat} (hn : U n) (hd : U d) (ln : n.length ≤ m) (ld : d.length ≤ m) (hm : 1 ≤ m) : Sz m (rv neg n d) :=
  mkRat_sz (Nat.lt_of_lt_of_le (valn_lt hn) (pw_mono ln)) (Nat.lt_of_lt_of_le (valn_lt hd) (pw_mono ld)) hm
theorem Sz_mono {m n : Nat} {q : Rat} (h : Sz m q) (hm : m ≤ n) : Sz n q := ⟨Nat.lt_of_lt_of_le h.1 (pw_mono hm), Nat.lt_of_lt_of_le h.2 (pw_mono hm)⟩
theorem mul_pw' {x y m n : Nat} (h1 : x < pw m) (h2 : y < pw n) : x * y < pw (m + n) := by rw [pw_add]; exact Nat.mul_lt_mul'' h1 h2
theorem add_parts (p q : Rat) : p + q = mkRat (sg (decide (p.num < 0)) (p.num.natAbs * q.den) + sg (decide (q.num < 0)) (q.num.natAbs * p.den)) (p.den * q.den) := by
  rw [Rat.add_def', sg_mulN, sg_mulN, sg_self, sg_self]
theorem Sz_add {m n : Nat} {p q : Rat} (hp : Sz m p) (hq : Sz n q) (hm : 1 ≤ m) : Sz (m + n + 1) (p + q) := by
  have hx := mul_pw' hp.1 hq.2
  have hy := mul_pw' hq.1 hp.2
  have hd := mul_pw' hp.2 hq.2
  rw [Nat.add_comm n m] at hy
  have hP := pw_succ (m + n)
  have e : p + q = mkRat (sg (decide (p.num * q.den + q.num * p.den < 0)) (p.num * q.den + q.num * p.den).natAbs) (p.den * q.den) := by rw [sg_self]; exact Rat.add_def' p q
  have h1 : (p.num * (q.den : Int)).natAbs = p.num.natAbs * q.den := Int.natAbs_mul ..
  have h2 : (q.num * (p.den : Int)).natAbs = q.num.natAbs * p.den := Int.natAbs_mul ..
  rw [e]
  refine mkRat_sz ?_ ?_ (by omega)
  · have := Int.natAbs_add_le (p.num * (q.den : Int)) (q.num * (p.den : Int))
    rw [h1, h2] at this
    generalize (p.num * (q.den : Int) + q.num * (p.den : Int)).natAbs = z at this ⊢
    generalize p.num.natAbs * q.den = x at *
    generalize q.num.natAbs * p.den = y at *
    omega
  · generalize p.den * q.den = x at *
    omega
theorem Sz_neg {m : Nat} {p : Rat} (hp : Sz m p) : Sz m (-p) := ⟨by rw [Rat.neg_num, Int.natAbs_neg]; exact hp.1, hp.2⟩
theorem Sz_zero {m : Nat} (hm : 1 ≤ m) : Sz m 0 := by
  have h1 : 1 < pw m := Nat.lt_of_lt_of_le (by rw [pw_succ, pw_zero]; decide) (pw_mono hm)
  exact ⟨pw_pos m, h1⟩
end Go.Proofs.Ytecfdemglbfnoaa.Num
end
section
namespace Go.Proofs.Ytecfdemglbfnoaa.Num
open Go.RowKit Go.Proofs.Ytecfdemglbfnoaa.PT Go.Proofs.YtecfdemglbfnoaaW.PrintWords Go.Proofs.YtecfdemglbfnoaaW.PrintLast Go.Proofs.YtecfdemglbfnoaaW.PrintMore
theorem Ev_pos {α : Type} {c : Prop} [Decidable c] {f g : Nat → Option α} {r : α} (h : c) (k : Ev f r) : Ev (fun n => if c then f n else g n) r := Ev.congr (fun _ => if_pos h) k
theorem Ev_neg {α : Type} {c : Prop} [Decidable c] {f g : Nat → Option α} {r : α} (h : ¬ c) (k : Ev g r) : Ev (fun n => if c then f n else g n) r := Ev.congr (fun _ => if_neg h) k
theorem two_pw (n : Nat) : pw n = 2 ^ (32 * n) := by rw [pw_eq, Nat.pow_mul]
theorem sz_lb {v M : Nat} (hl : (lb v).length = M + 1) {t : Nat} (et : rd (lb v) (M : Int) = (t : Int)) (h0 : v ≠ 0) : sz v = 32 * M + sz t := by
  have h1 := top_val hl et
  rw [valn_lb] at h1
  have h2 := take_lt' (U_lb v) M
  have ht : t ≠ 0 := by
    intro h
    have h3 := rd_lb_last h0
    rw [hl, Nat.add_sub_cancel, et, h] at h3
    exact h3 rfl
  have e : v / 2 ^ (32 * M) = t := by
    rw [← two_pw, h1, Nat.add_mul_div_left _ _ (pw_pos M), Nat.div_eq_of_lt h2, Nat.zero_add]
  rw [sz_div (n := v) (k := 32 * M) (by rw [e]; exact ht), e]
theorem Bits_f {l : List Int} (ul : U l) (hl : l.length ≤ 100000000) : Ev (fun k => nat_Bits.f k l) ((sz (valn l) : Nat) : Int) := by
  have hs := short_f ul (by omega)
  have hL := lb_len ul
  generalize valn l = v at *
  by_cases h0 : v = 0
  · subst h0
    rw [lb_zero] at hs
    exact Ev.bind hs (Ev.now _)
  · obtain ⟨M, hM⟩ : ∃ M, (lb v).length = M + 1 := ⟨(lb v).length - 1, by
      have : (lb v).length ≠ 0 := fun h => h0 (lb_eq_nil.mp (List.length_eq_zero_iff.mp h))
      omega⟩
    obtain ⟨t, et, ht⟩ := rd_nat (U_lb v) (M : Int)
    have hz := sz_lb hM et h0
    have ht32 : sz t ≤ 32 := sz_le (b := 32) ht
    have c : ¬ (((M + 1 : Nat) : Int) = 0) ∧ (0 : Int) ≤ (M : Int) ∧ (M : Int) < ((M + 1 : Nat) : Int) ∧ M < 9223372036854775807 ∧ (32 : Int) * (M : Int) = ((32 * M : Nat) : Int) := by omega
    have ws : wrap64 (((M + 1 : Nat) : Int) - 1) = (M : Int) ∧ wrap64 ((32 * M : Nat) : Int) = ((32 * M : Nat) : Int) ∧ wrap64 (((32 * M : Nat) : Int) + ((sz t : Nat) : Int)) = ((32 * M + sz t : Nat) : Int) := ⟨dn M c.2.2.2.1, w64 (by omega) (by omega), by rw [w64 (by omega) (by omega)]; rfl⟩
    refine Ev.bind hs (Ev.congr (f := fun _ => some ((sz v : Nat) : Int)) (fun k => ?_) (Ev.now _))
    rw [hM, if_neg c.1, ws.1, if_pos c.2.1, if_pos c.2.2.1, et, Len32_f t ht, Option.bind_some, c.2.2.2.2, ws.2.1, ws.2.2, hz]
theorem mod32 (r : Nat) : r * 4294967296 % 2 ^ 32 = 0 := by rw [show (2 : Nat) ^ 32 = 4294967296 from rfl]; exact Nat.mul_mod_left ..
theorem or_rx {r x : Nat} (hr : r < 4294967296) (hx : x < 4294967296) : Go.bits .or .u64 (IntKind.u64.wrap ((r : Int) * 4294967296)) (IntKind.u64.wrap (x : Int)) = ((r * 4294967296 + x : Nat) : Int) := by
  have e : (r : Int) * 4294967296 = ((r * 4294967296 : Nat) : Int) := by simp
  rw [e, u64 (x := ((r * 4294967296 : Nat) : Int)) (by omega) (by omega), u64 (x := (x : Int)) (by omega) (by omega), or64 32 _ _ (mod32 r) (by omega) hx (by omega)]
theorem digit_l0 {a : List Int} (ua : U a) {b : Nat} (hb : 0 < b) (hb' : b < 4294967296) (hs : a.length ≤ 100000000) : ∀ (j : Nat) (out : List Int) (r : Nat), j ≤ a.length → out.length = a.length → U out → r = valn (a.drop j) % b → valn (out.drop j) = valn (a.drop j) / b →
    Ev (fun k => nat_digit.l0 k a (b : Int) out (r : Int) ((j : Int) - 1)) (lb (valn a / b), ((valn a % b : Nat) : Int)) := by
  intro j
  induction j with
  | zero =>
    intro out r _ hout uo hr hv
    rw [List.drop_zero] at hr hv
    rw [List.drop_zero] at hv
    have hsh := short_f uo (by omega)
    rw [hv] at hsh
    refine Ev_succ ?_
    refine Ev.congr (fun k => ?_) (Ev.bind (f := fun _ x => some (x, ((valn a % b : Nat) : Int))) hsh (Ev.now _))
    simp only [nat_digit.l0]
    have hrb : r < b := by rw [hr]; exact Nat.mod_lt _ hb
    have e : (r : Int) % 4294967296 = (r : Int) := by omega
    rw [if_neg (by omega), e, hr]
  | succ j ih =>
    intro out r hj hout uo hr hv
    obtain ⟨x, ex, hx⟩ := rd_nat ua (j : Int)
    have hrb : r < b := by rw [hr]; exact Nat.mod_lt _ hb
    have hd := valn_drop_rd a j
    rw [ex, Int.toNat_natCast] at hd
    have key : valn (a.drop j) = (r * 4294967296 + x) + b * (4294967296 * (valn (a.drop (j + 1)) / b)) := by
      have h1 := Nat.div_add_mod (valn (a.drop (j + 1))) b
      rw [← hr] at h1
      have h2 : b * (4294967296 * (valn (a.drop (j + 1)) / b)) = 4294967296 * (b * (valn (a.drop (j + 1)) / b)) := by ac_rfl
      rw [hd, h2]
      generalize b * (valn (a.drop (j + 1)) / b) = y at *
      omega
    have hrx : r * 4294967296 + x < b * 4294967296 := by
      have : (r + 1) * 4294967296 ≤ b * 4294967296 := Nat.mul_le_mul_right _ hrb
      omega
    have hq : (r * 4294967296 + x) / b < 4294967296 := (Nat.div_lt_iff_lt_mul hb).mpr (by rw [Nat.mul_comm 4294967296 b]; exact hrx)
    have k1 : valn (a.drop j) % b = (r * 4294967296 + x) % b := by rw [key, Nat.add_mul_mod_self_left]
    have k2 : valn (a.drop j) / b = (r * 4294967296 + x) / b + 4294967296 * (valn (a.drop (j + 1)) / b) := by rw [key, Nat.add_mul_div_left _ _ hb]
    obtain ⟨D, hD⟩ : ∃ D, (r * 4294967296 + x) / b = D := ⟨_, rfl⟩
    rw [hD] at hq k2
    have step := ih (out.set j (D : Int)) ((r * 4294967296 + x) % b) (by omega) (by rw [List.length_set]; exact hout) (U_set uo ⟨Int.natCast_nonneg _, by omega⟩ _) k1.symm (by
      rw [valn_drop_rd, rd_set_eq _ _ _ (by omega), Int.toNat_natCast, List.drop_set_of_lt (by omega), hv, k2])
    have rx64 : r * 4294967296 + x < 18446744073709551616 := by omega
    have et : Go.bits .or .u64 (IntKind.u64.wrap ((r : Int) * 4294967296)) (IntKind.u64.wrap (rd a (j : Int))) = ((r * 4294967296 + x : Nat) : Int) := by rw [ex]; exact or_rx (Nat.lt_trans hrb hb') hx
    have eb : IntKind.u64.wrap (b : Int) = (b : Int) := u64 (by omega) (by omega)
    have eD : IntKind.u64.wrap ((D : Nat) : Int) % 4294967296 = (D : Int) := by rw [u64 (by omega) (by omega)]; omega
    have ej : ((j + 1 : Nat) : Int) - 1 = (j : Int) := by omega
    have c : (j : Int) ≥ 0 ∧ (0 : Int) ≤ (j : Int) ∧ (j : Int) < (a.length : Int) ∧ ¬ ((b : Int) = 0) ∧ (j : Int) < (out.length : Int) := by omega
    have wj : wrap64 ((j : Int) - 1) = (j : Int) - 1 := w64 (by omega) (by omega)
    refine Ev_succ (Ev.congr (fun k => ?_) step)
    rw [nat_digit.l0, ej, if_pos c.1, if_pos c.2.1, if_pos c.2.2.1, eb, if_neg c.2.2.2.1, if_pos c.2.2.2.2, et, tdiv_cast, tmod_cast, hD, eD, wj, Int.toNat_natCast]
theorem digit_f {a : List Int} (ua : U a) {b : Nat} (hb : 0 < b) (hb' : b < 4294967296) (hs : a.length ≤ 100000000) : Ev (fun k => nat_digit.f k a (b : Int)) (lb (valn a / b), ((valn a % b : Nat) : Int)) := by
  have h := digit_l0 ua hb hb' hs a.length (List.replicate a.length 0) 0 (Nat.le_refl _) (by simp) (U_replicate _) (by rw [List.drop_eq_nil_of_le (Nat.le_refl _), valn_nil, Nat.zero_mod]) (by
    rw [show (List.replicate a.length (0 : Int)).drop a.length = [] from List.drop_eq_nil_of_le (by rw [List.length_replicate]; exact Nat.le_refl _), List.drop_eq_nil_of_le (Nat.le_refl _), valn_nil, Nat.zero_div])
  refine Ev.congr (fun k => ?_) h
  have c : (0 : Int) ≤ (a.length : Int) ∧ a.length ≤ 70368744177664 := by omega
  have wj : wrap64 ((a.length : Int) - 1) = (a.length : Int) - 1 := w64 (by omega) (by omega)
  unfold nat_digit.f
  rw [if_pos c.1, Int.toNat_natCast, if_pos c.2, wj]; rfl
theorem DivMod_f {a b : List Int} (ua : U a) (ub : U b) (la : a.length ≤ 1000000) (lb' : b.length ≤ 1000000) (h0 : valn b ≠ 0) :
    Ev (fun k => nat_DivMod.f k a b) (lb (valn a / valn b), lb (valn a % valn b), 0) := by
  have hsa := short_f ua (by omega)
  have hsb := short_f ub (by omega)
  have ha := lb_len ua
  have hb := lb_len ub
  generalize valn a = m at *
  generalize valn b = n at *
  have hn : (lb n).length ≠ 0 := fun h => h0 (lb_eq_nil.mp (List.length_eq_zero_iff.mp h))
  have hc := Cmp_f (U_lb m) (U_lb n) (by omega) (by omega)
  rw [valn_lb, valn_lb] at hc
  refine Ev.bind hsa (Ev.bind hsb ?_)
  have c0 : ¬ (((lb n).length : Int) = 0) := by omega
  by_cases hlt : m < n
  · have h1 : cmpn m n = -1 := by unfold cmpn; rw [if_pos hlt]
    rw [h1] at hc
    have ht := Trim_f (U_lb m) (by omega)
    rw [valn_lb] at ht
    refine Ev_neg c0 (Ev.bind hc (Ev_pos (by decide) (Ev.bind ht ?_)))
    rw [Nat.div_eq_of_lt hlt, Nat.mod_eq_of_lt hlt, lb_zero]; exact Ev.now _
  · have h1 : ¬ cmpn m n < 0 := by unfold cmpn; rw [if_neg hlt]; split <;> omega
    refine Ev_neg c0 (Ev.bind hc (Ev_neg h1 ?_))
    by_cases h2 : (lb n).length = 1
    · obtain ⟨t, et, ht⟩ := rd_nat (U_lb n) ((0 : Nat) : Int)
      have en : n = t := by
        have h3 := top_val (M := 0) h2 et
        rw [valn_lb, List.take_zero, valn_nil, pw_zero] at h3; omega
      have hd := digit_f (U_lb m) (b := t) (by omega) ht (by omega)
      rw [valn_lb, ← en] at hd
      have c2 : ((lb n).length : Int) = 1 ∧ (0 : Int) < ((lb n).length : Int) := by omega
      have et' : rd (lb n) 0 = (n : Int) := by rw [en]; rw [en] at et; exact et
      have hr : m % n < n := Nat.mod_lt _ (Nat.pos_of_ne_zero h0)
      have eo : IntKind.u64.wrap ((m % n : Nat) : Int) = ((m % n : Nat) : Int) := u64 (Int.natCast_nonneg _) (by omega)
      have ho := Of_f (m % n) (by omega)
      refine Ev_pos c2.1 (Ev_pos c2.2 ?_)
      rw [et']
      refine Ev.bind hd ?_
      rw [eo]
      exact Ev.bind ho (Ev.now _)
    · have c2 : ¬ ((lb n).length : Int) = 1 := by omega
      have hle : (lb n).length ≤ (lb m).length := by
        by_cases c : (lb n).length ≤ (lb m).length
        · exact c
        · exact absurd (len_lt_of_lt (by omega)) hlt
      have hl : nat_long.f (lb m) (lb n) = some (padn ((lb m).length + 1 - (lb n).length) (m / n), padn (lb n).length (m % n)) := by
        unfold nat_long.f
        rw [if_pos ⟨by omega, hle, by rw [← rd_getLastD]; exact rd_lb_last h0, U_lb m, U_lb n, by omega⟩, valn_lb, valn_lb]
      have hm := lt_pow_len m
      have hnl := lt_pow_len n
      have hq : m / n < pw ((lb m).length + 1 - (lb n).length) := by
        have h3 := pow_len_le h0
        have h4 : (lb m).length = ((lb n).length - 1) + ((lb m).length + 1 - (lb n).length) := by omega
        rw [h4, pw_add] at hm
        refine (Nat.div_lt_iff_lt_mul (Nat.pos_of_ne_zero h0)).mpr (Nat.lt_of_lt_of_le hm ?_)
        rw [Nat.mul_comm]; exact Nat.mul_le_mul_left _ h3
      have hr : m % n < pw (lb n).length := Nat.lt_trans (Nat.mod_lt _ (Nat.pos_of_ne_zero h0)) hnl
      have t1 := Trim_f (U_padn ((lb m).length + 1 - (lb n).length) (m / n)) (by rw [padn_len]; omega)
      have t2 := Trim_f (U_padn (lb n).length (m % n)) (by rw [padn_len]; omega)
      rw [valn_padn_lt hq] at t1
      rw [valn_padn_lt hr] at t2
      refine Ev_neg c2 ?_
      rw [hl]
      exact Ev.bind (Ev.now _) (Ev.bind t1 (Ev.bind t2 (Ev.now _)))
theorem Gcd_l0 : ∀ (n m : Nat), (lb m).length ≤ 1000000 → (lb n).length ≤ 1000000 → Ev (fun k => nat_Gcd.l0 k (lb m) (lb n)) (lb (Nat.gcd m n)) := by
  intro n
  induction n using Nat.strongRecOn with
  | _ n ih =>
    intro m hm hn
    refine Ev_succ ?_
    simp only [nat_Gcd.l0]
    by_cases h0 : n = 0
    · subst h0
      have ht := Trim_f (U_lb m) (by omega)
      rw [valn_lb] at ht
      have c : ¬ (((lb 0).length : Int) > 0) := by rw [lb_zero]; decide
      rw [Nat.gcd_zero_right]
      exact Ev_neg c (Ev.bind ht (Ev.now _))
    · have hl : (lb n).length ≠ 0 := fun h => h0 (lb_eq_nil.mp (List.length_eq_zero_iff.mp h))
      have c : ((lb n).length : Int) > 0 := by omega
      have hd := DivMod_f (U_lb m) (U_lb n) hm hn (by rw [valn_lb]; exact h0)
      rw [valn_lb, valn_lb] at hd
      have hr : m % n < n := Nat.mod_lt _ (Nat.pos_of_ne_zero h0)
      have hlr : (lb (m % n)).length ≤ 1000000 := Nat.le_trans (lb_len_le (Nat.lt_trans hr (lt_pow_len n))) hn
      refine Ev_pos c (Ev.bind hd ?_)
      rw [Nat.gcd_comm, Nat.gcd_rec, Nat.gcd_comm]
      exact ih (m % n) hr n hn hlr
theorem Gcd_f {a b : List Int} (ua : U a) (ub : U b) (la : a.length ≤ 1000000) (lb' : b.length ≤ 1000000) : Ev (fun k => nat_Gcd.f k a b) (lb (Nat.gcd (valn a) (valn b))) :=
  Ev.bind (short_f ua (by omega)) (Ev.bind (short_f ub (by omega)) (Gcd_l0 _ _ (Nat.le_trans (lb_len ua) la) (Nat.le_trans (lb_len ub) lb')))
theorem Ev_as {α : Type} {g : Nat → Option α} {a b : α} (h : Ev g a) (e : a = b) : Ev g b := e ▸ h
theorem lb_len_zero {n : Nat} : (lb n).length = 0 ↔ n = 0 := by rw [List.length_eq_zero_iff, lb_eq_nil]
theorem rZero_f {l : List Int} (ul : U l) (hl : l.length < 35184372088832) : Ev (fun k => codewrightref01_Zero.f k l) (decide (valn l = 0)) := by
  refine Ev.bind (rTrim_f ul hl) (Ev_as (Ev.now _) ?_)
  by_cases h : valn l = 0
  · rw [h, lb_zero]; rfl
  · rw [decide_eq_false h]
    have := mt lb_len_zero.mp h
    exact beq_eq_false_iff_ne.mpr (by omega)
theorem snoc_val (z : List Int) (d : Int) : valn (z ++ [d]) = valn z + pw z.length * d.toNat := by
  rw [valn_append, valn_cons, valn_nil]; simp
theorem U_snoc {z : List Int} (uz : U z) {d : Int} (h : 0 ≤ d ∧ d < 4294967296) : U (z ++ [d]) := U_append uz (U_cons h U_nil)
theorem sub_num {x y c : Nat} (hx : x < 4294967296) (hy : y < 4294967296) (hc : c ≤ 1) :
    ∃ d h : Nat, d < 4294967296 ∧ h ≤ 1 ∧ x + 4294967296 * h = d + y + c ∧
      Int.tmod (IntKind.u64.wrap (IntKind.u64.wrap (IntKind.u64.wrap ((x : Int) + 4294967296) - (y : Int)) - (c : Int))) 4294967296 % 4294967296 = (d : Int) ∧
      IntKind.u64.wrap (1 - IntKind.u64.wrap (Int.tdiv (IntKind.u64.wrap (IntKind.u64.wrap (IntKind.u64.wrap ((x : Int) + 4294967296) - (y : Int)) - (c : Int))) 4294967296)) = (h : Int) := by
  have e1 : (x : Int) + 4294967296 = ((x + 4294967296 : Nat) : Int) := by omega
  have e2 : ((x + 4294967296 : Nat) : Int) - (y : Int) = ((x + 4294967296 - y : Nat) : Int) := by omega
  have e3 : ((x + 4294967296 - y : Nat) : Int) - (c : Int) = ((x + 4294967296 - y - c : Nat) : Int) := by omega
  have w1 : IntKind.u64.wrap ((x + 4294967296 : Nat) : Int) = ((x + 4294967296 : Nat) : Int) ∧ IntKind.u64.wrap ((x + 4294967296 - y : Nat) : Int) = ((x + 4294967296 - y : Nat) : Int) ∧ IntKind.u64.wrap ((x + 4294967296 - y - c : Nat) : Int) = ((x + 4294967296 - y - c : Nat) : Int) :=
    ⟨u64 (by omega) (by omega), u64 (by omega) (by omega), u64 (by omega) (by omega)⟩
  rw [e1, w1.1, e2, w1.2.1, e3, w1.2.2, tmod_nat, tdiv_nat]
  obtain ⟨s, hs⟩ : ∃ s, x + 4294967296 - y - c = s := ⟨_, rfl⟩
  rw [hs]
  clear w1 e1 e2 e3
  have b1 : s / 4294967296 ≤ 1 := by omega
  have w2 : IntKind.u64.wrap ((s / 4294967296 : Nat) : Int) = ((s / 4294967296 : Nat) : Int) ∧ IntKind.u64.wrap ((1 - s / 4294967296 : Nat) : Int) = ((1 - s / 4294967296 : Nat) : Int) := ⟨u64 (by omega) (by omega), u64 (by omega) (by omega)⟩
  have e4 : (1 : Int) - ((s / 4294967296 : Nat) : Int) = ((1 - s / 4294967296 : Nat) : Int) := by omega
  refine ⟨s % 4294967296, 1 - s / 4294967296, by omega, by omega, by omega, by omega, ?_⟩
  rw [w2.1, e4, w2.2]
theorem rSub_l0 {a b : List Int} (ua : U a) (ub : U b) (hs : a.length ≤ 100000000) (hle : valn b ≤ valn a) (n : Nat) : ∀ (i : Nat) (z : List Int) (c : Nat), i + n = a.length → z.length = i → U z → c ≤ 1 →
    valn (a.take i) + pw i * c = valn z + valn (b.take i) → Ev (fun k => codewrightref01_Sub.l0 k a b z (c : Int) (i : Int)) (lb (valn a - valn b)) := by
  induction n with
  | zero =>
    intro i z c hi hz uz hc hv
    obtain rfl : i = a.length := by omega
    have hzl := valn_lt uz
    rw [hz] at hzl
    have va := valn_lt ua
    rw [List.take_of_length_le (Nat.le_refl _)] at hv
    have hb : valn (b.take a.length) = valn b := by
      have h1 := valn_splitD b a.length
      rcases Nat.eq_zero_or_pos (valn (b.drop a.length)) with h | h
      · rw [h] at h1; omega
      · exfalso
        have := Nat.mul_le_mul_left (pw a.length) h
        omega
    rw [hb] at hv
    have key : valn z = valn a - valn b := by
      rcases Nat.eq_zero_or_pos c with h | h
      · subst h; omega
      · obtain rfl : c = 1 := by omega
        omega
    have ht := rTrim_f uz (by omega)
    rw [key] at ht
    have c1 : ¬ ((a.length : Int) < (a.length : Int)) := by omega
    refine Ev_succ ?_
    simp only [codewrightref01_Sub.l0]
    exact Ev_neg c1 (Ev.bind ht (Ev.now _))
  | succ n ih =>
    intro i z c hi hz uz hc hv
    obtain ⟨x, ex, hx⟩ := rd_nat ua (i : Int)
    obtain ⟨y, ey, hy⟩ := rd_nat ub (i : Int)
    obtain ⟨d, h, hd, hh, heq, e1, e2⟩ := sub_num hx hy hc
    have step := ih (i + 1) (z ++ [(d : Int)]) h (by omega) (by simp [hz]) (U_snoc uz (by omega)) hh (by
      rw [snoc_val, hz, valn_take_succ, valn_take_succ, ex, ey, Int.toNat_natCast, Int.toNat_natCast, Int.toNat_natCast, pw_succ]
      have h3 : pw i * (x + 4294967296 * h) = pw i * (d + y + c) := by rw [heq]
      rw [Nat.mul_add, Nat.mul_add, Nat.mul_add, ← Nat.mul_assoc] at h3
      omega)
    have c1 : (i : Int) < (a.length : Int) ∧ z.length < 35184372088832 := by omega
    have wi : wrap64 ((i : Int) + 1) = ((i + 1 : Nat) : Int) := up i (by omega)
    refine Ev_succ ?_
    simp only [codewrightref01_Sub.l0, limb_f ua, limb_f ub, Option.bind_some]
    refine Ev_pos c1.1 (Ev_pos c1.2 ?_)
    rw [ex, ey, e1, e2, wi]; exact step
theorem rSub_f {a b : List Int} (ua : U a) (ub : U b) (hs : a.length ≤ 100000000) (hle : valn b ≤ valn a) : Ev (fun k => codewrightref01_Sub.f k a b) (lb (valn a - valn b)) :=
  rSub_l0 ua ub hs hle a.length 0 [] 0 (by omega) rfl U_nil (by omega) (by rw [List.take_zero, List.take_zero, Nat.mul_zero, valn_nil])
theorem sz_half {x : Nat} (h : x ≠ 0) : sz x = sz (x / 2) + 1 := by
  by_cases h1 : x / 2 = 0
  · obtain rfl : x = 1 := by omega
    rfl
  · rw [sz_div (n := x) (k := 1) h1]; exact Nat.add_comm _ _
theorem rBits_l0 (n : Nat) : ∀ (x s : Nat), x < 2 ^ n → n ≤ 32 → s + n ≤ 200000000000 → Ev (fun k => codewrightref01_Bits.l0 k (s : Int) (x : Int)) ((s + sz x : Nat) : Int) := by
  induction n with
  | zero =>
    intro x s hx _ _
    obtain rfl : x = 0 := by omega
    refine Ev_succ ?_
    simp only [codewrightref01_Bits.l0]
    exact Ev_neg (by omega) (Ev.now _)
  | succ n ih =>
    intro x s hx hn hs
    by_cases h0 : x = 0
    · subst h0
      refine Ev_succ ?_
      simp only [codewrightref01_Bits.l0]
      exact Ev_neg (by omega) (Ev.now _)
    · have hp : 2 ^ (n + 1) = 2 ^ n * 2 := Nat.pow_succ ..
      have h32 : 2 ^ (n + 1) ≤ 2 ^ 32 := Nat.pow_le_pow_right (by decide) hn
      have hx32 : x < 4294967296 := Nat.lt_of_lt_of_le hx h32
      have hx2 : x / 2 < 2 ^ n := by
        rw [hp] at hx
        exact (Nat.div_lt_iff_lt_mul (by decide)).mpr hx
      clear hp h32 hx
      have step := ih (x / 2) (s + 1) hx2 (by omega) (by clear hx2; omega)
      clear hx2
      have e : Int.tdiv (x : Int) 2 % 4294967296 = ((x / 2 : Nat) : Int) := by
        rw [show Int.tdiv (x : Int) 2 = ((x / 2 : Nat) : Int) from rfl]; omega
      have hz := sz_half h0
      refine Ev_succ ?_
      simp only [codewrightref01_Bits.l0]
      refine Ev_pos (by omega) ?_
      rw [e, up s (by omega), hz, show s + (sz (x / 2) + 1) = s + 1 + sz (x / 2) from by omega]
      exact step
theorem rBits_f {l : List Int} (ul : U l) (hl : l.length ≤ 100000000) : Ev (fun k => codewrightref01_Bits.f k l) ((sz (valn l) : Nat) : Int) := by
  have hs := rTrim_f ul (by omega)
  have hL := lb_len ul
  generalize valn l = v at *
  by_cases h0 : v = 0
  · subst h0
    rw [lb_zero] at hs
    exact Ev.bind hs (Ev.now _)
  · obtain ⟨M, hM⟩ : ∃ M, (lb v).length = M + 1 := ⟨(lb v).length - 1, by
      have : (lb v).length ≠ 0 := fun h => h0 (lb_len_zero.mp h)
      omega⟩
    obtain ⟨t, et, ht⟩ := rd_nat (U_lb v) (M : Int)
    have hz := sz_lb hM et h0
    have c : ¬ (((M + 1 : Nat) : Int) = 0) ∧ (0 : Int) ≤ (M : Int) ∧ (M : Int) < ((M + 1 : Nat) : Int) ∧ M < 9223372036854775807 ∧ (32 : Int) * (M : Int) = ((32 * M : Nat) : Int) ∧ 32 * M + 32 ≤ 200000000000 := by omega
    have w1 : wrap64 ((32 * M : Nat) : Int) = ((32 * M : Nat) : Int) := w64 (by omega) (by omega)
    have hb := rBits_l0 32 t (32 * M) ht (by omega) c.2.2.2.2.2
    rw [← hz] at hb
    refine Ev.bind hs ?_
    rw [hM, dn M c.2.2.2.1, c.2.2.2.2.1, w1, et]
    exact Ev_neg c.1 (Ev_pos c.2.1 (Ev_pos c.2.2.1 hb))
theorem shl_num {x r c : Nat} (hx : x < 4294967296) (hr : r ≤ 31) (hc : c < 2 ^ r) :
    ∃ d h : Nat, d < 4294967296 ∧ h < 2 ^ r ∧ x * 2 ^ r + c = d + 4294967296 * h ∧
      Int.tmod (IntKind.u64.wrap (shl .u64 (IntKind.u64.wrap (x : Int)) (r : Int) + (c : Int))) 4294967296 % 4294967296 = (d : Int) ∧
      IntKind.u64.wrap (Int.tdiv (IntKind.u64.wrap (shl .u64 (IntKind.u64.wrap (x : Int)) (r : Int) + (c : Int))) 4294967296) = (h : Int) := by
  have hp : 2 ^ r ≤ 2 ^ 31 := Nat.pow_le_pow_right (by decide) hr
  have hxp : x * 2 ^ r + 2 ^ r ≤ 4294967296 * 2 ^ r := by
    have : (x + 1) * 2 ^ r ≤ 4294967296 * 2 ^ r := Nat.mul_le_mul_right _ hx
    rwa [Nat.add_mul, Nat.one_mul] at this
  have e1 : IntKind.u64.wrap (x : Int) = (x : Int) := u64 (by omega) (by omega)
  rw [e1, shl64 x r hx hr]
  clear e1
  obtain ⟨y, hy⟩ : ∃ y, x * 2 ^ r = y := ⟨_, rfl⟩
  obtain ⟨q, hq⟩ : ∃ q, 2 ^ r = q := ⟨_, rfl⟩
  rw [hy, hq] at hxp
  rw [hq] at hp hc
  rw [hy, hq]
  clear hy hq
  have e2 : (y : Int) + (c : Int) = ((y + c : Nat) : Int) := by omega
  have b2 : y + c < 18446744073709551616 := by omega
  obtain ⟨s, hs⟩ : ∃ s, y + c = s := ⟨_, rfl⟩
  rw [hs] at e2 b2
  have e3 : IntKind.u64.wrap (s : Int) = (s : Int) ∧ IntKind.u64.wrap ((s / 4294967296 : Nat) : Int) = ((s / 4294967296 : Nat) : Int) := ⟨u64 (by omega) (by omega), u64 (by omega) (by omega)⟩
  rw [e2, e3.1, tmod_nat, tdiv_nat, e3.2]
  clear e3 e2
  exact ⟨s % 4294967296, s / 4294967296, by omega, by omega, by omega, by omega, rfl⟩
theorem rshift_l0 {a : List Int} (ua : U a) (hs : a.length ≤ 100000000) (m r : Nat) (hm : m ≤ 100000000) (hr : r ≤ 31) (n : Nat) : ∀ (i : Nat) (z : List Int) (c : Nat), i + n = a.length → z.length = m + i → U z → c < 2 ^ r →
    valn z + pw (m + i) * c = valn (a.take i) * (pw m * 2 ^ r) → Ev (fun k => codewrightref01_shift.l0 k a ((32 * m + r : Nat) : Int) z (c : Int) (i : Int)) (lb (valn a * (pw m * 2 ^ r))) := by
  have et : Int.tmod ((32 * m + r : Nat) : Int) 32 = (r : Int) := by
    rw [show Int.tmod ((32 * m + r : Nat) : Int) 32 = (((32 * m + r) % 32 : Nat) : Int) from rfl]; omega
  have hp : 2 ^ r ≤ 2 ^ 31 := Nat.pow_le_pow_right (by decide) hr
  induction n with
  | zero =>
    intro i z c hi hz uz hc hv
    obtain rfl : i = a.length := by omega
    rw [List.take_of_length_le (Nat.le_refl _)] at hv
    have hc4 : c < 4294967296 := by omega
    have ht := rTrim_f (U_snoc uz (d := (c : Int)) (by omega)) (by rw [List.length_append, hz]; simp only [List.length_cons, List.length_nil]; omega)
    rw [snoc_val, hz, Int.toNat_natCast, hv] at ht
    have c1 : ¬ ((a.length : Int) < (a.length : Int)) ∧ z.length < 35184372088832 ∧ (c : Int) % 4294967296 = (c : Int) := by omega
    refine Ev_succ ?_
    simp only [codewrightref01_shift.l0]
    refine Ev_neg c1.1 (Ev_pos c1.2.1 ?_)
    rw [c1.2.2]
    exact Ev.bind ht (Ev.now _)
  | succ n ih =>
    intro i z c hi hz uz hc hv
    obtain ⟨x, ex, hx⟩ := rd_nat ua (i : Int)
    obtain ⟨d, h, hd, hh, heq, e1, e2⟩ := shl_num hx hr hc
    have step := ih (i + 1) (z ++ [(d : Int)]) h (by omega) (by simp [hz]; omega) (U_snoc uz (by omega)) hh (by
      rw [snoc_val, hz, valn_take_succ, ex, Int.toNat_natCast, Int.toNat_natCast, ← Nat.add_assoc, pw_succ, Nat.add_mul, ← hv]
      have h3 : pw (m + i) * (x * 2 ^ r + c) = pw (m + i) * (d + 4294967296 * h) := by rw [heq]
      rw [Nat.mul_add, Nat.mul_add, ← Nat.mul_assoc (pw (m + i)) 4294967296] at h3
      have h4 : pw i * x * (pw m * 2 ^ r) = pw (m + i) * (x * 2 ^ r) := by rw [pw_add]; ac_rfl
      rw [h4]
      omega)
    have c1 : (i : Int) < (a.length : Int) ∧ (0 : Int) ≤ (i : Int) ∧ (0 : Int) ≤ (r : Int) ∧ z.length < 35184372088832 := by
      clear hv hh heq hp hc
      omega
    have wi : wrap64 ((i : Int) + 1) = ((i + 1 : Nat) : Int) := up i (by clear hv hh heq hp hc; omega)
    refine Ev_succ ?_
    simp only [codewrightref01_shift.l0, et]
    refine Ev_pos c1.1 (Ev_pos c1.2.1 (Ev_pos c1.2.2.1 (Ev_pos c1.2.2.2 ?_)))
    rw [ex, e1, e2, wi]; exact step
theorem rshift_f {a : List Int} (ua : U a) (hs : a.length ≤ 100000000) (n : Nat) (hn : n ≤ 3200000000) : Ev (fun k => codewrightref01_shift.f k a (n : Int)) (lb (valn a * 2 ^ n)) := by
  obtain ⟨m, r, hr, e⟩ : ∃ m r, r ≤ 31 ∧ n = 32 * m + r := ⟨n / 32, n % 32, by omega, by omega⟩
  subst e
  have h := rshift_l0 ua hs m r (by omega) hr a.length 0 (List.replicate m 0) 0 (by omega) (by simp) (U_replicate _) (Nat.two_pow_pos r) (by rw [valn_replicate, List.take_zero, valn_nil, Nat.mul_zero, Nat.zero_mul])
  rw [two_pw, ← Nat.pow_add] at h
  have ed : Int.tdiv ((32 * m + r : Nat) : Int) 32 = (m : Int) := by
    rw [show Int.tdiv ((32 * m + r : Nat) : Int) 32 = (((32 * m + r) / 32 : Nat) : Int) from rfl]; omega
  have wm : wrap64 (m : Int) = (m : Int) := w64 (by omega) (by omega)
  have c : (0 : Int) ≤ (m : Int) ∧ m ≤ 70368744177664 := by omega
  refine Ev.congr (fun k => ?_) h
  unfold codewrightref01_shift.f
  rw [ed, wm, if_pos c.1, Int.toNat_natCast, if_pos c.2]; rfl
theorem pow_lt_pw {n m : Nat} (h : n < 32 * m) : 2 ^ n < pw m := by rw [two_pw]; exact (Nat.pow_lt_pow_iff_right (by decide)).mpr h
theorem sz_le_pw {x m : Nat} (h : x < pw m) : sz x ≤ 32 * m := sz_le (by rw [← two_pw]; exact h)
theorem rDiv_l0 {b : List Int} (ub : U b) (hb0 : valn b ≠ 0) (L S : Nat) (hL : L ≤ 1000000) (lb' : b.length ≤ L) (hS : S < pw L) : ∀ (i Q R : Nat), i ≤ 32 * L → S = Q * valn b + R → R < valn b * 2 ^ i →
    Ev (fun k => codewrightref01_DivMod.l0 k b (lb Q) (lb R) ((i : Int) - 1)) (lb (S / valn b), lb (S % valn b)) := by
  have hvb := Nat.pos_of_ne_zero hb0
  intro i
  induction i with
  | zero =>
    intro Q R _ hQ hR
    rw [Nat.pow_zero, Nat.mul_one] at hR
    have hq := quo_of (u := S) (v := valn b) (q := Q) (by omega) (by omega)
    have hr : S % valn b = R := by rw [hq.2]; omega
    have hQS : Q ≤ S := by
      have : Q * 1 ≤ Q * valn b := Nat.mul_le_mul_left _ hvb
      omega
    have hlQ := lb_len_le (Nat.lt_of_le_of_lt hQS hS)
    have ht := rTrim_f (U_lb Q) (by omega)
    rw [valn_lb] at ht
    rw [hq.1, hr]
    refine Ev_succ ?_
    simp only [codewrightref01_DivMod.l0]
    exact Ev_neg (by omega) (Ev.bind ht (Ev.now _))
  | succ i ih =>
    intro Q R hi hQ hR
    have hQS : Q ≤ S := by
      have : Q * 1 ≤ Q * valn b := Nat.mul_le_mul_left _ hvb
      omega
    have hRS : R ≤ S := by omega
    have hlQ := lb_len_le (Nat.lt_of_le_of_lt hQS hS)
    have hlR := lb_len_le (Nat.lt_of_le_of_lt hRS hS)
    have hsh := rshift_f ub (by omega) i (by omega)
    have htb : valn b * 2 ^ i < pw (2 * L + 1) := by
      have h1 : 2 ^ i < pw (L + 1) := pow_lt_pw (by omega)
      have h2 := Nat.lt_of_lt_of_le (valn_lt ub) (pw_mono lb')
      rw [show 2 * L + 1 = L + (L + 1) from by omega, pw_add]
      exact Nat.mul_lt_mul'' h2 h1
    have hlt := lb_len_le htb
    have hc := rCmp_f (U_lb R) (U_lb (valn b * 2 ^ i)) (by omega) (by omega)
    have h1s := rshift_f (a := [1]) (U_cons (by decide) U_nil) (by simp) i (by omega)
    have hone : valn [1] * 2 ^ i = 2 ^ i := by rw [show valn [1] = 1 from rfl, Nat.one_mul]
    rw [hone] at h1s
    have hp2 : R < valn b * 2 ^ i * 2 := by rw [Nat.mul_assoc, ← Nat.pow_succ]; exact hR
    rw [valn_lb, valn_lb] at hc
    have ci : ((i + 1 : Nat) : Int) - 1 = (i : Int) ∧ (i : Int) ≥ 0 := by omega
    have wi : wrap64 ((i : Int) - 1) = (i : Int) - 1 := w64 (by omega) (by omega)
    obtain ⟨T, hT⟩ : ∃ T, valn b * 2 ^ i = T := ⟨_, rfl⟩
    have h1l : (lb (2 ^ i)).length ≤ L + 1 := lb_len_le (pow_lt_pw (by omega))
    refine Ev_succ ?_
    simp only [codewrightref01_DivMod.l0, ci.1]
    refine Ev_pos ci.2 (Ev.bind hsh (Ev.bind hc ?_))
    rw [wi]
    rw [hT] at hp2 ⊢
    by_cases hge : T ≤ R
    · have c1 : cmpn R T ≥ 0 := by unfold cmpn; rw [if_neg (by omega)]; split <;> omega
      have hsub := rSub_f (U_lb R) (U_lb T) (by omega) (by rw [valn_lb, valn_lb]; exact hge)
      have hadd := rAdd_f (U_lb Q) (U_lb (2 ^ i)) (by omega) (by omega)
      rw [valn_lb, valn_lb] at hsub hadd
      refine Ev_pos c1 (Ev.bind hsub (Ev.bind h1s (Ev.bind hadd ?_)))
      refine ih (Q + 2 ^ i) (R - T) (by omega) ?_ (by rw [hT]; omega)
      rw [Nat.add_mul, Nat.mul_comm (2 ^ i), hT]; omega
    · have c1 : ¬ cmpn R T ≥ 0 := by unfold cmpn; rw [if_pos (by omega)]; decide
      refine Ev_neg c1 (ih Q R (by omega) hQ (by rw [hT]; omega))
theorem rDivMod_f {a b : List Int} (ua : U a) (ub : U b) (la : a.length ≤ 1000000) (lb' : b.length ≤ 1000000) (h0 : valn b ≠ 0) :
    Ev (fun k => codewrightref01_DivMod.f k a b) (lb (valn a / valn b), lb (valn a % valn b)) := by
  have ht := rTrim_f ua (by omega)
  have ha := rBits_f ua (by omega)
  have hb := rBits_f ub (by omega)
  have hS := Nat.lt_of_lt_of_le (valn_lt ua) (pw_mono la)
  have hB := Nat.lt_of_lt_of_le (valn_lt ub) (pw_mono lb')
  have sa := sz_le_pw hS
  have sb := sz_le_pw hB
  have s1 := sz_pos h0
  refine Ev.bind ht (Ev.bind ha (Ev.bind hb ?_))
  by_cases c : sz (valn b) ≤ sz (valn a)
  · have e : ((sz (valn a) : Nat) : Int) - ((sz (valn b) : Nat) : Int) = ((sz (valn a) - sz (valn b) + 1 : Nat) : Int) - 1 := by omega
    have w : wrap64 (((sz (valn a) - sz (valn b) + 1 : Nat) : Int) - 1) = ((sz (valn a) - sz (valn b) + 1 : Nat) : Int) - 1 := w64 (by omega) (by omega)
    have hlt : valn a < valn b * 2 ^ (sz (valn a) - sz (valn b) + 1) := by
      have h1 := lt_sz (valn a)
      have h2 := (sz_spec h0).1
      have h3 : 2 ^ sz (valn a) = 2 ^ (sz (valn b) - 1) * 2 ^ (sz (valn a) - sz (valn b) + 1) := by rw [← Nat.pow_add]; congr 1; omega
      rw [h3] at h1
      exact Nat.lt_of_lt_of_le h1 (Nat.mul_le_mul_right _ h2)
    have hm := rDiv_l0 ub h0 1000000 (valn a) (by omega) lb' hS (sz (valn a) - sz (valn b) + 1) 0 (valn a) (by omega) (by omega) hlt
    rw [lb_zero] at hm
    rw [e, w]; exact hm
  · have e : wrap64 (((sz (valn a) : Nat) : Int) - ((sz (valn b) : Nat) : Int)) = ((sz (valn a) : Nat) : Int) - ((sz (valn b) : Nat) : Int) := w64 (by omega) (by omega)
    have c1 : ¬ ((sz (valn a) : Nat) : Int) - ((sz (valn b) : Nat) : Int) ≥ 0 := by omega
    have hlt : valn a < valn b := by
      by_cases h : valn a < valn b
      · exact h
      · exfalso
        have h1 := (sz_spec h0).1
        have h2 : 2 ^ sz (valn a) ≤ 2 ^ (sz (valn b) - 1) := Nat.pow_le_pow_right (by decide) (by omega)
        have h3 := lt_sz (valn a)
        omega
    have ht0 := rTrim_f U_nil (by simp)
    rw [valn_nil, lb_zero] at ht0
    rw [e, Nat.div_eq_of_lt hlt, Nat.mod_eq_of_lt hlt, lb_zero]
    refine Ev_succ ?_
    simp only [codewrightref01_DivMod.l0]
    exact Ev_neg c1 (Ev.bind ht0 (Ev.now _))
theorem rGcd_f : ∀ (n : Nat) {a b : List Int}, valn b = n → U a → U b → a.length ≤ 1000000 → b.length ≤ 1000000 → Ev (fun k => codewrightref01_Gcd.l0 k a b) (lb (Nat.gcd (valn a) (valn b))) := by
  intro n
  induction n using Nat.strongRecOn with
  | _ n ih =>
    intro a b hn ua ub la lb'
    have hz := rZero_f ub (by omega)
    refine Ev_succ ?_
    simp only [codewrightref01_Gcd.l0]
    by_cases h0 : valn b = 0
    · have ht := rTrim_f ua (by omega)
      rw [decide_eq_true h0] at hz
      rw [h0, Nat.gcd_zero_right]
      exact Ev.bind hz (Ev_pos rfl (Ev.bind ht (Ev.now _)))
    · have hd := rDivMod_f ua ub la lb' h0
      rw [decide_eq_false h0] at hz
      have hr : valn a % valn b < valn b := Nat.mod_lt _ (Nat.pos_of_ne_zero h0)
      refine Ev.bind hz (Ev_neg (by decide) (Ev.bind hd ?_))
      have := ih (valn a % valn b) (by omega) (a := b) (b := lb (valn a % valn b)) (valn_lb _) ub (U_lb _) lb' (Nat.le_trans (lb_len_le (Nat.lt_trans hr (valn_lt ub))) lb')
      rw [valn_lb] at this
      rw [Nat.gcd_comm, Nat.gcd_rec, Nat.gcd_comm]
      exact this
theorem rGcd_f' {a b : List Int} (ua : U a) (ub : U b) (la : a.length ≤ 1000000) (lb' : b.length ≤ 1000000) : Ev (fun k => codewrightref01_Gcd.f k a b) (lb (Nat.gcd (valn a) (valn b))) := rGcd_f _ rfl ua ub la lb'
theorem sz_eq_zero {n : Nat} : sz n = 0 ↔ n = 0 := by
  constructor
  · intro h
    by_cases c : n = 0
    · exact c
    · have := sz_pos c; omega
  · intro h; subst h; rfl
theorem rep_rv {neg : Bool} {n d : List Int} (hn : valn n ≠ 0) (hd : valn d ≠ 0) : rep (rv neg n d) = (neg, lb (valn n / Nat.gcd (valn n) (valn d)), lb (valn d / Nat.gcd (valn n) (valn d))) := rep_mkRat neg hn hd
theorem gcd_lb {n d : List Int} (un : U n) (ln : n.length ≤ 1000000) (hn : valn n ≠ 0) : (lb (Nat.gcd (valn n) (valn d))).length ≤ 1000000 ∧ Nat.gcd (valn n) (valn d) ≠ 0 :=
  ⟨Nat.le_trans (lb_len_le (Nat.lt_of_le_of_lt (Nat.le_of_dvd (Nat.pos_of_ne_zero hn) (Nat.gcd_dvd_left _ _)) (valn_lt un))) ln, Nat.ne_of_gt (Nat.gcd_pos_of_pos_left _ (Nat.pos_of_ne_zero hn))⟩
theorem canonical_j {neg : Bool} {n d : List Int} (un : U n) (ud : U d) (ln : n.length ≤ 1000000) (ld : d.length ≤ 1000000) (b : Bool) (hb : b = true ↔ valn n = 0 ∨ valn d = 0) :
    Ev (fun k => rational_canonical.j0 k neg n d b) (rep (rv neg n d)) := by
  refine Ev_succ ?_
  simp only [rational_canonical.j0]
  cases b with
  | true =>
    have h : rv neg n d = 0 := by
      rcases hb.mp rfl with h | h
      · exact rv_zero_num neg h
      · exact rv_zero_den neg h
    rw [h, rep_zero]
    exact Ev_pos rfl (Ev.bind (Ev.now _) (Ev.now _))
  | false =>
    have hn : valn n ≠ 0 := fun h => absurd (hb.mpr (.inl h)) (by decide)
    have hd : valn d ≠ 0 := fun h => absurd (hb.mpr (.inr h)) (by decide)
    obtain ⟨hg, hg0⟩ := gcd_lb un ln hn
    have h1 := Gcd_f un ud ln ld
    have h2 := DivMod_f un (U_lb (Nat.gcd (valn n) (valn d))) ln hg (by rw [valn_lb]; exact hg0)
    have h3 := DivMod_f ud (U_lb (Nat.gcd (valn n) (valn d))) ld hg (by rw [valn_lb]; exact hg0)
    rw [valn_lb] at h2 h3
    rw [rep_rv hn hd]
    exact Ev_neg (by decide) (Ev.bind h1 (Ev.bind h2 (Ev.bind h3 (Ev.now _))))
theorem canonical_f {neg : Bool} {n d : List Int} (un : U n) (ud : U d) (ln : n.length ≤ 1000000) (ld : d.length ≤ 1000000) :
    Ev (fun k => rational_canonical.f k neg n d) (rep (rv neg n d)) := by
  have b1 := Bits_f un (by omega)
  have b2 := Bits_f ud (by omega)
  refine Ev.bind b1 ?_
  by_cases h1 : valn n = 0
  · exact Ev_pos (by rw [h1]; rfl) (canonical_j un ud ln ld true ⟨fun _ => .inl h1, fun _ => rfl⟩)
  · have hz : ((sz (valn n) : Nat) : Int) ≠ 0 := fun h => h1 (sz_eq_zero.mp (Int.ofNat_eq_zero.mp h))
    refine Ev_neg hz (Ev.bind b2 (canonical_j un ud ln ld _ ?_))
    constructor
    · intro h
      exact .inr (sz_eq_zero.mp (Int.ofNat_eq_zero.mp (beq_iff_eq.mp h)))
    · intro h
      rcases h with h | h
      · exact absurd h h1
      · rw [h]; rfl
theorem Make_j {neg : Bool} {n d : List Int} (un : U n) (ud : U d) (ln : n.length ≤ 1000000) (ld : d.length ≤ 1000000) (b : Bool) (hb : b = true ↔ valn n = 0 ∨ valn d = 0) :
    Ev (fun k => codewrightref02_Make.j0 k neg n d b) (rep (rv neg n d)) := by
  refine Ev_succ ?_
  simp only [codewrightref02_Make.j0]
  cases b with
  | true =>
    have h : rv neg n d = 0 := by
      rcases hb.mp rfl with h | h
      · exact rv_zero_num neg h
      · exact rv_zero_den neg h
    rw [h, rep_zero]
    exact Ev_pos rfl (Ev.now _)
  | false =>
    have hn : valn n ≠ 0 := fun h => absurd (hb.mpr (.inl h)) (by decide)
    have hd : valn d ≠ 0 := fun h => absurd (hb.mpr (.inr h)) (by decide)
    obtain ⟨hg, hg0⟩ := gcd_lb un ln hn
    have h1 := rGcd_f' un ud ln ld
    have h2 := rDivMod_f un (U_lb (Nat.gcd (valn n) (valn d))) ln hg (by rw [valn_lb]; exact hg0)
    have h3 := rDivMod_f ud (U_lb (Nat.gcd (valn n) (valn d))) ld hg (by rw [valn_lb]; exact hg0)
    rw [valn_lb] at h2 h3
    rw [rep_rv hn hd]
    exact Ev_neg (by decide) (Ev.bind h1 (Ev.bind h2 (Ev.bind h3 (Ev.now _))))
theorem Make_f {neg : Bool} {n d : List Int} (un : U n) (ud : U d) (ln : n.length ≤ 1000000) (ld : d.length ≤ 1000000) :
    Ev (fun k => codewrightref02_Make.f k neg n d) (rep (rv neg n d)) := by
  have b1 := rZero_f un (by omega)
  have b2 := rZero_f ud (by omega)
  refine Ev.bind b1 ?_
  by_cases h1 : valn n = 0
  · exact Ev_pos (decide_eq_true h1) (Make_j un ud ln ld true ⟨fun _ => .inl h1, fun _ => rfl⟩)
  · refine Ev_neg (by rw [decide_eq_false h1]; decide) (Ev.bind b2 (Make_j un ud ln ld _ ?_))
    rw [decide_eq_true_iff]
    exact ⟨.inr, fun h => h.elim (fun h => absurd h h1) id⟩
def sgq (q : Rat) : Int := if q.num = 0 then 0 else if q.num < 0 then -1 else 1
theorem rTrim02_f {neg : Bool} {n d : List Int} (un : U n) (ud : U d) (ln : n.length ≤ 1000000) (ld : d.length ≤ 1000000) :
    Ev (fun k => codewrightref02_Trim.f k neg n d) (rep (rv neg n d)) := Ev.bind (Make_f un ud ln ld) (Ev.now _)
theorem sgq_zero {q : Rat} : sgq q = 0 ↔ q = 0 := by
  unfold sgq
  rw [← Rat.num_eq_zero]
  by_cases h : q.num = 0
  · simp [h]
  · rw [if_neg h]; constructor
    · intro h1; split at h1 <;> omega
    · intro h1; exact absurd h1 h
theorem same02_f {x y : Bool} {a b c d : List Int} (la : a.length ≤ 100000000) (lc : b.length ≤ 100000000) : Ev (fun k => codewrightlaw02_same.f k x a b y c d) (decide ((x, a, b) = (y, c, d))) := by
  have h1 := Same_f (a := a) (b := c) (by omega)
  have h2 := Same_f (a := b) (b := d) (by omega)
  refine Ev.bind (a := decide ((x, a, b) = (y, c, d))) ?_ (Ev.now _)
  by_cases c1 : x = y
  · by_cases c2 : a = c
    · refine Ev_pos (by rw [c1]; simp) (Ev.bind h1 (Ev_pos (decide_eq_true c2) (Ev.bind h2 (Ev_as (Ev.now _) ?_))))
      rw [c1, c2]; simp
    · refine Ev_pos (by rw [c1]; simp) (Ev.bind h1 (Ev_neg (by rw [decide_eq_false c2]; decide) (Ev_as (Ev.now _) ?_)))
      rw [decide_eq_false]; intro h; injection h with _ h; injection h with h _; exact c2 h
  · refine Ev_neg (by simp [c1]) (Ev_as (Ev.now _) ?_)
    rw [decide_eq_false]; intro h; injection h with h _; exact c1 h
theorem rep_len {q : Rat} {m : Nat} (h : Sz m q) : (rep q).2.1.length ≤ m ∧ (rep q).2.2.length ≤ m := ⟨lb_len_le h.1, lb_len_le h.2⟩
theorem same_rep {p q : Rat} {m : Nat} (h : Sz m p) (hm : m ≤ 100000000) : Ev (fun k => codewrightlaw02_same.f k (rep p).1 (rep p).2.1 (rep p).2.2 (rep q).1 (rep q).2.1 (rep q).2.2) (decide (p = q)) := by
  have hl := rep_len h
  refine Ev_as (same02_f (by omega) (by omega)) ?_
  have : ((rep p).1, (rep p).2.1, (rep p).2.2) = ((rep q).1, (rep q).2.1, (rep q).2.2) ↔ p = q := ⟨fun h => rep_inj h, fun h => by rw [h]⟩
  exact decide_eq_decide.mpr this
theorem same_self {q : Rat} {m : Nat} (h : Sz m q) (hm : m ≤ 100000000) : Ev (fun k => codewrightlaw02_same.f k (rep q).1 (rep q).2.1 (rep q).2.2 (rep q).1 (rep q).2.1 (rep q).2.2) true :=
  Ev_as (same_rep h hm) (decide_eq_true rfl)
def I64 (x : Int) : Prop := -9223372036854775808 ≤ x ∧ x ≤ 9223372036854775807
theorem rOf_f {n : Nat} (h : n < 18446744073709551616) : Ev (fun k => codewrightref01_Of.f k (n : Int)) (lb n) := by
  have ht := rTrim_f (l := [((n : Int)) % 4294967296, ((n : Int) / 4294967296) % 4294967296]) (U_cons (by omega) (U_cons (by omega) U_nil)) (by simp)
  rw [valn_two n h] at ht
  have e1 : Int.tmod (n : Int) 4294967296 % 4294967296 = (n : Int) % 4294967296 := by rw [tmod_nat]; omega
  have e2 : IntKind.u64.wrap (Int.tdiv (n : Int) 4294967296) % 4294967296 = (n : Int) / 4294967296 % 4294967296 := by
    rw [tdiv_nat, u64 (Int.natCast_nonneg _) (by omega)]; rfl
  unfold codewrightref01_Of.f
  rw [e1, e2]
  exact Ev.bind ht (Ev.now _)
theorem abs_f {x : Int} (h : I64 x) : Ev (fun k => codewrightref02_abs.f k x) (lb x.natAbs) := by
  unfold I64 at h
  by_cases c : x < 0
  · have e1 : wrap64 (x + 1) = x + 1 := w64 (by omega) (by omega)
    have e2 : wrap64 (-(x + 1)) = -(x + 1) := w64 (by omega) (by omega)
    have e3 : IntKind.u64.wrap (-(x + 1)) = ((x.natAbs - 1 : Nat) : Int) := by rw [u64 (by omega) (by omega)]; omega
    have b1 : x.natAbs - 1 < 18446744073709551616 := by clear e1 e2 e3; omega
    have ho := rOf_f b1
    have hl := lb_len_le (n := x.natAbs - 1) (m := 2) (by rw [two_pw]; exact Nat.lt_of_lt_of_le b1 (by decide))
    have ha := rAdd_f (U_lb (x.natAbs - 1)) (b := [1]) (U_cons (by decide) U_nil) (by clear e1 e2 e3; omega) (by simp)
    have e4 : x.natAbs - 1 + 1 = x.natAbs := by clear e1 e2 e3; omega
    rw [valn_lb, show valn [1] = 1 from rfl, e4] at ha
    refine Ev_pos c ?_
    rw [e1, e2, e3]
    exact Ev.bind ho (Ev.bind ha (Ev.now _))
  · have e : IntKind.u64.wrap x = ((x.natAbs : Nat) : Int) := by rw [u64 (by omega) (by omega)]; omega
    have ho := rOf_f (n := x.natAbs) (by clear e; omega)
    refine Ev_neg c ?_
    rw [e]; exact Ev.bind ho (Ev.now _)
def divq (x y : Int) : Rat := mkRat (sg (decide (x < 0) != decide (y < 0)) x.natAbs) y.natAbs
theorem lb_i64 {x : Int} (h : I64 x) : (lb x.natAbs).length ≤ 2 := by
  unfold I64 at h
  exact lb_len_le (by rw [two_pw]; exact Nat.lt_of_lt_of_le (by omega : x.natAbs < 18446744073709551616) (by decide))
theorem rOf02_f {x y : Int} (hx : I64 x) (hy : I64 y) : Ev (fun k => codewrightref02_Of.f k x y) (rep (divq x y)) := by
  have lx := lb_i64 hx
  have ly := lb_i64 hy
  have hc := Make_f (neg := decide (x < 0) != decide (y < 0)) (U_lb x.natAbs) (U_lb y.natAbs) (by omega) (by omega)
  rw [rv, valn_lb, valn_lb] at hc
  exact Ev.bind (abs_f hx) (Ev.bind (abs_f hy) (Ev.bind hc (Ev.now _)))
theorem Trim02_f {neg : Bool} {n d : List Int} (un : U n) (ud : U d) (ln : n.length ≤ 1000000) (ld : d.length ≤ 1000000) :
    Ev (fun k => rational_Trim.f k neg n d) (rep (rv neg n d)) := Ev.bind (canonical_f un ud ln ld) (Ev.now _)
theorem sgq_rv0 {neg : Bool} {n d : List Int} (h : valn n = 0 ∨ valn d = 0) : sgq (rv neg n d) = 0 := by
  rcases h with h | h
  · rw [rv_zero_num neg h]; rfl
  · rw [rv_zero_den neg h]; rfl
theorem sgq_rep {q : Rat} (h : q ≠ 0) : sgq q = if (rep q).1 = true then -1 else 1 := by
  have h0 : q.num ≠ 0 := fun e => h (Rat.num_eq_zero.mp e)
  unfold sgq
  rw [if_neg h0]
  simp only [rep, decide_eq_true_iff]
theorem rv_ne {neg : Bool} {n d : List Int} (hn : valn n ≠ 0) (hd : valn d ≠ 0) : rv neg n d ≠ 0 := by
  unfold rv
  rw [Rat.mkRat_ne_zero hd]
  exact sg_ne hn
theorem Sign_j {neg : Bool} {n d : List Int} (b : Bool) (hb : b = true ↔ valn n = 0 ∨ valn d = 0) : Ev (fun k => rational_Sign.j0 k b neg n d) (sgq (rv neg n d)) := by
  refine Ev_succ ?_
  simp only [rational_Sign.j0]
  cases b with
  | true => rw [sgq_rv0 (hb.mp rfl)]; exact Ev_pos rfl (Ev.now _)
  | false =>
    have hn : valn n ≠ 0 := fun h => absurd (hb.mpr (.inl h)) (by decide)
    have hd : valn d ≠ 0 := fun h => absurd (hb.mpr (.inr h)) (by decide)
    rw [sgq_rep (rv_ne hn hd), rep_rv hn hd]
    refine Ev_neg (by decide) ?_
    cases neg
    · exact Ev_neg (by decide) (Ev.now _)
    · exact Ev_pos rfl (Ev.now _)
theorem Sign_f {neg : Bool} {n d : List Int} (un : U n) (ud : U d) (ln : n.length ≤ 1000000) (ld : d.length ≤ 1000000) :
    Ev (fun k => rational_Sign.f k neg n d) (sgq (rv neg n d)) := by
  have b1 := Bits_f un (by omega)
  have b2 := Bits_f ud (by omega)
  refine Ev.bind b1 ?_
  by_cases h1 : valn n = 0
  · exact Ev_pos (by rw [h1]; rfl) (Sign_j true ⟨fun _ => .inl h1, fun _ => rfl⟩)
  · have hz : ((sz (valn n) : Nat) : Int) ≠ 0 := fun h => h1 (sz_eq_zero.mp (Int.ofNat_eq_zero.mp h))
    refine Ev_neg hz (Ev.bind b2 (Sign_j _ ?_))
    constructor
    · intro h
      exact .inr (sz_eq_zero.mp (Int.ofNat_eq_zero.mp (beq_iff_eq.mp h)))
    · intro h
      rcases h with h | h
      · exact absurd h h1
      · rw [h]; rfl
theorem rv_not (neg : Bool) (n d : List Int) : rv (!neg) n d = - rv neg n d := by
  unfold rv
  rw [sg_not, Rat.neg_mkRat]
theorem Neg_f {neg : Bool} {n d : List Int} (un : U n) (ud : U d) (ln : n.length ≤ 1000000) (ld : d.length ≤ 1000000) :
    Ev (fun k => rational_Neg.f k neg n d) (rep (- rv neg n d)) := by
  rw [← rv_not]
  exact Ev.bind (canonical_f un ud ln ld) (Ev.now _)
theorem long02_l0 (m : Nat) (l : List S67) (hl : l.length < 4611686018427387904) (hs : ∀ x ∈ l, x.f1.length < 2305843009213693952 ∧ x.f2.length < 2305843009213693952) (n : Nat) : ∀ i : Nat, i + n = l.length →
    Ev (fun k => codewrightlaw02_long.l0 k (m : Int) l (i : Int)) ((l.drop i).any fun x => decide (m < x.f1.length + x.f2.length)) := by
  induction n with
  | zero =>
    intro i hi
    rw [List.drop_eq_nil_of_le (by omega)]
    refine Ev_succ ?_
    simp only [codewrightlaw02_long.l0]
    exact Ev_neg (by omega) (Ev.now _)
  | succ n ih =>
    intro i hi
    have e : rd_T67 l (i : Int) = l[i]'(by omega) := by simp [rd_T67, show i < l.length from by omega]
    have hm : l[i]'(by omega) ∈ l := List.getElem_mem _
    have hx := hs _ hm
    have hd : l.drop i = l[i]'(by omega) :: l.drop (i + 1) := by rw [List.drop_eq_getElem_cons]
    rw [hd, List.any_cons]
    generalize l[i]'(by omega) = x at *
    have c : (i : Int) < (l.length : Int) ∧ (0 : Int) ≤ (i : Int) := by omega
    have step := ih (i + 1) (by omega)
    have wi : wrap64 ((i : Int) + 1) = ((i + 1 : Nat) : Int) := up i (by omega)
    have ws : wrap64 ((x.f1.length : Int) + (x.f2.length : Int)) = ((x.f1.length + x.f2.length : Nat) : Int) := by rw [w64 (by omega) (by omega)]; rfl
    refine Ev_succ ?_
    simp only [codewrightlaw02_long.l0]
    refine Ev_pos c.1 (Ev_pos c.2 ?_)
    rw [e, ws, wi]
    clear ws wi
    by_cases h : m < x.f1.length + x.f2.length
    · rw [decide_eq_true h]
      exact Ev_pos (by omega) (Ev.now _)
    · rw [decide_eq_false h, Bool.false_or]
      exact Ev_neg (by omega) step
theorem long02_f (m : Nat) (l : List S67) (hl : l.length < 4611686018427387904) (hs : ∀ x ∈ l, x.f1.length < 2305843009213693952 ∧ x.f2.length < 2305843009213693952) :
    Ev (fun k => codewrightlaw02_long.f k (m : Int) l) (l.any fun x => decide (m < x.f1.length + x.f2.length)) := long02_l0 m l hl hs l.length 0 (by omega)
def v67 (x : S67) : Rat := rv x.f0 x.f1 x.f2
def Ok67 (m : Nat) (l : List S67) : Prop := ∀ x ∈ l, U x.f1 ∧ U x.f2 ∧ x.f1.length ≤ m ∧ x.f2.length ≤ m
theorem lb_sz {m : Nat} {q : Rat} (h : Sz m q) : (lb q.num.natAbs).length ≤ m ∧ (lb q.den).length ≤ m := ⟨lb_len_le h.1, lb_len_le h.2⟩
theorem rd67 {l : List S67} {i : Nat} (h : i < l.length) : rd_T67 l (i : Int) = l[i] := by simp [rd_T67, h]
theorem Sz_one : Sz 1 1 := by
  have h1 : 1 < pw 1 := by rw [pw_succ, pw_zero]; decide
  exact ⟨h1, h1⟩
theorem Ok67_two {m : Nat} {x y : S67} (hx : U x.f1 ∧ U x.f2 ∧ x.f1.length ≤ m ∧ x.f2.length ≤ m) (hy : U y.f1 ∧ U y.f2 ∧ y.f1.length ≤ m ∧ y.f2.length ≤ m) : Ok67 m [x, y] := by
  intro z hz
  simp only [List.mem_cons, List.not_mem_nil, or_false] at hz
  rcases hz with rfl | rfl
  · exact hx
  · exact hy
theorem ok_rep {m : Nat} {q : Rat} (h : Sz m q) : U (rep q).2.1 ∧ U (rep q).2.2 ∧ (rep q).2.1.length ≤ m ∧ (rep q).2.2.length ≤ m := ⟨U_lb _, U_lb _, (rep_len h).1, (rep_len h).2⟩
theorem v67_rep (q : Rat) : v67 ⟨(rep q).1, (rep q).2.1, (rep q).2.2⟩ = q := rv_rep q
theorem sub_digit {x y c : Nat} (hx : x < 4294967296) (hy : y < 4294967296) (hc : c ≤ 1) :
    ∃ d h : Nat, d < 4294967296 ∧ h ≤ 1 ∧ x + 4294967296 * h = d + y + c ∧
      IntKind.u64.wrap (IntKind.u64.wrap (IntKind.u64.wrap (x : Int) - (c : Int)) - IntKind.u64.wrap (y : Int)) % 4294967296 = (d : Int) ∧
      IntKind.u64.wrap (IntKind.u64.wrap (IntKind.u64.wrap (x : Int) - (c : Int)) - IntKind.u64.wrap (y : Int)) / 9223372036854775808 = (h : Int) := by
  have e : ∀ z : Int, IntKind.u64.wrap z = z % 18446744073709551616 := fun z => rfl
  simp only [e]
  refine ⟨if x < y + c then x + 4294967296 - (y + c) else x - (y + c), if x < y + c then 1 else 0, ?_, ?_, ?_, ?_, ?_⟩ <;> split <;> omega
theorem sub_digit0 {x c : Nat} (hx : x < 4294967296) (hc : c ≤ 1) :
    ∃ d h : Nat, d < 4294967296 ∧ h ≤ 1 ∧ x + 4294967296 * h = d + 0 + c ∧
      IntKind.u64.wrap (IntKind.u64.wrap (x : Int) - (c : Int)) % 4294967296 = (d : Int) ∧
      IntKind.u64.wrap (IntKind.u64.wrap (x : Int) - (c : Int)) / 9223372036854775808 = (h : Int) := by
  have e : ∀ z : Int, IntKind.u64.wrap z = z % 18446744073709551616 := fun z => rfl
  simp only [e]
  refine ⟨if x < c then x + 4294967296 - c else x - c, if x < c then 1 else 0, ?_, ?_, ?_, ?_, ?_⟩ <;> split <;> omega
theorem Sub_l0 {a b : List Int} (ua : U a) (ub : U b) (hs : a.length ≤ 100000000) (hle : valn b ≤ valn a) (n : Nat) : ∀ (i : Nat) (z : List Int) (c : Nat), i + n = a.length → z.length = a.length → U z → c ≤ 1 → z.drop i = a.drop i →
    valn (a.take i) + pw i * c = valn (z.take i) + valn (b.take i) → Ev (fun k => nat_Sub.l0 k b z (c : Int) (a.length : Int) (i : Int)) (lb (valn a - valn b), 0) := by
  induction n with
  | zero =>
    intro i z c hi hz uz hc hd hv
    obtain rfl : i = a.length := by omega
    have hzl := valn_lt uz
    rw [hz] at hzl
    have va := valn_lt ua
    rw [List.take_of_length_le (Nat.le_refl _), List.take_of_length_le (by omega)] at hv
    have hb : valn (b.take a.length) = valn b := by
      have h1 := valn_split b a.length
      rcases Nat.eq_zero_or_pos (valn (b.drop a.length)) with h | h
      · rw [h] at h1; omega
      · exfalso
        have := Nat.mul_le_mul_left (pw a.length) h
        omega
    rw [hb] at hv
    have key : valn z = valn a - valn b := by
      rcases Nat.eq_zero_or_pos c with h | h
      · subst h; omega
      · obtain rfl : c = 1 := by omega
        omega
    have ht := short_f uz (by omega)
    rw [key] at ht
    have c1 : ¬ ((a.length : Int) < (a.length : Int)) := by omega
    refine Ev_succ ?_
    simp only [nat_Sub.l0]
    exact Ev_neg c1 (Ev.bind ht (Ev.now _))
  | succ n ih =>
    intro i z c hi hz uz hc hdr hv
    have hi1 : i < a.length := by omega
    have hi2 : i < z.length := by omega
    obtain ⟨x, ex, hx⟩ := rd_nat ua (i : Int)
    obtain ⟨y, ey, hy⟩ := rd_nat ub (i : Int)
    have exz : rd z (i : Int) = (x : Int) := by
      have h1 := drop_rd z i hi2
      have h2 := drop_rd a i hi1
      rw [hdr, h2] at h1
      injection h1 with h1 _
      rw [← h1]; exact ex
    have c1 : (i : Int) < (a.length : Int) := by omega
    have c0 : (0 : Int) ≤ (i : Int) := by omega
    have c2 : (i : Int) < (z.length : Int) := by omega
    have wi : wrap64 ((i : Int) + 1) = ((i + 1 : Nat) : Int) := up i (by omega)
    have ti : ((i : Int)).toNat = i := Int.toNat_natCast i
    have main : ∀ d h : Nat, d < 4294967296 → h ≤ 1 → x + 4294967296 * h = d + y + c → Ev (fun k => nat_Sub.l0 k b (z.set i (d : Int)) (h : Int) (a.length : Int) ((i + 1 : Nat) : Int)) (lb (valn a - valn b), 0) := by
      intro d h hd hh heq
      refine ih (i + 1) (z.set i (d : Int)) h (by omega) (by rw [List.length_set]; exact hz) (U_set uz (by omega) i) hh ?_ ?_
      · have e1 := drop_rd z i hi2
        have e2 := drop_rd a i hi1
        rw [hdr, e2] at e1
        injection e1 with _ e1
        rw [List.drop_set_of_lt (by omega)]; exact e1.symm
      · rw [valn_set_take z i d hi2, valn_take_succ, valn_take_succ b, ex, ey, Int.toNat_natCast, Int.toNat_natCast, Int.toNat_natCast, pw_succ]
        have h3 : pw i * (x + 4294967296 * h) = pw i * (d + y + c) := by rw [heq]
        rw [Nat.mul_add, Nat.mul_add, Nat.mul_add, ← Nat.mul_assoc] at h3
        omega
    refine Ev_succ ?_
    simp only [nat_Sub.l0]
    refine Ev_pos c1 (Ev_pos c0 (Ev_pos c2 ?_))
    by_cases hb : i < b.length
    · obtain ⟨d, h, hd, hh, heq, e1, e2⟩ := sub_digit hx hy hc
      have c3 : (i : Int) < (b.length : Int) := by clear wi e1 e2; omega
      refine Ev_pos c3 ?_
      rw [exz, ey, e1, e2, wi, ti]; exact main d h hd hh heq
    · obtain ⟨d, h, hd, hh, heq, e1, e2⟩ := sub_digit0 hx hc
      have c3 : ¬ (i : Int) < (b.length : Int) := by clear wi e1 e2; omega
      have y0 : y = 0 := by have := rd_ge b i (by clear wi e1 e2; omega); rw [ey] at this; clear wi e1 e2; omega
      refine Ev_neg c3 ?_
      rw [exz, e1, e2, wi, ti]; exact main d h hd hh (by rw [y0]; exact heq)
theorem Sub_f {a b : List Int} (ua : U a) (ub : U b) (la : a.length ≤ 1000000) (lb' : b.length ≤ 1000000) (hle : valn b ≤ valn a) : Ev (fun k => nat_Sub.f k a b) (lb (valn a - valn b), 0) := by
  have hc := Cmp_f ua ub (by omega) (by omega)
  have ht := Trim_f ua (by omega)
  have hl := lb_len ua
  have h := Sub_l0 (a := lb (valn a)) (U_lb _) ub (by omega) (by rw [valn_lb]; exact hle) (lb (valn a)).length 0 (lb (valn a)) 0 (by omega) rfl (U_lb _) (by omega) rfl (by simp [valn_nil])
  rw [valn_lb] at h
  refine Ev.bind hc (Ev_neg ?_ (Ev.bind ht h))
  unfold cmpn
  split
  · omega
  · split <;> decide
theorem sum_same {p q : Rat} (h : decide (p.num < 0) = decide (q.num < 0)) : rv (decide (p.num < 0)) (lb (p.num.natAbs * q.den + q.num.natAbs * p.den)) (lb (p.den * q.den)) = p + q := by
  rw [rv, valn_lb, valn_lb, sg_add, add_parts p q, ← h]
theorem sum_less {p q : Rat} (h : decide (p.num < 0) ≠ decide (q.num < 0)) (hl : p.num.natAbs * q.den ≤ q.num.natAbs * p.den) : rv (decide (q.num < 0)) (lb (q.num.natAbs * p.den - p.num.natAbs * q.den)) (lb (p.den * q.den)) = p + q := by
  have e : (!decide (q.num < 0)) = decide (p.num < 0) := by
    revert h; cases decide (p.num < 0) <;> cases decide (q.num < 0) <;> decide
  rw [rv, valn_lb, valn_lb, sg_sub _ hl, e, Int.add_comm, add_parts p q]
theorem sum_more {p q : Rat} (h : decide (p.num < 0) ≠ decide (q.num < 0)) (hl : q.num.natAbs * p.den ≤ p.num.natAbs * q.den) : rv (decide (p.num < 0)) (lb (p.num.natAbs * q.den - q.num.natAbs * p.den)) (lb (p.den * q.den)) = p + q := by
  have e : (!decide (p.num < 0)) = decide (q.num < 0) := by
    revert h; cases decide (p.num < 0) <;> cases decide (q.num < 0) <;> decide
  rw [rv, valn_lb, valn_lb, sg_sub _ hl, e, add_parts p q]
theorem plus_q {p q : Rat} {s m : Nat} (hp : Sz s p) (hq : Sz m q) (hs : s + m ≤ 400000) : Ev (fun k => rational_plus.f k (rep p).1 (rep p).2.1 (rep p).2.2 (rep q).1 (rep q).2.1 (rep q).2.2) (rep (p + q)) := by
  have lp := lb_sz hp
  have lq := lb_sz hq
  have m1 : Ev (fun k => nat_Mul.f k [(rep p).2.1, (rep q).2.2]) (lb (p.num.natAbs * q.den)) := by
    have h := Mul_two (U_lb p.num.natAbs) (U_lb q.den) (by omega)
    rw [valn_lb, valn_lb] at h; exact h
  have m2 : Ev (fun k => nat_Mul.f k [(rep q).2.1, (rep p).2.2]) (lb (q.num.natAbs * p.den)) := by
    have h := Mul_two (U_lb q.num.natAbs) (U_lb p.den) (by omega)
    rw [valn_lb, valn_lb] at h; exact h
  have m3 : Ev (fun k => nat_Mul.f k [(rep p).2.2, (rep q).2.2]) (lb (p.den * q.den)) := by
    have h := Mul_two (U_lb p.den) (U_lb q.den) (by omega)
    rw [valn_lb, valn_lb] at h; exact h
  have bx : p.num.natAbs * q.den < pw (s + m) := mul_pw' hp.1 hq.2
  have by' : q.num.natAbs * p.den < pw (s + m) := by rw [Nat.add_comm s m]; exact mul_pw' hq.1 hp.2
  have lx := lb_len_le bx
  have ly := lb_len_le by'
  have ld := lb_len_le (mul_pw' hp.2 hq.2)
  have e1 : (rep p).1 = decide (p.num < 0) := rfl
  have e2 : (rep q).1 = decide (q.num < 0) := rfl
  have hsame : decide (p.num < 0) = decide (q.num < 0) → rv (decide (p.num < 0)) (lb (p.num.natAbs * q.den + q.num.natAbs * p.den)) (lb (p.den * q.den)) = p + q := sum_same
  have hless := @sum_less p q
  have hmore := @sum_more p q
  refine Ev.bind m1 (Ev.bind m2 (Ev.bind m3 ?_))
  clear m1 m2 m3
  rw [e1, e2]
  generalize p.num.natAbs * q.den = x at *
  generalize q.num.natAbs * p.den = y at *
  generalize p.den * q.den = d at *
  generalize decide (p.num < 0) = a at *
  generalize decide (q.num < 0) = b at *
  generalize p + q = r at *
  have C : ∀ (g : Bool) (n : Nat), (lb n).length ≤ 1000000 → rv g (lb n) (lb d) = r → Ev (fun k => rational_canonical.f k g (lb n) (lb d)) (rep r) := by
    intro g n hn he
    rw [← he]; exact canonical_f (U_lb _) (U_lb _) hn (by omega)
  by_cases c : a = b
  · refine Ev_pos (by rw [c]; exact beq_self_eq_true b) ?_
    have ha := Add_two (U_lb x) (U_lb y) (by omega) (by omega)
    rw [valn_lb, valn_lb] at ha
    have hxy : (lb (x + y)).length ≤ 1000000 := Nat.le_trans (lb_len_le (m := s + m + 1) (by rw [pw_succ]; omega)) (by omega)
    exact Ev.bind ha (Ev.bind (C a (x + y) hxy (hsame c)) (Ev.now _))
  · refine Ev_neg (fun h => c (beq_iff_eq.mp h)) ?_
    have hc := Cmp_f (U_lb x) (U_lb y) (by omega) (by omega)
    rw [valn_lb, valn_lb] at hc
    refine Ev.bind hc ?_
    by_cases hlt : x < y
    · have hs := Sub_f (U_lb y) (U_lb x) (by omega) (by omega) (by rw [valn_lb, valn_lb]; omega)
      rw [valn_lb, valn_lb] at hs
      have hn : (lb (y - x)).length ≤ 1000000 := Nat.le_trans (lb_len_le (m := s + m) (by omega)) (by omega)
      exact Ev_pos (by unfold cmpn; rw [if_pos hlt]; decide) (Ev.bind hs (Ev.bind (C b (y - x) hn (hless c (by omega))) (Ev.now _)))
    · have hs := Sub_f (U_lb x) (U_lb y) (by omega) (by omega) (by rw [valn_lb, valn_lb]; omega)
      rw [valn_lb, valn_lb] at hs
      have hn : (lb (x - y)).length ≤ 1000000 := Nat.le_trans (lb_len_le (m := s + m) (by omega)) (by omega)
      exact Ev_neg (by unfold cmpn; rw [if_neg hlt]; split <;> decide) (Ev.bind hs (Ev.bind (C a (x - y) hn (hmore c (by omega))) (Ev.now _)))
theorem sgq_pos {q : Rat} (h : 0 < q) : sgq q = 1 := by
  have h1 : 0 ≤ q.num := Rat.num_nonneg.mpr (Rat.le_of_lt h)
  have h2 : q.num ≠ 0 := fun e => Rat.ne_of_gt h (Rat.num_eq_zero.mp e)
  unfold sgq
  rw [if_neg h2, if_neg (by omega)]
theorem sgq_neg {q : Rat} (h : q < 0) : sgq q = -1 := by
  have h1 : ¬ 0 ≤ q.num := fun e => Rat.not_le.mpr h (Rat.num_nonneg.mp e)
  unfold sgq
  rw [if_neg (by omega), if_pos (by omega)]
theorem sgq_zero0 : sgq 0 = 0 := sgq_zero.mpr rfl
theorem sgq_le {q : Rat} (h : q ≤ 0) : sgq q ≤ 0 := by
  rcases Rat.le_iff_lt_or_eq.mp h with h | h
  · rw [sgq_neg h]; decide
  · rw [h, sgq_zero0]; decide
theorem Sub02_f {a b : S67} {m : Nat} (ha : U a.f1 ∧ U a.f2 ∧ a.f1.length ≤ m ∧ a.f2.length ≤ m) (hb : U b.f1 ∧ U b.f2 ∧ b.f1.length ≤ m ∧ b.f2.length ≤ m) (hm : 1 ≤ m) (hs : m ≤ 200000) :
    Ev (fun k => rational_Sub.f k a.f0 a.f1 a.f2 b.f0 b.f1 b.f2) (rep (v67 a - v67 b)) := by
  have hp : Sz m (v67 a) := Sz_rv ha.1 ha.2.1 ha.2.2.1 ha.2.2.2 hm
  have hq : Sz m (v67 b) := Sz_rv hb.1 hb.2.1 hb.2.2.1 hb.2.2.2 hm
  have t1 : Ev (fun k => rational_Trim.f k a.f0 a.f1 a.f2) (rep (v67 a)) := Trim02_f ha.1 ha.2.1 (by omega) (by omega)
  have t2 : Ev (fun k => rational_Neg.f k b.f0 b.f1 b.f2) (rep (- v67 b)) := Neg_f hb.1 hb.2.1 (by omega) (by omega)
  have h := plus_q hp (Sz_neg hq) (by omega)
  rw [← Rat.sub_eq_add_neg] at h
  exact Ev.bind t1 (Ev.bind t2 (Ev.bind h (Ev.now _)))
theorem Sz_sub {m : Nat} {p q : Rat} (hp : Sz m p) (hq : Sz m q) (hm : 1 ≤ m) : Sz (m + m + 1) (p - q) := by
  rw [Rat.sub_eq_add_neg]; exact Sz_add hp (Sz_neg hq) hm
theorem Cmp02_f {a b : S67} {m : Nat} (ha : U a.f1 ∧ U a.f2 ∧ a.f1.length ≤ m ∧ a.f2.length ≤ m) (hb : U b.f1 ∧ U b.f2 ∧ b.f1.length ≤ m ∧ b.f2.length ≤ m) (hm : 1 ≤ m) (hs : m ≤ 200000) :
    Ev (fun k => rational_Cmp.f k a.f0 a.f1 a.f2 b.f0 b.f1 b.f2) (sgq (v67 a - v67 b)) := by
  have hp : Sz m (v67 a) := Sz_rv ha.1 ha.2.1 ha.2.2.1 ha.2.2.2 hm
  have hq : Sz m (v67 b) := Sz_rv hb.1 hb.2.1 hb.2.2.1 hb.2.2.2 hm
  have h1 := Sub02_f ha hb hm hs
  have sd := Sz_sub hp hq hm
  have hsg := Sign_f (neg := (rep (v67 a - v67 b)).1) (n := (rep (v67 a - v67 b)).2.1) (d := (rep (v67 a - v67 b)).2.2) (U_lb _) (U_lb _) (by have := (rep_len sd).1; omega) (by have := (rep_len sd).2; omega)
  rw [rv_rep] at hsg
  exact Ev.bind h1 (Ev.bind hsg (Ev.now _))
def sumq : List S67 → Rat
  | [] => 0
  | x :: l => v67 x + sumq l
theorem Add02_l0 {m : Nat} {l : List S67} (hl : Ok67 m l) (hm : 1 ≤ m) (hn : l.length < 4611686018427387904) (n : Nat) : ∀ (i s : Nat) (p : Rat), i + n = l.length → Sz s p → 1 ≤ s → s + (m + 1) * n ≤ 400000 →
    Ev (fun k => rational_Add.l0 k l (l.length : Int) (i : Int) (rep p).1 (rep p).2.1 (rep p).2.2) (rep (p + sumq (l.drop i))) := by
  induction n with
  | zero =>
    intro i s p hi hp h1 hs
    rw [List.drop_eq_nil_of_le (by omega)]
    have c1 : ¬ ((i : Int) < (l.length : Int)) := by omega
    refine Ev_succ ?_
    simp only [rational_Add.l0]
    exact Ev_neg c1 (Ev_as (Ev.now _) (by rw [sumq, Rat.add_zero]))
  | succ n ih =>
    intro i s p hi hp h1 hs
    have hs' : s + m + 1 + (m + 1) * n ≤ 400000 := by rw [Nat.mul_succ] at hs; omega
    have hi' : i < l.length := by omega
    have c1 : (i : Int) < (l.length : Int) := by omega
    have c0 : (0 : Int) ≤ (i : Int) := by omega
    obtain ⟨u1, u2, l1, l2⟩ := hl _ (List.getElem_mem hi')
    have hq : Sz m (v67 l[i]) := Sz_rv u1 u2 l1 l2 hm
    have hd : l.drop i = l[i] :: l.drop (i + 1) := by rw [List.drop_eq_getElem_cons]
    have ht : Ev (fun k => rational_Trim.f k l[i].f0 l[i].f1 l[i].f2) (rep (v67 l[i])) := Trim02_f u1 u2 (by omega) (by omega)
    have hrd := rd67 hi'
    have hp' := plus_q hp hq (by omega)
    have step := ih (i + 1) (s + m + 1) (p + v67 l[i]) (by omega) (Sz_add hp hq h1) (by omega) (by omega)
    rw [hd, sumq, ← Rat.add_assoc]
    have wi : wrap64 ((i : Int) + 1) = ((i + 1 : Nat) : Int) := up i (by omega)
    refine Ev_succ ?_
    simp only [rational_Add.l0]
    refine Ev_pos c1 (Ev_pos c0 (Ev_pos c1 ?_))
    rw [hrd, wi]
    exact Ev.bind ht (Ev.bind hp' step)
theorem Add02_f {m : Nat} {l : List S67} (hl : Ok67 m l) (hm : 1 ≤ m) (hs : (m + 1) * l.length ≤ 399999) : Ev (fun k => rational_Add.f k l) (rep (sumq l)) := by
  have hn : l.length ≤ (m + 1) * l.length := Nat.le_mul_of_pos_left _ (by omega)
  have h := Add02_l0 hl hm (by omega) l.length 0 1 0 (by omega) (Sz_zero (by omega)) (by omega) (by omega)
  rw [rep_zero, Rat.zero_add] at h
  exact Ev.bind (Ev.now _) h
theorem rInt_f {x : Int} (h : I64 x) : Ev (fun k => codewrightref02_Int.f k x) (rep (divq x 1)) := Ev.bind (rOf02_f h ⟨by decide, by decide⟩) (Ev.now _)
theorem divq_one : divq 1 1 = 1 := by rfl
end Go.Proofs.Ytecfdemglbfnoaa.Num
end
section
namespace Go.Proofs.Ytecfdemglbfnoaa.Num
open Go.RowKit Go.Proofs.Ytecfdemglbfnoaa.PT Go.Proofs.YtecfdemglbfnoaaW.PrintWords Go.Proofs.YtecfdemglbfnoaaW.PrintLast Go.Proofs.YtecfdemglbfnoaaW.PrintMore
theorem int_mk (z : Int) : mkRat z 1 = (z : Rat) := by
  have := Rat.mkRat_self (z : Rat)
  rw [Rat.num_intCast, Rat.den_intCast] at this; exact this
theorem rv_int (neg : Bool) (m : Nat) : rv neg (lb m) [1] = ((sg neg m : Int) : Rat) := by
  rw [rv, valn_lb, show valn [1] = 1 from rfl, int_mk]
theorem floor_parts (q : Rat) : q.floor = sg (decide (q.num < 0)) (q.num.natAbs / q.den + if (decide (q.num < 0)) = true ∧ q.num.natAbs % q.den ≠ 0 then 1 else 0) := by
  rw [Rat.floor_def]
  have hd : 0 < q.den := q.den_pos
  obtain ⟨D, hD⟩ : ∃ D, q.den = D := ⟨_, rfl⟩
  rw [hD] at hd ⊢
  by_cases c : q.num < 0
  · rw [decide_eq_true c]
    obtain ⟨N, hN⟩ : ∃ N, q.num.natAbs = N := ⟨_, rfl⟩
    have e : q.num = -(N : Int) := by omega
    rw [hN, e]
    have e1 := Nat.div_add_mod N D
    have e2 := Nat.mod_lt N hd
    by_cases h : N % D = 0
    · rw [if_neg (fun x => x.2 h)]
      show -(N : Int) / (D : Int) = -((N / D + 0 : Nat) : Int)
      rw [Nat.add_zero]
      have : (N : Int) = (D : Int) * ((N / D : Nat) : Int) := by rw [h, Nat.add_zero] at e1; rw [← Int.natCast_mul, e1]
      rw [this, ← Int.mul_neg, Int.mul_ediv_cancel_left _ (by omega)]
    · rw [if_pos ⟨rfl, h⟩]
      show -(N : Int) / (D : Int) = -((N / D + 1 : Nat) : Int)
      have h3 : -(N : Int) = (D - N % D : Nat) + (D : Int) * -((N / D + 1 : Nat) : Int) := by
        have : (N : Int) = (D : Int) * ((N / D : Nat) : Int) + ((N % D : Nat) : Int) := by rw [← Int.natCast_mul, ← Int.natCast_add, e1]
        rw [Int.mul_neg, Int.natCast_add, Int.mul_add]
        have e4 : ((D - N % D : Nat) : Int) = (D : Int) - ((N % D : Nat) : Int) := by omega
        rw [e4]
        have e5 : (D : Int) * ((1 : Nat) : Int) = (D : Int) := by rw [show ((1 : Nat) : Int) = 1 from rfl, Int.mul_one]
        rw [e5]
        omega
      rw [h3, Int.add_mul_ediv_left _ _ (by omega), Int.ediv_eq_zero_of_lt (by omega) (by omega), Int.zero_add]
  · rw [decide_eq_false c]
    obtain ⟨N, hN⟩ : ∃ N, q.num.natAbs = N := ⟨_, rfl⟩
    have e : q.num = (N : Int) := by omega
    rw [hN, e, if_neg (fun x => absurd x.1 (by decide))]
    rfl
theorem Sz_floor {m : Nat} {q : Rat} (h : Sz m q) : Sz (m + 1) ((q.floor : Int) : Rat) := by
  have hp := pw_pos m
  refine ⟨?_, ?_⟩
  · rw [Rat.num_intCast, floor_parts, sg_abs, pw_succ]
    have := Nat.div_le_self q.num.natAbs q.den
    have := h.1
    split <;> omega
  · rw [Rat.den_intCast, pw_succ]; omega
theorem floor_j {q : Rat} {m : Nat} (h : Sz m q) (hm : m ≤ 400000) (b : Bool) (hb : b = (decide (q.num < 0) && decide (q.num.natAbs % q.den ≠ 0))) (x1 x2 : List Int) :
    Ev (fun k => rational_Floor.j0 k (lb (q.num.natAbs / q.den)) b (decide (q.num < 0)) x1 x2) (rep ((q.floor : Int) : Rat)) := by
  have l1 : (lb (q.num.natAbs / q.den)).length ≤ m := lb_len_le (Nat.lt_of_le_of_lt (Nat.div_le_self _ _) h.1)
  have hf := floor_parts q
  refine Ev_succ ?_
  simp only [rational_Floor.j0]
  by_cases c : decide (q.num < 0) = true ∧ q.num.natAbs % q.den ≠ 0
  · rw [if_pos c] at hf
    have hbt : b = true := by rw [hb, c.1, decide_eq_true c.2]; rfl
    have ha := Add_two (U_lb (q.num.natAbs / q.den)) (b := [1]) (U_cons (by decide) U_nil) (by omega) (by simp)
    rw [valn_lb, show valn [1] = 1 from rfl] at ha
    have l2 : (lb (q.num.natAbs / q.den + 1)).length ≤ m + 1 := lb_len_le (by
      have := Nat.div_le_self q.num.natAbs q.den
      have := h.1
      have := pw_pos m
      rw [pw_succ]; omega)
    have hc := canonical_f (neg := decide (q.num < 0)) (U_lb (q.num.natAbs / q.den + 1)) (d := [1]) (U_cons (by decide) U_nil) (by omega) (by simp)
    rw [rv_int, ← hf] at hc
    exact Ev_pos hbt (Ev.bind (Ev.now _) (Ev.bind ha (Ev.bind (Ev.now _) (Ev.bind hc (Ev.now _)))))
  · rw [if_neg c, Nat.add_zero] at hf
    have hbf : ¬ b = true := by
      rw [hb]; intro e
      rw [Bool.and_eq_true] at e
      exact c ⟨e.1, of_decide_eq_true e.2⟩
    have hc := canonical_f (neg := decide (q.num < 0)) (U_lb (q.num.natAbs / q.den)) (d := [1]) (U_cons (by decide) U_nil) (by omega) (by simp)
    rw [rv_int, ← hf] at hc
    exact Ev_neg hbf (Ev.bind (Ev.now _) (Ev.bind hc (Ev.now _)))
theorem Floor02_f {a : S67} {m : Nat} (ha : U a.f1 ∧ U a.f2 ∧ a.f1.length ≤ m ∧ a.f2.length ≤ m) (hm : 1 ≤ m) (hs : m ≤ 200000) :
    Ev (fun k => rational_Floor.f k a.f0 a.f1 a.f2) (rep (((v67 a).floor : Int) : Rat)) := by
  have hp : Sz m (v67 a) := Sz_rv ha.1 ha.2.1 ha.2.2.1 ha.2.2.2 hm
  have ht : Ev (fun k => rational_Trim.f k a.f0 a.f1 a.f2) (rep (v67 a)) := Trim02_f ha.1 ha.2.1 (by omega) (by omega)
  refine Ev.bind ht ?_
  generalize v67 a = q at *
  have lq := lb_sz hp
  have hd : valn (lb q.den) ≠ 0 := by rw [valn_lb]; exact q.den_nz
  have dm := DivMod_f (U_lb q.num.natAbs) (U_lb q.den) (by omega) (by omega) hd
  rw [valn_lb, valn_lb] at dm
  have lr : (lb (q.num.natAbs % q.den)).length ≤ m := lb_len_le (Nat.lt_trans (Nat.mod_lt _ q.den_pos) hp.2)
  have hb := Bits_f (U_lb (q.num.natAbs % q.den)) (by omega)
  rw [valn_lb] at hb
  refine Ev.bind (a := (lb (q.num.natAbs / q.den), lb (q.num.natAbs % q.den), 0)) dm ?_
  by_cases c : decide (q.num < 0) = true
  · refine Ev_pos c (Ev.bind hb (floor_j hp (by omega) _ ?_ _ _))
    rw [c, Bool.true_and]
    refine decide_eq_decide.mpr ⟨fun h e => ?_, fun h => ?_⟩
    · rw [e] at h; exact absurd h (by decide)
    · have : ((sz (q.num.natAbs % q.den) : Nat) : Int) ≠ 0 := fun e => h (sz_eq_zero.mp (Int.ofNat_eq_zero.mp e))
      omega
  · refine Ev_neg c (floor_j hp (by omega) _ ?_ _ _)
    rw [Bool.eq_false_iff.mpr c]; rfl
theorem rfloor_j {q : Rat} {m : Nat} (h : Sz m q) (hm : m ≤ 400000) (b : Bool) (hb : b = (decide (q.num < 0) && decide (q.num.natAbs % q.den ≠ 0))) (x1 x2 : List Int) :
    Ev (fun k => codewrightref02_Floor.j0 k (lb (q.num.natAbs / q.den)) b (decide (q.num < 0)) x1 x2) (rep ((q.floor : Int) : Rat)) := by
  have l1 : (lb (q.num.natAbs / q.den)).length ≤ m := lb_len_le (Nat.lt_of_le_of_lt (Nat.div_le_self _ _) h.1)
  have hf := floor_parts q
  refine Ev_succ ?_
  simp only [codewrightref02_Floor.j0]
  by_cases c : decide (q.num < 0) = true ∧ q.num.natAbs % q.den ≠ 0
  · rw [if_pos c] at hf
    have hbt : b = true := by rw [hb, c.1, decide_eq_true c.2]; rfl
    have ha := rAdd_f (U_lb (q.num.natAbs / q.den)) (b := [1]) (U_cons (by decide) U_nil) (by omega) (by simp)
    rw [valn_lb, show valn [1] = 1 from rfl] at ha
    have l2 : (lb (q.num.natAbs / q.den + 1)).length ≤ m + 1 := lb_len_le (by
      have := Nat.div_le_self q.num.natAbs q.den
      have := h.1
      have := pw_pos m
      rw [pw_succ]; omega)
    have hc := Make_f (neg := decide (q.num < 0)) (U_lb (q.num.natAbs / q.den + 1)) (d := [1]) (U_cons (by decide) U_nil) (by omega) (by simp)
    rw [rv_int, ← hf] at hc
    exact Ev_pos hbt (Ev.bind ha (Ev.bind hc (Ev.now _)))
  · rw [if_neg c, Nat.add_zero] at hf
    have hbf : ¬ b = true := by
      rw [hb]; intro e
      rw [Bool.and_eq_true] at e
      exact c ⟨e.1, of_decide_eq_true e.2⟩
    have hc := Make_f (neg := decide (q.num < 0)) (U_lb (q.num.natAbs / q.den)) (d := [1]) (U_cons (by decide) U_nil) (by omega) (by simp)
    rw [rv_int, ← hf] at hc
    exact Ev_neg hbf (Ev.bind hc (Ev.now _))
theorem rFloor02_f {a : S67} {m : Nat} (ha : U a.f1 ∧ U a.f2 ∧ a.f1.length ≤ m ∧ a.f2.length ≤ m) (hm : 1 ≤ m) (hs : m ≤ 200000) :
    Ev (fun k => codewrightref02_Floor.f k a.f0 a.f1 a.f2) (rep (((v67 a).floor : Int) : Rat)) := by
  have hp : Sz m (v67 a) := Sz_rv ha.1 ha.2.1 ha.2.2.1 ha.2.2.2 hm
  have ht : Ev (fun k => codewrightref02_Trim.f k a.f0 a.f1 a.f2) (rep (v67 a)) := rTrim02_f ha.1 ha.2.1 (by omega) (by omega)
  refine Ev.bind ht ?_
  generalize v67 a = q at *
  have lq := lb_sz hp
  have hd : valn (lb q.den) ≠ 0 := by rw [valn_lb]; exact q.den_nz
  have dm := rDivMod_f (U_lb q.num.natAbs) (U_lb q.den) (by omega) (by omega) hd
  rw [valn_lb, valn_lb] at dm
  refine Ev.bind (a := (lb (q.num.natAbs / q.den), lb (q.num.natAbs % q.den))) dm ?_
  by_cases c : decide (q.num < 0) = true
  · refine Ev_pos c (rfloor_j hp (by omega) _ ?_ _ _)
    rw [c, Bool.true_and]
    refine decide_eq_decide.mpr ⟨fun h e => ?_, fun h => ?_⟩
    · rw [e, lb_zero] at h; exact absurd h (Int.lt_irrefl 0)
    · have h' : (lb (q.num.natAbs % q.den)).length ≠ 0 := fun e => h (lb_len_zero.mp e)
      show ((lb (q.num.natAbs % q.den)).length : Int) > 0
      omega
  · refine Ev_neg c (rfloor_j hp (by omega) _ ?_ _ _)
    rw [Bool.eq_false_iff.mpr c]; rfl
def wholeq (q : Rat) : List Int × Bool := if q.num < 0 then ([], false) else if q.den = 1 then (lb q.num.natAbs, true) else ([], false)
theorem Whole02_f {a : S67} {m : Nat} (ha : U a.f1 ∧ U a.f2 ∧ a.f1.length ≤ m ∧ a.f2.length ≤ m) (hm : 1 ≤ m) (hs : m ≤ 200000) :
    Ev (fun k => rational_Whole.f k a.f0 a.f1 a.f2) (wholeq (v67 a)) := by
  have hp : Sz m (v67 a) := Sz_rv ha.1 ha.2.1 ha.2.2.1 ha.2.2.2 hm
  have ht : Ev (fun k => rational_Trim.f k a.f0 a.f1 a.f2) (rep (v67 a)) := Trim02_f ha.1 ha.2.1 (by omega) (by omega)
  refine Ev.bind ht ?_
  generalize v67 a = q at *
  have lq := lb_sz hp
  unfold wholeq
  by_cases c : q.num < 0
  · rw [if_pos c]; exact Ev_pos (decide_eq_true c) (Ev.now _)
  · rw [if_neg c]
    have hc := Cmp_f (U_lb q.den) (b := [1]) (U_cons (by decide) U_nil) (by omega) (by simp)
    rw [valn_lb, show valn [1] = 1 from rfl] at hc
    refine Ev_neg (fun e => c (of_decide_eq_true e)) (Ev.bind (Ev.now _) (Ev.bind hc ?_))
    by_cases d : q.den = 1
    · rw [if_pos d]; exact Ev_pos (cmpn_zero.mpr d) (Ev.now _)
    · rw [if_neg d]; exact Ev_neg (fun e => d (cmpn_zero.mp e)) (Ev.now _)
theorem rWhole02_f {a : S67} {m : Nat} (ha : U a.f1 ∧ U a.f2 ∧ a.f1.length ≤ m ∧ a.f2.length ≤ m) (hm : 1 ≤ m) (hs : m ≤ 200000) :
    Ev (fun k => codewrightref02_Whole.f k a.f0 a.f1 a.f2) (wholeq (v67 a)) := by
  have hp : Sz m (v67 a) := Sz_rv ha.1 ha.2.1 ha.2.2.1 ha.2.2.2 hm
  have ht : Ev (fun k => codewrightref02_Trim.f k a.f0 a.f1 a.f2) (rep (v67 a)) := rTrim02_f ha.1 ha.2.1 (by omega) (by omega)
  refine Ev.bind ht ?_
  generalize v67 a = q at *
  have lq := lb_sz hp
  unfold wholeq
  by_cases c : q.num < 0
  · rw [if_pos c]; exact Ev_pos (decide_eq_true c) (Ev.now _)
  · rw [if_neg c]
    have hc := Same_f (a := lb q.den) (b := [1]) (by omega)
    have e1 : lb q.den = [1] ↔ q.den = 1 := by rw [← lb_one]; exact ⟨fun h => lb_inj h, fun h => by rw [h]⟩
    refine Ev_neg (fun e => c (of_decide_eq_true e)) (Ev.bind hc ?_)
    by_cases d : q.den = 1
    · rw [if_pos d]; exact Ev_pos (decide_eq_true (e1.mpr d)) (Ev.now _)
    · rw [if_neg d]; exact Ev_neg (fun e => d (e1.mp (of_decide_eq_true e))) (Ev.now _)
theorem floor_whole {q : Rat} (h : q.den = 1) : ((q.floor : Int) : Rat) = q := by
  rw [Rat.floor_def, h, show ((1 : Nat) : Int) = 1 from rfl, Int.ediv_one, ← int_mk]
  have := Rat.mkRat_self q
  rw [h] at this; exact this
theorem floors_j {a : S67} (oa : U a.f1 ∧ U a.f2 ∧ a.f1.length ≤ 30 ∧ a.f2.length ≤ 30) :
    Ev (fun k => codewrightlaw02_RationalFloors.j0 k (wholeq (v67 a)).1 (wholeq (v67 a)).2 (wholeq (v67 a)).1 (wholeq (v67 a)).2 false a.f0 a.f1 a.f2) true := by
  have hp : Sz 30 (v67 a) := Sz_rv oa.1 oa.2.1 oa.2.2.1 oa.2.2.2 (by omega)
  have ht : Ev (fun k => rational_Trim.f k a.f0 a.f1 a.f2) (rep (v67 a)) := Trim02_f oa.1 oa.2.1 (by omega) (by omega)
  have hf := Floor02_f oa (by omega) (by omega)
  have hl : (wholeq (v67 a)).1.length ≤ 30 := by
    unfold wholeq; split
    · simp
    · split
      · exact (lb_sz hp).1
      · simp
  have hsame := Ev_as (same02_f (x := false) (y := false) (a := (wholeq (v67 a)).1) (b := []) (c := (wholeq (v67 a)).1) (d := []) (by omega) (by simp)) (decide_eq_true rfl)
  refine Ev_succ ?_
  simp only [codewrightlaw02_RationalFloors.j0]
  refine Ev_neg (by decide) (Ev_pos (beq_self_eq_true _) (Ev.bind hsame (Ev_pos rfl ?_)))
  by_cases c : (wholeq (v67 a)).2 = true
  · have hd : (v67 a).den = 1 := by
      revert c; unfold wholeq; split
      · intro h; cases h
      · split
        · intro _; assumption
        · intro h; cases h
    rw [floor_whole hd] at hf
    exact Ev_pos c (Ev.bind hf (Ev.bind ht (Ev.bind (same_self hp (by omega)) (Ev.now _))))
  · exact Ev_neg c (Ev.now _)
theorem floors_f {a : S67} (ua : U a.f1 ∧ U a.f2) (la : a.f1.length < 2305843009213693952 ∧ a.f2.length < 2305843009213693952) : Ev (fun k => codewrightlaw02_RationalFloors.f k a.f0 a.f1 a.f2) true := by
  have hg := long02_f 30 [(⟨a.f0, a.f1, a.f2⟩ : S67)] (by simp) (by intro x hx; simp only [List.mem_singleton] at hx; subst hx; exact la)
  simp only [List.any_cons, List.any_nil, Bool.or_false] at hg
  refine Ev.bind hg ?_
  by_cases c : 30 < a.f1.length + a.f2.length
  · exact Ev_pos (decide_eq_true c) (Ev.now _)
  · have oa : U a.f1 ∧ U a.f2 ∧ a.f1.length ≤ 30 ∧ a.f2.length ≤ 30 := ⟨ua.1, ua.2, by omega, by omega⟩
    have oa' : U a.f1 ∧ U a.f2 ∧ a.f1.length ≤ 40 ∧ a.f2.length ≤ 40 := ⟨ua.1, ua.2, by omega, by omega⟩
    refine Ev_neg (by rw [decide_eq_false c]; decide) ?_
    have hp : Sz 30 (v67 a) := Sz_rv oa.1 oa.2.1 oa.2.2.1 oa.2.2.2 (by omega)
    have f1 := Floor02_f oa (by omega) (by omega)
    have f2 := rFloor02_f oa (by omega) (by omega)
    have w1 := Whole02_f oa (by omega) (by omega)
    have w2 := rWhole02_f oa (by omega) (by omega)
    have i1 := rInt_f (x := 1) ⟨by decide, by decide⟩
    rw [divq_one] at i1
    have sf := Sz_floor hp
    have sf' : Sz 35 (((v67 a).floor : Int) : Rat) := Sz_mono sf (by omega)
    have hj := floors_j oa
    have fl := Rat.floor_le (v67 a)
    have fu := Rat.lt_floor_add_one (v67 a)
    rw [Rat.intCast_add, show ((1 : Int) : Rat) = 1 from rfl] at fu
    have c1 := Cmp02_f (a := ⟨(rep (((v67 a).floor : Int) : Rat)).1, (rep (((v67 a).floor : Int) : Rat)).2.1, (rep (((v67 a).floor : Int) : Rat)).2.2⟩) (b := a) (m := 40) (ok_rep (Sz_mono sf' (by omega))) oa' (by omega) (by omega)
    rw [v67_rep] at c1
    have ad := Add02_f (l := [(⟨(rep (((v67 a).floor : Int) : Rat)).1, (rep (((v67 a).floor : Int) : Rat)).2.1, (rep (((v67 a).floor : Int) : Rat)).2.2⟩ : S67), ⟨(rep 1).1, (rep 1).2.1, (rep 1).2.2⟩]) (m := 35) (Ok67_two (ok_rep sf') (ok_rep (Sz_mono Sz_one (by omega)))) (by omega) (by simp)
    rw [sumq, sumq, sumq, v67_rep, v67_rep, Rat.add_zero] at ad
    have s1 : Sz 40 (((v67 a).floor : Int) + 1 : Rat) := Sz_mono (Sz_add sf Sz_one (by omega)) (by omega)
    have c2 := Cmp02_f (a := ⟨(rep (((v67 a).floor : Int) + 1 : Rat)).1, (rep (((v67 a).floor : Int) + 1 : Rat)).2.1, (rep (((v67 a).floor : Int) + 1 : Rat)).2.2⟩) (b := a) (m := 40) (ok_rep s1) oa' (by omega) (by omega)
    rw [v67_rep] at c2
    have g1 : ¬ sgq ((((v67 a).floor : Int) : Rat) - v67 a) > 0 := by
      have : (((v67 a).floor : Int) : Rat) - v67 a ≤ 0 := by
        have h := Rat.sub_right_le_iff_le_add (a := (((v67 a).floor : Int) : Rat)) (b := 0) (c := v67 a)
        rw [Rat.zero_add] at h; exact h.mpr fl
      have := sgq_le this; omega
    have g2 : sgq ((((v67 a).floor : Int) + 1 : Rat) - v67 a) = 1 := sgq_pos ((Rat.lt_iff_sub_pos _ _).mp fu)
    rw [g2] at c2
    exact Ev.bind f1 (Ev.bind w1 (Ev.bind w2 (Ev.bind i1 (Ev.bind f2 (Ev.bind (same_self sf (by omega)) (Ev_pos rfl (Ev.bind c1 (Ev_neg g1 (Ev.bind ad (Ev.bind c2 hj))))))))))
end Go.Proofs.Ytecfdemglbfnoaa.Num
namespace Go.Proofs.Ytecfdemglbfnoaa.Pure
open Go.RowKit Go.Proofs.Ytecfdemglbfnoaa.PT Go.Proofs.Ytecfdemglbfnoaa.Num
theorem u32_U {l : List Int} (h : ∀ x ∈ l, IntKind.u32.min ≤ x ∧ x ≤ IntKind.u32.max) : U l := by
  intro x hx
  have h1 := h x hx
  have e1 : IntKind.u32.min = 0 := rfl
  have e2 : IntKind.u32.max = 4294967295 := rfl
  omega
theorem RationalFloors (b : Bool) (l0 l1 : List Int) (h : True ∧ (l0.length * 4 ≤ reachBytes ∧ ∀ x ∈ l0, IntKind.u32.min ≤ x ∧ x ≤ IntKind.u32.max) ∧ (l1.length * 4 ≤ reachBytes ∧ ∀ x ∈ l1, IntKind.u32.min ≤ x ∧ x ≤ IntKind.u32.max)) : ∃ k, codewrightlaw02_RationalFloors.f k b l0 l1 = some true := by
  have hR : reachBytes = 140737488351232 := rfl
  obtain ⟨_, h0, h1⟩ := h
  exact (floors_f (a := ⟨b, l0, l1⟩) ⟨u32_U h0.2, u32_U h1.2⟩ ⟨show l0.length < _ by have := h0.1; omega, show l1.length < _ by have := h1.1; omega⟩).rounds
end Go.Proofs.Ytecfdemglbfnoaa.Pure
end
section
namespace Go.Proofs.Ytecfdemglbfnoaa.Open
open Go.ChangeShapes Go.WideShapes Go.Deep Go.Proofs.YtecfdemglbfnoaaW.PrintWords
section
variable {H : Type} (enc : TypeId × Value → H) (P : Program) (W : World)
def Op {α : Type} (d : Kd α) (Q : α → Prop) (t : TypeId) : Prop :=
  ∀ (fuel : Nat) (cs : List Value) (x : DataW H × List MemPlace), DataW.trod enc P W 0 (fun _ => true) true fuel t cs = some x → (∀ n ∈ x.1.weights P t, n ≤ reachBytes) → ∃ y, d.K W y cs ∧ Q y
end
section
variable {H : Type} {enc : TypeId × Value → H} {P : Program} {W : World}
theorem op_int {t : TypeId} {k : IntKind} (ht : P.underlying t = some (.int k)) : Op enc P W (Kd.int k) (fun n => k.min ≤ n ∧ n ≤ k.max) t := by
  intro fuel cs x h _
  obtain ⟨n, rfl, _, hw⟩ := DataW.trod_int ht h
  exact ⟨n, rfl, by simpa [Lit.wf] using hw⟩
theorem op_bool {t : TypeId} (ht : P.underlying t = some .bool) : Op enc P W Kd.bool (fun _ => True) t := by
  intro fuel cs x h _
  obtain ⟨n, rfl, _⟩ := DataW.trod_bool ht h
  exact ⟨n, rfl, trivial⟩
theorem mem_weightsAll {e : TypeId} {D : DataW H} : ∀ {l : List (DataW H)}, D ∈ l → ∀ n ∈ D.weights P e, n ∈ DataW.weightsAll P e l
  | d :: r, h, n, hn => by
    simp only [DataW.weightsAll, List.mem_append]
    rcases List.mem_cons.1 h with rfl | h
    · exact .inl hn
    · exact .inr (mem_weightsAll h n hn)
theorem op_slice {α : Type} {d : Kd α} {Q : α → Prop} {t e B : Nat} (ht : P.underlying t = some (.slice e)) (he : Op enc P W d Q e) (hc : P.cellsOf e = d.sz) (hB : P.bytesOf e = B) :
    Op enc P W (Kd.slice e d) (fun l => l.length * B ≤ reachBytes ∧ ∀ x ∈ l, Q x) t := by
  intro fuel cs x h hw
  rcases open_slice ht h with ⟨rfl, _⟩ | ⟨a, len, cap, m, n, D, Pl, rfl, _, hl, hm, hmm, rfl, hi⟩
  · exact ⟨[], ⟨none, 0, rfl, Nat.le_refl _, Kd.C_nil d W⟩, by simp, by simp⟩
  · simp only [if_true] at hmm
    subst hmm
    have hwl : ((DataW.slice ((List.range len).map D) ((List.range (m - len)).map fun j => D (len + j))).weights P t) = ((List.range len).map D).length.add ((List.range (m - len)).map fun j => D (len + j)).length * P.bytesOf e :: (DataW.weightsAll P e ((List.range len).map D) ++ DataW.weightsAll P e ((List.range (m - len)).map fun j => D (len + j))) := by
      simp only [DataW.weights, ht]; rfl
    rw [hwl] at hw
    have each : ∀ i, i < len → ∃ y : α, (∃ cs', W.cells? 0 (a.add (i * P.cellsOf e)) (P.cellsOf e) = some cs' ∧ d.K W y cs') ∧ Q y := by
      intro i hlt
      obtain ⟨cs', h1, h2⟩ := hi i (by omega)
      obtain ⟨y, hK, hq⟩ := he _ _ _ h2 (fun n hn => hw n (List.mem_cons_of_mem _ (List.mem_append.2 (.inl (mem_weightsAll (List.mem_map.2 ⟨i, List.mem_range.2 hlt, rfl⟩) n hn)))))
      exact ⟨y, ⟨cs', h1, hK⟩, hq⟩
    have hf : ∃ f : Nat → Option α, ∀ i, i < len → ∃ y, f i = some y ∧ (∃ cs', W.cells? 0 (a.add (i * P.cellsOf e)) (P.cellsOf e) = some cs' ∧ d.K W y cs') ∧ Q y := by
      refine ⟨fun i => if h : i < len then some (Classical.choose (each i h)) else none, fun i hlt => ⟨_, dif_pos hlt, Classical.choose_spec (each i hlt)⟩⟩
    obtain ⟨f, hf⟩ := hf
    have hl1 : ((List.range len).filterMap f).length = len ∧ ∀ i, i < len → ((List.range len).filterMap f)[i]? = f i := by
      clear hw hwl each hi h hl hm
      induction len with
      | zero => simp
      | succ k ih =>
        obtain ⟨h1, h2⟩ := ih (fun i hi => hf i (by omega))
        obtain ⟨y, hy, _⟩ := hf k (by omega)
        rw [List.range_succ, List.filterMap_append]
        have e : List.filterMap f [k] = [y] := by simp [List.filterMap, hy]
        rw [e]
        refine ⟨by simp [h1], fun i hi => ?_⟩
        by_cases hk : i < k
        · rw [List.getElem?_append_left (by omega), h2 i hk]
        · obtain rfl : i = k := by omega
          rw [List.getElem?_append_right (by omega), h1]; simp [hy]
    refine ⟨(List.range len).filterMap f, ⟨some a, m, by rw [hl1.1], by rw [hl1.1]; exact hl, rfl, ?_, fun hp => ⟨a, rfl, fun j p hj => ?_⟩⟩, ?_, fun y hy => ?_⟩
    · rw [hl1.1]; unfold maxLen at hm; omega
    · have hjl : j < len := by have := (List.getElem?_eq_some_iff.1 hj).1; rw [hl1.1] at this; exact this
      obtain ⟨y, hy, ⟨cs', hc1, hK⟩, _⟩ := hf j hjl
      rw [hl1.2 j hjl, hy] at hj
      obtain rfl := Option.some.inj hj
      obtain ⟨_, hcl, hat⟩ := World.cells?_some hc1
      refine ⟨cs', d.K_len hK, hK, fun i u hu => ?_⟩
      have hil : i < P.cellsOf e := by have := (List.getElem?_eq_some_iff.1 hu).1; omega
      rw [← hc, ← Go.Deep.add_add]
      rw [hat i hil, hu]
    · have := hw _ (List.mem_cons_self ..)
      rw [hl1.1]
      have h3 : ((List.range len).map D).length.add ((List.range (m - len)).map fun j => D (len + j)).length = m := by simp; omega
      rw [h3, hB] at this
      exact Nat.le_trans (Nat.mul_le_mul_right _ hl) this
    · obtain ⟨i, hi1, hi2⟩ := List.mem_filterMap.1 hy
      obtain ⟨y', hy', _, hq⟩ := hf i (List.mem_range.1 hi1)
      rw [hy'] at hi2
      obtain rfl := Option.some.inj hi2
      exact hq
theorem take_split {cs : List Value} {a b : Nat} (h : cs.length = a + b) : cs = (cs.drop 0).take a ++ (cs.drop a).take b := by
  rw [List.drop_zero, List.take_of_length_le (l := cs.drop a) (by rw [List.length_drop]; omega), List.take_append_drop]
theorem op_triple {α β γ : Type} {a : Kd α} {b : Kd β} {c : Kd γ} {Qa : α → Prop} {Qb : β → Prop} {Qc : γ → Prop} {t : TypeId} {f0 f1 f2 : Field} (ht : P.underlying t = some (.struct #[f0, f1, f2])) (h0 : Op enc P W a Qa f0.type) (h1 : Op enc P W b Qb f1.type) (h2 : Op enc P W c Qc f2.type)
    (o0 : f0.offset = 0) (s0 : P.cellsOf f0.type = a.sz) (o1 : f1.offset = a.sz) (s1 : P.cellsOf f1.type = b.sz) (o2 : f2.offset = a.sz + b.sz) (s2 : P.cellsOf f2.type = c.sz) (st : P.cellsOf t = a.sz + (b.sz + c.sz)) :
    Op enc P W (Kd.pair a (Kd.pair b c)) (fun y => Qa y.1 ∧ Qb y.2.1 ∧ Qc y.2.2) t := by
  intro fuel cs x hx hw
  obtain ⟨xs, n, _, rfl, hcl, hlen, hf⟩ := DataW.trod_struct ht hx
  have hwl : ((DataW.agg (xs.map (·.1)) : DataW H).weights P t) = DataW.weightsEach P [f0.type, f1.type, f2.type] (xs.map (·.1)) := by
    simp only [DataW.weights, ht]; rfl
  rw [hwl] at hw
  obtain ⟨y0, y1, y2, rfl⟩ : ∃ y0 y1 y2, xs = [y0, y1, y2] := by
    match xs, hlen with
    | [y0, y1, y2], _ => exact ⟨y0, y1, y2, rfl⟩
  · have e0 := hf 0 f0 rfl
    have e1 := hf 1 f1 rfl
    have e2 := hf 2 f2 rfl
    rw [o0, s0] at e0
    rw [o1, s1] at e1
    rw [o2, s2] at e2
    simp only [List.map_cons, List.map_nil, DataW.weightsEach, List.mem_append] at hw
    obtain ⟨z0, k0, q0⟩ := h0 _ _ _ e0 (fun n hn => hw n (.inl hn))
    obtain ⟨z1, k1, q1⟩ := h1 _ _ _ e1 (fun n hn => hw n (.inr (.inl hn)))
    obtain ⟨z2, k2, q2⟩ := h2 _ _ _ e2 (fun n hn => hw n (.inr (.inr (.inl hn))))
    refine ⟨(z0, z1, z2), ⟨_, _, take_split (a := a.sz) (b := b.sz + c.sz) (by rw [hcl, st]), k0, _, _, ?_, k1, k2⟩, q0, q1, q2⟩
    rw [List.take_of_length_le (l := cs.drop a.sz) (by rw [List.length_drop, hcl, st]; omega)]
    have h4 := take_split (cs := cs.drop a.sz) (a := b.sz) (b := c.sz) (by rw [List.length_drop, hcl, st]; omega)
    rw [List.drop_zero, List.drop_drop] at h4
    exact h4
end
end Go.Proofs.Ytecfdemglbfnoaa.Open
end
