/- Walks and plain facts for the law RationalExponents, several texts in one: each theorem says what it shows; no condition beyond those that it names. -/
import Derived.Test.YtecfdemglbfnoaaMRationalExponentsJ
section
namespace Go.Proofs.Ytecfdemglbfnoaa.PT
open Go.RowKit Go.Proofs.YtecfdemglbfnoaaW.PrintWords Go.Proofs.YtecfdemglbfnoaaW.PrintLast Go.Proofs.YtecfdemglbfnoaaW.PrintMore
attribute [local go_sem] max2_int min2_int max_two min_two max_three min_three max_four min_four   -- for this text's walks alone
set_option linter.unusedVariables false
set_option linter.unusedSimpArgs false
mutual
def nat_Pow.j0 : Nat → List Int → Int → Int → Bool → Option (List Int × Int)
 | 0, _, _, _, _ => none
 | k + 1, x0, x1, x6, x13 => if x13 = true then (some ((([1] : List Int)), 0)) else (if x6 = 0 then (some (([] : List Int), 0)) else (if x1 > 131072 then (some (([] : List Int), 8)) else (if (wrap64 ((wrap64 (x6 - 1)) * x1)) ≥ 131072 then (some (([] : List Int), 8)) else ((nat_short.f k x0).bind fun t1471 => (nat_Pow.l0 k x1 (([1] : List Int)) t1471)))))
def nat_Pow.l0 : Nat → Int → List Int → List Int → Option (List Int × Int)
 | 0, _, _, _ => none
 | k + 1, x1, x7, x8 => if (Go.bits .and .i64 x1 1) = 1 then ((nat_times.f k x7 x8).bind fun t1474 => (if (x1 / 2) = 0 then (if (t1474.length : Int) > 4096 then (some (([] : List Int), 8)) else ((nat_Trim.f k t1474).bind fun t1477 => (some (t1477, 0)))) else ((nat_times.f k x8 x8).bind fun t1480 => (nat_Pow.l0 k (x1 / 2) t1474 t1480)))) else (if (x1 / 2) = 0 then (if (x7.length : Int) > 4096 then (some (([] : List Int), 8)) else ((nat_Trim.f k x7).bind fun t1483 => (some (t1483, 0)))) else ((nat_times.f k x8 x8).bind fun t1486 => (nat_Pow.l0 k (x1 / 2) x7 t1486)))
end
def nat_Pow.f (k : Nat) (l0 : List Int) (a1 : Int) : Option (List Int × Int) := if a1 < 0 then (some (([] : List Int), 6)) else ((nat_Bits.f k l0).bind fun t1464 => (if a1 = 0 then (nat_Pow.j0 k l0 a1 t1464 true) else (nat_Pow.j0 k l0 a1 t1464 (t1464 == 1))))
set_option maxHeartbeats 8000000 in
set_option maxRecDepth 100000 in
theorem nat_Pow.calls (k : Nat) (A0 : Option Addr) (c0 : Nat) (l0 : List Int) (a1 : Int) (r1 : List Int) (r2 : Int) (w : World) (hr0 : Kd.C (Kd.int .u32) w A0 l0.length l0) (hc0 : l0.length ≤ c0) (h : nat_Pow.f k l0 a1 = some (r1, r2)) :
 Calls Try.prog 162 #[.slice A0 l0.length c0, .int .i64 a1] w fun e w' => ∃ v0_ : Value, e = .returned (.tuple #[v0_, .int .i64 r2]) ∧ Kd.R (Kd.int .u32) 48 w' w.heap.size (fun _ => True) v0_ r1 ∧ Below w.heap.size w w' := by
 have HR0 := Aside0.mk hr0
 have HC0 := Aside0.mk hc0
 clear hr0 hc0
 have HB := Aside0.mk (Below.refl w.heap.size w)
 have H : (if a1 < 0 then (some (([] : List Int), 6)) else ((nat_Bits.f k l0).bind fun t1464 => (if a1 = 0 then (nat_Pow.j0 k l0 a1 t1464 true) else (nat_Pow.j0 k l0 a1 t1464 (t1464 == 1))))) = some (r1, r2) := h
 clear h
 by_cases c3 : a1 < 0
 ·
  rw [if_pos c3] at H
  have c3b0 : decide (a1 < 0) = true := decide_eq_true c3
  clear c3
  simp only [Option.some.injEq, Prod.mk.injEq] at H
  obtain ⟨rfl, rfl⟩ := H
  go_enter Try.func162, Try.ntmps162
  go_wp2
  go_ret2
  exact ⟨_, by first | rfl | (simp [errW_none, errW_some] <;> rfl) | (simp [*, errW_none, errW_some] <;> rfl), by first | exact Kd.R_nil _ _ _ _ _ | exact Kd.N_nil _ _ _ _ _ | exact Kd.V_nil _ _ _ _ _ | exact Kd.Q_nil _ _ _ _ _ | exact Kd.S_nil _ _ _ _ _, by repeat (first | (with_reducible first | exact HB.out | apply below_alloc | apply pw_below_drewN | apply below_drew1) | exact HB.out)⟩
 ·
  rw [if_neg c3] at H
  have c3b0 : decide (a1 < 0) = false := decide_eq_false c3
  clear c3
  replace H := Option.bind_eq_some_iff.mp H
  obtain ⟨t1464, A40, H⟩ := H
  replace H : (if a1 = 0 then (nat_Pow.j0 k l0 a1 t1464 true) else (nat_Pow.j0 k l0 a1 t1464 (t1464 == 1))) = some (r1, r2) := H
  have A4 := Aside0.mk A40
  clear A40
  have HC5 := Aside0.mk H
  clear H
  go_enter Try.func162, Try.ntmps162
  go_upto_region 4 with (first | ((with_reducible refine gate_callee (f := 154) rfl ?_); refine goesL_ (some 12) rfl rfl Try.func154 (by kernel_rfl) rfl #[.slice A0 l0.length c0] rfl lu ?_; (with_reducible refine (nat_Bits.calls k _ _ l0 t1464 _ ?side1 ?side2 A4.out).mono ?_); (case side1 => repeat (first | exact HR0.out | (with_reducible refine Kd.C_alloc ?_ _) | (with_reducible refine Kd.C_drewN ?_ _) | (with_reducible refine Kd.C_drew ?_))); (case side2 => exact HC0.out); rintro e w6 ⟨rfl, hb⟩; refine ⟨_, rfl, ?_⟩; replace HB := Aside0.mk (below_step (bu HB.out) hb); (try clear hb); (try clear hb2); (try clear hk); (try clear hi)))
  (try simp only [Act.put, List.setIfInBounds_toArray, List.set_cons_zero, List.set_cons_succ])
  go_cut [13] (fun v13 wc => ∃ (kq : Nat) (x13_4 : Bool), v13 = .bool x13_4 ∧ Aside0 (nat_Pow.j0 kq l0 a1 t1464 x13_4 = some (r1, r2)) ∧ Aside0 (kq ≤ k) ∧ Aside0 (Below w.heap.size w wc))
  case first =>
   have H := HC5.out
   clear HC5
   by_cases c7 : a1 = 0
   ·
    rw [if_pos c7] at H
    have c7b0 : (a1 == 0) = true := beq_iff_eq.mpr c7
    have c7b1 : (a1 != 0) = false := bne_eq_false_iff_eq.mpr c7
    clear c7
    (first | rw [c7b0] | rw [c7b1] | (simp only [i64_w, i32_w]; rw [c7b0]) | skip)
    have H' := Aside0.mk H
    clear H
    go_wp2
    go_meet
    case rel => exact ⟨_, (true), (by first | rfl | (simp; done) | (simp [*]; done)), H', ⟨by first | omega | exact Nat.le_refl _⟩, ⟨by repeat (first | (with_reducible first | exact HB.out | apply below_alloc | apply pw_below_drewN | apply below_drew1) | exact HB.out)⟩⟩
   ·
    rw [if_neg c7] at H
    have c7b0 : (a1 == 0) = false := beq_eq_false_iff_ne.mpr c7
    have c7b1 : (a1 != 0) = true := bne_iff_ne.mpr c7
    (first | rw [c7b0] | rw [c7b1] | (simp only [i64_w, i32_w]; rw [c7b0]) | skip)
    have H' := Aside0.mk H
    clear H
    go_wp2
    go_meet
    case rel => exact ⟨_, ((t1464 == 1)), (by first | rfl | (simp; done) | (simp [*]; done) | (cases t1464 <;> first | rfl | (simp; done))), H', ⟨by first | omega | exact Nat.le_refl _⟩, ⟨by repeat (first | (with_reducible first | exact HB.out | apply below_alloc | apply pw_below_drewN | apply below_drew1) | exact HB.out)⟩⟩
  case rest =>
   clear HC5
   try clear c1
   try clear p2
   try clear c3
   try clear c3b0
   try clear c7
   try clear c7b0
   try clear c7b1
   obtain ⟨kq, x13_4, rfl, HA, HJ4, HB⟩ := hcut
   cases kq with
   | zero => exact absurd HA.out (by simp [nat_Pow.j0])
   | succ kj4 =>
    have H := HA.out
    clear HA
    simp only [nat_Pow.j0] at H
    by_cases c8 : x13_4 = true
    ·
     subst c8
     have H1 : (some ((([1] : List Int)), 0)) = some (r1, r2) := by rw [if_pos rfl] at H; exact H
     clear H
     have H := H1
     clear H1
     obtain ⟨y1465, hy1465⟩ : ∃ y_ : List Int, y_ = (([1] : List Int)) := ⟨_, rfl⟩
     replace H : (some (y1465, 0)) = some (r1, r2) := by first | (rw [hy1465]; with_reducible exact H) | (have H2_ := (Option.bind_some _ _).symm.trans H; rw [hy1465]; with_reducible exact H2_) | (have H2_ := (Option.bind_some _ _).symm.trans H; with_reducible exact H2_) | with_reducible exact H | (rw [hy1465]; exact H) | exact H
     have Ny1465 := Aside0.mk hy1465
     clear hy1465
     simp only [Option.some.injEq, Prod.mk.injEq] at H
     obtain ⟨rfl, rfl⟩ := H
     go_wp2_with (first | ((with_reducible refine gate_dst (N := 20) rfl ?_); refine Kd.R_lit (Kd.int .u32) _ 48 ?hg (N := 20) ?hd (xs := ([1] : List Int)) (inner := [.int .u32 1]) (ok := fun _ => True) (okp := fun _ => True) ?hr ?hp (fun _ hk => hk) trivial (Below.refl _ _) (Nat.le_refl _) (by simp) ?_; (case hd => rfl); (case hg => rfl); (case hr => first | (go_simp; done) | (go_simp; rfl)); (case hp => exact (Reps.one (show Kd.M (Kd.int .u32) _ _ _ 1 [.int .u32 1] from rfl) (Reps.none _ _))); intro v1466 w9 ho10 hb hg_ hnew_; clear hg_ hnew_; (first | rw [← Ny1465.out] at ho10 | (simp only [Int.reduceToNat] at ho10; rw [← Ny1465.out] at ho10)); have HO1467 := Aside0.mk (Kd.R_lower ho10 (below_size (bu HB.out))); replace HB := Aside0.mk (below_step (bu HB.out) hb); clear hb ho10))
     go_ret2
     exact ⟨_, by first | rfl | (simp [errW_none, errW_some] <;> rfl) | (simp [*, errW_none, errW_some] <;> rfl), by (with_reducible repeat (first | apply Kd.R_alloc | apply Kd.R_drewN | apply Kd.R_drew)); exact HO1467.out, by repeat (first | (with_reducible first | exact HB.out | apply below_alloc | apply pw_below_drewN | apply below_drew1) | exact HB.out)⟩
    ·
     replace c8 := Bool.eq_false_iff.mpr c8
     subst c8
     have H1 : (if t1464 = 0 then (some (([] : List Int), 0)) else (if a1 > 131072 then (some (([] : List Int), 8)) else (if (wrap64 ((wrap64 (t1464 - 1)) * a1)) ≥ 131072 then (some (([] : List Int), 8)) else ((nat_short.f kj4 l0).bind fun t1471 => (nat_Pow.l0 kj4 a1 (([1] : List Int)) t1471))))) = some (r1, r2) := by rw [if_neg (show ¬ (false = true) by decide)] at H; exact H
     clear H
     have H := H1
     clear H1
     by_cases c11 : t1464 = 0
     ·
      rw [if_pos c11] at H
      have c11b0 : (t1464 == 0) = true := beq_iff_eq.mpr c11
      have c11b1 : (t1464 != 0) = false := bne_eq_false_iff_eq.mpr c11
      clear c11
      simp only [Option.some.injEq, Prod.mk.injEq] at H
      obtain ⟨rfl, rfl⟩ := H
      go_wp2
      go_ret2
      exact ⟨_, by first | rfl | (simp [errW_none, errW_some] <;> rfl) | (simp [*, errW_none, errW_some] <;> rfl), by first | exact Kd.R_nil _ _ _ _ _ | exact Kd.N_nil _ _ _ _ _ | exact Kd.V_nil _ _ _ _ _ | exact Kd.Q_nil _ _ _ _ _ | exact Kd.S_nil _ _ _ _ _, by repeat (first | (with_reducible first | exact HB.out | apply below_alloc | apply pw_below_drewN | apply below_drew1) | exact HB.out)⟩
     ·
      rw [if_neg c11] at H
      have c11b0 : (t1464 == 0) = false := beq_eq_false_iff_ne.mpr c11
      have c11b1 : (t1464 != 0) = true := bne_iff_ne.mpr c11
      by_cases c12 : a1 > 131072
      ·
       rw [if_pos c12] at H
       have c12b0 : decide (131072 < a1) = true := decide_eq_true c12
       clear c12
       simp only [Option.some.injEq, Prod.mk.injEq] at H
       obtain ⟨rfl, rfl⟩ := H
       go_wp2
       go_ret2
       exact ⟨_, by first | rfl | (simp [errW_none, errW_some] <;> rfl) | (simp [*, errW_none, errW_some] <;> rfl), by first | exact Kd.R_nil _ _ _ _ _ | exact Kd.N_nil _ _ _ _ _ | exact Kd.V_nil _ _ _ _ _ | exact Kd.Q_nil _ _ _ _ _ | exact Kd.S_nil _ _ _ _ _, by repeat (first | (with_reducible first | exact HB.out | apply below_alloc | apply pw_below_drewN | apply below_drew1) | exact HB.out)⟩
      ·
       rw [if_neg c12] at H
       have c12b0 : decide (131072 < a1) = false := decide_eq_false c12
       clear c12
       by_cases c13 : (wrap64 ((wrap64 (t1464 - 1)) * a1)) ≥ 131072
       ·
        rw [if_pos c13] at H
        have c13b0 : decide (131072 ≤ (wrap64 ((wrap64 (t1464 - 1)) * a1))) = true := decide_eq_true c13
        clear c13
        simp only [Option.some.injEq, Prod.mk.injEq] at H
        obtain ⟨rfl, rfl⟩ := H
        go_wp2
        go_ret2
        exact ⟨_, by first | rfl | (simp [errW_none, errW_some] <;> rfl) | (simp [*, errW_none, errW_some] <;> rfl), by first | exact Kd.R_nil _ _ _ _ _ | exact Kd.N_nil _ _ _ _ _ | exact Kd.V_nil _ _ _ _ _ | exact Kd.Q_nil _ _ _ _ _ | exact Kd.S_nil _ _ _ _ _, by repeat (first | (with_reducible first | exact HB.out | apply below_alloc | apply pw_below_drewN | apply below_drew1) | exact HB.out)⟩
       ·
        rw [if_neg c13] at H
        have c13b0 : decide (131072 ≤ (wrap64 ((wrap64 (t1464 - 1)) * a1))) = false := decide_eq_false c13
        clear c13
        obtain ⟨y1468, hy1468⟩ : ∃ y_ : List Int, y_ = (([1] : List Int)) := ⟨_, rfl⟩
        replace H : ((nat_short.f kj4 l0).bind fun t1471 => (nat_Pow.l0 kj4 a1 y1468 t1471)) = some (r1, r2) := by first | (rw [hy1468]; with_reducible exact H) | (have H2_ := (Option.bind_some _ _).symm.trans H; rw [hy1468]; with_reducible exact H2_) | (have H2_ := (Option.bind_some _ _).symm.trans H; with_reducible exact H2_) | with_reducible exact H | (rw [hy1468]; exact H) | exact H
        have Ny1468 := Aside0.mk hy1468
        clear hy1468
        replace H := Option.bind_eq_some_iff.mp H
        obtain ⟨t1471, A140, H⟩ := H
        replace H : (nat_Pow.l0 kj4 a1 y1468 t1471) = some (r1, r2) := H
        have A14 := Aside0.mk A140
        clear A140
        have H' := Aside0.mk H
        clear H
        go_wp2_with (first | ((with_reducible refine gate_dst (N := 34) rfl ?_); refine Kd.R_lit (Kd.int .u32) _ 48 ?hg (N := 34) ?hd (xs := ([1] : List Int)) (inner := [.int .u32 1]) (ok := fun _ => True) (okp := fun _ => True) ?hr ?hp (fun _ hk => hk) trivial (Below.refl _ _) (Nat.le_refl _) (by simp) ?_; (case hd => rfl); (case hg => rfl); (case hr => first | (go_simp; done) | (go_simp; rfl)); (case hp => exact (Reps.one (show Kd.M (Kd.int .u32) _ _ _ 1 [.int .u32 1] from rfl) (Reps.none _ _))); intro v1469 w15 ho16 hb hg_ hnew_; clear hg_ hnew_; (first | rw [← Ny1468.out] at ho16 | (simp only [Int.reduceToNat] at ho16; rw [← Ny1468.out] at ho16)); have HO1470 := Aside0.mk (Kd.R_lower ho16 (below_size (bu HB.out))); replace HB := Aside0.mk (below_step (bu HB.out) hb); clear hb ho16) | ((with_reducible refine gate_callee (f := 179) rfl ?_); refine goesL_ (some 36) rfl rfl Try.func179 (by kernel_rfl) rfl #[.slice A0 l0.length c0] rfl lu ?_; (with_reducible refine (nat_short.calls kj4 (fun k_ => k_ < w.heap.size) _ _ l0 t1471 _ ?side1 A14.out).mono ?_); (case side1 => exact Kd.V_mk HC0.out (Kd.F_below (Kd.C_F (Kd.heap_int .u32) HR0.out) (bu HB.out))); rintro e w17 ⟨v1472, rfl, ho0, hb⟩; refine ⟨_, rfl, ?_⟩; have HO1473 := Aside0.mk (Kd.V_lower (Kd.V_mono (ok' := fun k_ => some k_ ≠ (v1469 : Value).ownBlock) ho0 (fun k_ hk_ => Or.elim hk_ (fun hs_ => fun e_ => Nat.not_le.2 hs_ (Kd.R_base HO1470.out k_ e_.symm)) (fun hn_ => (Kd.fresh' (Kd.R_lt (by (with_reducible repeat (first | apply Kd.R_alloc | apply Kd.R_drewN | apply Kd.R_drew)); exact HO1470.out)) k_ hn_)))) (below_size (bu HB.out))); replace HO1470 := Aside0.mk (Kd.R_below (by (with_reducible repeat (first | apply Kd.R_alloc | apply Kd.R_drewN | apply Kd.R_drew)); exact HO1470.out) hb); replace HB := Aside0.mk (below_step (bu HB.out) hb); (try clear hb); (try clear hb2); (try clear hk); (try clear hi); (try clear ho0)))
        go_loopg [1, 7, 8] kj4 (fun kq v1 v7 v8 w' => ∃ (x1_2 : Int) (x7_2 : List Int) (x8_2 : List Int), v1 = .int .i64 x1_2 ∧ Aside0 (nat_Pow.l0 kq x1_2 x7_2 x8_2 = some (r1, r2)) ∧ Aside0 (kq ≤ kj4) ∧ Aside0 (Kd.V (Kd.int .u32) 48 w' w.heap.size (fun _ => True) v7 x7_2) ∧ Aside0 (Kd.V (Kd.int .u32) 48 w' w.heap.size (fun _ => True) v8 x8_2) ∧ Aside0 (Below w.heap.size w w'))
        case atStart => exact ⟨(a1), (y1468), (t1471), (by first | rfl | (simp; done) | (simp [*]; done)), H', ⟨Nat.le_refl _⟩, ⟨Kd.R_V (by (with_reducible repeat (first | apply Kd.R_alloc | apply Kd.R_drewN | apply Kd.R_drew)); exact HO1470.out)⟩, ⟨by (with_reducible repeat (first | apply Kd.V_alloc | apply Kd.V_drewN | apply Kd.V_drew)); exact Kd.V_mono HO1473.out (fun _ hk => trivial)⟩, ⟨by repeat (first | (with_reducible first | exact HB.out | apply below_alloc | apply pw_below_drewN | apply below_drew1) | exact HB.out)⟩⟩
        case round =>
         clear H'
         try clear c1
         try clear p2
         try clear c3
         try clear c3b0
         try clear p6
         try clear c7
         try clear c7b0
         try clear c7b1
         try clear c8
         try clear c11
         try clear c11b0
         try clear c11b1
         try clear c12
         try clear c12b0
         try clear c13
         try clear c13b0
         try clear c15
         try clear c16
         try clear c17
         try clear p2
         obtain ⟨x1_2, x7_2, x8_2, rfl, HA, HK2, HO_7, HO_8, HB⟩ := hrel
         cases gk with
         | zero => exact absurd HA.out (by simp [nat_Pow.l0])
         | succ k2 =>
          have H := HA.out
          clear HA
          simp only [nat_Pow.l0] at H
          by_cases c18 : (Go.bits .and .i64 x1_2 1) = 1
          ·
           rw [if_pos c18] at H
           have c18b0 : ((Go.bits .and .i64 x1_2 1) == 1) = true := beq_iff_eq.mpr c18
           have c18b1 : ((Go.bits .and .i64 x1_2 1) != 1) = false := bne_eq_false_iff_eq.mpr c18
           clear c18
           replace H := Option.bind_eq_some_iff.mp H
           obtain ⟨t1474, A190, H⟩ := H
           replace H : (if (x1_2 / 2) = 0 then (if (t1474.length : Int) > 4096 then (some (([] : List Int), 8)) else ((nat_Trim.f k2 t1474).bind fun t1477 => (some (t1477, 0)))) else ((nat_times.f k2 x8_2 x8_2).bind fun t1480 => (nat_Pow.l0 k2 (x1_2 / 2) t1474 t1480))) = some (r1, r2) := H
           have A19 := Aside0.mk A190
           clear A190
           by_cases c20 : (x1_2 / 2) = 0
           ·
            rw [if_pos c20] at H
            have c20b0 : ((x1_2 / 2) == 0) = true := beq_iff_eq.mpr c20
            have c20b1 : ((x1_2 / 2) != 0) = false := bne_eq_false_iff_eq.mpr c20
            clear c20
            by_cases c21 : (t1474.length : Int) > 4096
            ·
             rw [if_pos c21] at H
             have c21b0 : decide (4096 < (t1474.length : Int)) = true := decide_eq_true c21
             have c21b1 : decide (4096 < t1474.length) = true := decide_eq_true (by omega)
             clear c21
             simp only [Option.some.injEq, Prod.mk.injEq] at H
             obtain ⟨rfl, rfl⟩ := H
             obtain ⟨Ao22, co22, eo22⟩ := Kd.V_slice HO_7.out
             subst eo22
             obtain ⟨Ao23, co23, eo23⟩ := Kd.V_slice HO_8.out
             subst eo23
             go_wp2_with (first | ((with_reducible refine gate_callee (f := 180) rfl ?_); refine goesL_ (some 42) rfl rfl Try.func180 (by kernel_rfl) rfl #[.slice Ao22 x7_2.length co22, .slice Ao23 x8_2.length co23] rfl lu ?_; (with_reducible refine (nat_times.calls k2 _ _ x7_2 _ _ x8_2 t1474 _ ?side1 ?side2 ?side3 ?side4 A19.out).mono ?_); (case side1 => repeat (first | exact (Kd.V_reads' HO_7.out).2.2 | (with_reducible refine Kd.C_alloc ?_ _) | (with_reducible refine Kd.C_drewN ?_ _) | (with_reducible refine Kd.C_drew ?_))); (case side2 => exact (Kd.V_reads' HO_7.out).2.1); (case side3 => repeat (first | exact (Kd.V_reads' HO_8.out).2.2 | (with_reducible refine Kd.C_alloc ?_ _) | (with_reducible refine Kd.C_drewN ?_ _) | (with_reducible refine Kd.C_drew ?_))); (case side4 => exact (Kd.V_reads' HO_8.out).2.1); rintro e w24 ⟨v1475, rfl, ho0, hb⟩; refine ⟨_, rfl, ?_⟩; replace HO_7 := Aside0.mk (Kd.V_below (vu HO_7.out) hb); replace HO_8 := Aside0.mk (Kd.V_below (vu HO_8.out) hb); have HO1476 := Aside0.mk (Kd.V_lower (Kd.V_mono (ok' := fun k_ => True) ho0 (fun k_ hk_ => trivial)) (below_size (bu HB.out))); replace HB := Aside0.mk (below_step (bu HB.out) hb); (try clear hb); (try clear hb2); (try clear hk); (try clear hi); (try clear ho0); obtain ⟨Ao25, co25, eo25⟩ := Kd.V_slice HO1476.out; subst eo25))
             go_ret2
             exact ⟨_, by first | rfl | (simp [errW_none, errW_some] <;> rfl) | (simp [*, errW_none, errW_some] <;> rfl), by first | exact Kd.R_nil _ _ _ _ _ | exact Kd.N_nil _ _ _ _ _ | exact Kd.V_nil _ _ _ _ _ | exact Kd.Q_nil _ _ _ _ _ | exact Kd.S_nil _ _ _ _ _, by repeat (first | (with_reducible first | exact HB.out | apply below_alloc | apply pw_below_drewN | apply below_drew1) | exact HB.out)⟩
            ·
             rw [if_neg c21] at H
             have c21b0 : decide (4096 < (t1474.length : Int)) = false := decide_eq_false c21
             have c21b1 : decide (4096 < t1474.length) = false := decide_eq_false (by omega)
             clear c21
             replace H := Option.bind_eq_some_iff.mp H
             obtain ⟨t1477, A260, H⟩ := H
             replace H : (some (t1477, 0)) = some (r1, r2) := H
             have A26 := Aside0.mk A260
             clear A260
             simp only [Option.some.injEq, Prod.mk.injEq] at H
             obtain ⟨rfl, rfl⟩ := H
             obtain ⟨Ao27, co27, eo27⟩ := Kd.V_slice HO_7.out
             subst eo27
             obtain ⟨Ao28, co28, eo28⟩ := Kd.V_slice HO_8.out
             subst eo28
             go_wp2_with (first | ((with_reducible refine gate_callee (f := 180) rfl ?_); refine goesL_ (some 42) rfl rfl Try.func180 (by kernel_rfl) rfl #[.slice Ao27 x7_2.length co27, .slice Ao28 x8_2.length co28] rfl lu ?_; (with_reducible refine (nat_times.calls k2 _ _ x7_2 _ _ x8_2 t1474 _ ?side1 ?side2 ?side3 ?side4 A19.out).mono ?_); (case side1 => repeat (first | exact (Kd.V_reads' HO_7.out).2.2 | (with_reducible refine Kd.C_alloc ?_ _) | (with_reducible refine Kd.C_drewN ?_ _) | (with_reducible refine Kd.C_drew ?_))); (case side2 => exact (Kd.V_reads' HO_7.out).2.1); (case side3 => repeat (first | exact (Kd.V_reads' HO_8.out).2.2 | (with_reducible refine Kd.C_alloc ?_ _) | (with_reducible refine Kd.C_drewN ?_ _) | (with_reducible refine Kd.C_drew ?_))); (case side4 => exact (Kd.V_reads' HO_8.out).2.1); rintro e w29 ⟨v1475, rfl, ho0, hb⟩; refine ⟨_, rfl, ?_⟩; replace HO_7 := Aside0.mk (Kd.V_below (vu HO_7.out) hb); replace HO_8 := Aside0.mk (Kd.V_below (vu HO_8.out) hb); have HO1476 := Aside0.mk (Kd.V_lower (Kd.V_mono (ok' := fun k_ => True) ho0 (fun k_ hk_ => trivial)) (below_size (bu HB.out))); replace HB := Aside0.mk (below_step (bu HB.out) hb); (try clear hb); (try clear hb2); (try clear hk); (try clear hi); (try clear ho0); obtain ⟨Ao30, co30, eo30⟩ := Kd.V_slice HO1476.out; subst eo30) | ((with_reducible refine gate_callee (f := 177) rfl ?_); refine goesL_ (some 54) rfl rfl Try.func177 (by kernel_rfl) rfl #[.slice Ao30 t1474.length co30] rfl lu ?_; (with_reducible refine (nat_Trim.calls k2 _ _ t1474 t1477 _ ?side1 ?side2 A26.out).mono ?_); (case side1 => repeat (first | exact (Kd.V_reads' HO1476.out).2.2 | (with_reducible refine Kd.C_alloc ?_ _) | (with_reducible refine Kd.C_drewN ?_ _) | (with_reducible refine Kd.C_drew ?_))); (case side2 => exact (Kd.V_reads' HO1476.out).2.1); rintro e w31 ⟨v1478, rfl, ho0, hb⟩; refine ⟨_, rfl, ?_⟩; replace HO_7 := Aside0.mk (Kd.V_elder' (vu HO_7.out) (Kd.R_base ho0) hb); replace HO_8 := Aside0.mk (Kd.V_elder' (vu HO_8.out) (Kd.R_base ho0) hb); replace HO1476 := Aside0.mk (Kd.V_elder' (vu HO1476.out) (Kd.R_base ho0) hb); have HO1479 := Aside0.mk (Kd.R_lower ho0 (below_size (bu HB.out))); replace HB := Aside0.mk (below_step (bu HB.out) hb); (try clear hb); (try clear hb2); (try clear hk); (try clear hi); (try clear ho0)))
             go_ret2
             exact ⟨_, by first | rfl | (simp [errW_none, errW_some] <;> rfl) | (simp [*, errW_none, errW_some] <;> rfl), by (with_reducible repeat (first | apply Kd.R_alloc | apply Kd.R_drewN | apply Kd.R_drew)); exact HO1479.out, by repeat (first | (with_reducible first | exact HB.out | apply below_alloc | apply pw_below_drewN | apply below_drew1) | exact HB.out)⟩
           ·
            rw [if_neg c20] at H
            have c20b0 : ((x1_2 / 2) == 0) = false := beq_eq_false_iff_ne.mpr c20
            have c20b1 : ((x1_2 / 2) != 0) = true := bne_iff_ne.mpr c20
            replace H := Option.bind_eq_some_iff.mp H
            obtain ⟨t1480, A320, H⟩ := H
            replace H : (nat_Pow.l0 k2 (x1_2 / 2) t1474 t1480) = some (r1, r2) := H
            have A32 := Aside0.mk A320
            clear A320
            have H' := Aside0.mk H
            clear H
            obtain ⟨Ao33, co33, eo33⟩ := Kd.V_slice HO_7.out
            subst eo33
            obtain ⟨Ao34, co34, eo34⟩ := Kd.V_slice HO_8.out
            subst eo34
            go_wp2_with (first | ((with_reducible refine gate_callee (f := 180) rfl ?_); refine goesL_ (some 42) rfl rfl Try.func180 (by kernel_rfl) rfl #[.slice Ao33 x7_2.length co33, .slice Ao34 x8_2.length co34] rfl lu ?_; (with_reducible refine (nat_times.calls k2 _ _ x7_2 _ _ x8_2 t1474 _ ?side1 ?side2 ?side3 ?side4 A19.out).mono ?_); (case side1 => repeat (first | exact (Kd.V_reads' HO_7.out).2.2 | (with_reducible refine Kd.C_alloc ?_ _) | (with_reducible refine Kd.C_drewN ?_ _) | (with_reducible refine Kd.C_drew ?_))); (case side2 => exact (Kd.V_reads' HO_7.out).2.1); (case side3 => repeat (first | exact (Kd.V_reads' HO_8.out).2.2 | (with_reducible refine Kd.C_alloc ?_ _) | (with_reducible refine Kd.C_drewN ?_ _) | (with_reducible refine Kd.C_drew ?_))); (case side4 => exact (Kd.V_reads' HO_8.out).2.1); rintro e w35 ⟨v1475, rfl, ho0, hb⟩; refine ⟨_, rfl, ?_⟩; replace HO_7 := Aside0.mk (Kd.V_below (vu HO_7.out) hb); replace HO_8 := Aside0.mk (Kd.V_below (vu HO_8.out) hb); have HO1476 := Aside0.mk (Kd.V_lower (Kd.V_mono (ok' := fun k_ => True) ho0 (fun k_ hk_ => trivial)) (below_size (bu HB.out))); replace HB := Aside0.mk (below_step (bu HB.out) hb); (try clear hb); (try clear hb2); (try clear hk); (try clear hi); (try clear ho0)) | ((with_reducible refine gate_callee (f := 180) rfl ?_); refine goesL_ (some 49) rfl rfl Try.func180 (by kernel_rfl) rfl #[.slice Ao34 x8_2.length co34, .slice Ao34 x8_2.length co34] rfl lu ?_; (with_reducible refine (nat_times.calls k2 _ _ x8_2 _ _ x8_2 t1480 _ ?side1 ?side2 ?side3 ?side4 A32.out).mono ?_); (case side1 => repeat (first | exact (Kd.V_reads' HO_8.out).2.2 | (with_reducible refine Kd.C_alloc ?_ _) | (with_reducible refine Kd.C_drewN ?_ _) | (with_reducible refine Kd.C_drew ?_))); (case side2 => exact (Kd.V_reads' HO_8.out).2.1); (case side3 => repeat (first | exact (Kd.V_reads' HO_8.out).2.2 | (with_reducible refine Kd.C_alloc ?_ _) | (with_reducible refine Kd.C_drewN ?_ _) | (with_reducible refine Kd.C_drew ?_))); (case side4 => exact (Kd.V_reads' HO_8.out).2.1); rintro e w36 ⟨v1481, rfl, ho0, hb⟩; refine ⟨_, rfl, ?_⟩; replace HO_7 := Aside0.mk (Kd.V_below (vu HO_7.out) hb); replace HO_8 := Aside0.mk (Kd.V_below (vu HO_8.out) hb); replace HO1476 := Aside0.mk (Kd.V_below (vu HO1476.out) hb); have HO1482 := Aside0.mk (Kd.V_lower (Kd.V_mono (ok' := fun k_ => True) ho0 (fun k_ hk_ => trivial)) (below_size (bu HB.out))); replace HB := Aside0.mk (below_step (bu HB.out) hb); (try clear hb); (try clear hb2); (try clear hk); (try clear hi); (try clear ho0)))
            go_roundg k2
            case measure => have := HJ4.out; have := HK2.out; omega
            case rel => exact ⟨(x1_2 / 2), (t1474), (t1480), (by first | rfl | (simp; done) | (simp [*]; done)), H', ⟨by have := HJ4.out; have := HK2.out; omega⟩, ⟨by (with_reducible repeat (first | apply Kd.V_alloc | apply Kd.V_drewN | apply Kd.V_drew)); exact HO1476.out⟩, ⟨by (with_reducible repeat (first | apply Kd.V_alloc | apply Kd.V_drewN | apply Kd.V_drew)); exact HO1482.out⟩, ⟨by repeat (first | (with_reducible first | exact HB.out | apply below_alloc | apply pw_below_drewN | apply below_drew1) | exact HB.out)⟩⟩
          ·
           rw [if_neg c18] at H
           have c18b0 : ((Go.bits .and .i64 x1_2 1) == 1) = false := beq_eq_false_iff_ne.mpr c18
           have c18b1 : ((Go.bits .and .i64 x1_2 1) != 1) = true := bne_iff_ne.mpr c18
           by_cases c37 : (x1_2 / 2) = 0
           ·
            rw [if_pos c37] at H
            have c37b0 : ((x1_2 / 2) == 0) = true := beq_iff_eq.mpr c37
            have c37b1 : ((x1_2 / 2) != 0) = false := bne_eq_false_iff_eq.mpr c37
            clear c37
            by_cases c38 : (x7_2.length : Int) > 4096
            ·
             rw [if_pos c38] at H
             have c38b0 : decide (4096 < (x7_2.length : Int)) = true := decide_eq_true c38
             have c38b1 : decide (4096 < x7_2.length) = true := decide_eq_true (by omega)
             clear c38
             simp only [Option.some.injEq, Prod.mk.injEq] at H
             obtain ⟨rfl, rfl⟩ := H
             obtain ⟨Ao39, co39, eo39⟩ := Kd.V_slice HO_7.out
             subst eo39
             go_wp2
             go_ret2
             exact ⟨_, by first | rfl | (simp [errW_none, errW_some] <;> rfl) | (simp [*, errW_none, errW_some] <;> rfl), by first | exact Kd.R_nil _ _ _ _ _ | exact Kd.N_nil _ _ _ _ _ | exact Kd.V_nil _ _ _ _ _ | exact Kd.Q_nil _ _ _ _ _ | exact Kd.S_nil _ _ _ _ _, by repeat (first | (with_reducible first | exact HB.out | apply below_alloc | apply pw_below_drewN | apply below_drew1) | exact HB.out)⟩
            ·
             rw [if_neg c38] at H
             have c38b0 : decide (4096 < (x7_2.length : Int)) = false := decide_eq_false c38
             have c38b1 : decide (4096 < x7_2.length) = false := decide_eq_false (by omega)
             clear c38
             replace H := Option.bind_eq_some_iff.mp H
             obtain ⟨t1483, A400, H⟩ := H
             replace H : (some (t1483, 0)) = some (r1, r2) := H
             have A40 := Aside0.mk A400
             clear A400
             simp only [Option.some.injEq, Prod.mk.injEq] at H
             obtain ⟨rfl, rfl⟩ := H
             obtain ⟨Ao41, co41, eo41⟩ := Kd.V_slice HO_7.out
             subst eo41
             go_wp2_with (first | ((with_reducible refine gate_callee (f := 177) rfl ?_); refine goesL_ (some 54) rfl rfl Try.func177 (by kernel_rfl) rfl #[.slice Ao41 x7_2.length co41] rfl lu ?_; (with_reducible refine (nat_Trim.calls k2 _ _ x7_2 t1483 _ ?side1 ?side2 A40.out).mono ?_); (case side1 => repeat (first | exact (Kd.V_reads' HO_7.out).2.2 | (with_reducible refine Kd.C_alloc ?_ _) | (with_reducible refine Kd.C_drewN ?_ _) | (with_reducible refine Kd.C_drew ?_))); (case side2 => exact (Kd.V_reads' HO_7.out).2.1); rintro e w42 ⟨v1484, rfl, ho0, hb⟩; refine ⟨_, rfl, ?_⟩; replace HO_7 := Aside0.mk (Kd.V_elder' (vu HO_7.out) (Kd.R_base ho0) hb); replace HO_8 := Aside0.mk (Kd.V_elder' (vu HO_8.out) (Kd.R_base ho0) hb); have HO1485 := Aside0.mk (Kd.R_lower ho0 (below_size (bu HB.out))); replace HB := Aside0.mk (below_step (bu HB.out) hb); (try clear hb); (try clear hb2); (try clear hk); (try clear hi); (try clear ho0)))
             go_ret2
             exact ⟨_, by first | rfl | (simp [errW_none, errW_some] <;> rfl) | (simp [*, errW_none, errW_some] <;> rfl), by (with_reducible repeat (first | apply Kd.R_alloc | apply Kd.R_drewN | apply Kd.R_drew)); exact HO1485.out, by repeat (first | (with_reducible first | exact HB.out | apply below_alloc | apply pw_below_drewN | apply below_drew1) | exact HB.out)⟩
           ·
            rw [if_neg c37] at H
            have c37b0 : ((x1_2 / 2) == 0) = false := beq_eq_false_iff_ne.mpr c37
            have c37b1 : ((x1_2 / 2) != 0) = true := bne_iff_ne.mpr c37
            replace H := Option.bind_eq_some_iff.mp H
            obtain ⟨t1486, A430, H⟩ := H
            replace H : (nat_Pow.l0 k2 (x1_2 / 2) x7_2 t1486) = some (r1, r2) := H
            have A43 := Aside0.mk A430
            clear A430
            have H' := Aside0.mk H
            clear H
            obtain ⟨Ao44, co44, eo44⟩ := Kd.V_slice HO_8.out
            subst eo44
            go_wp2_with (first | ((with_reducible refine gate_callee (f := 180) rfl ?_); refine goesL_ (some 49) rfl rfl Try.func180 (by kernel_rfl) rfl #[.slice Ao44 x8_2.length co44, .slice Ao44 x8_2.length co44] rfl lu ?_; (with_reducible refine (nat_times.calls k2 _ _ x8_2 _ _ x8_2 t1486 _ ?side1 ?side2 ?side3 ?side4 A43.out).mono ?_); (case side1 => repeat (first | exact (Kd.V_reads' HO_8.out).2.2 | (with_reducible refine Kd.C_alloc ?_ _) | (with_reducible refine Kd.C_drewN ?_ _) | (with_reducible refine Kd.C_drew ?_))); (case side2 => exact (Kd.V_reads' HO_8.out).2.1); (case side3 => repeat (first | exact (Kd.V_reads' HO_8.out).2.2 | (with_reducible refine Kd.C_alloc ?_ _) | (with_reducible refine Kd.C_drewN ?_ _) | (with_reducible refine Kd.C_drew ?_))); (case side4 => exact (Kd.V_reads' HO_8.out).2.1); rintro e w45 ⟨v1487, rfl, ho0, hb⟩; refine ⟨_, rfl, ?_⟩; replace HO_7 := Aside0.mk (Kd.V_below (vu HO_7.out) hb); replace HO_8 := Aside0.mk (Kd.V_below (vu HO_8.out) hb); have HO1488 := Aside0.mk (Kd.V_lower (Kd.V_mono (ok' := fun k_ => True) ho0 (fun k_ hk_ => trivial)) (below_size (bu HB.out))); replace HB := Aside0.mk (below_step (bu HB.out) hb); (try clear hb); (try clear hb2); (try clear hk); (try clear hi); (try clear ho0)))
            go_roundg k2
            case measure => have := HJ4.out; have := HK2.out; omega
            case rel => exact ⟨(x1_2 / 2), (x7_2), (t1486), (by first | rfl | (simp; done) | (simp [*]; done)), H', ⟨by have := HJ4.out; have := HK2.out; omega⟩, ⟨by (with_reducible repeat (first | apply Kd.V_alloc | apply Kd.V_drewN | apply Kd.V_drew)); exact HO_7.out⟩, ⟨by (with_reducible repeat (first | apply Kd.V_alloc | apply Kd.V_drewN | apply Kd.V_drew)); exact HO1488.out⟩, ⟨by repeat (first | (with_reducible first | exact HB.out | apply below_alloc | apply pw_below_drewN | apply below_drew1) | exact HB.out)⟩⟩
end Go.Proofs.Ytecfdemglbfnoaa.PT
end
section
namespace Go.Proofs.Ytecfdemglbfnoaa.PT
open Go.RowKit Go.Proofs.YtecfdemglbfnoaaW.PrintWords Go.Proofs.YtecfdemglbfnoaaW.PrintLast Go.Proofs.YtecfdemglbfnoaaW.PrintMore
attribute [local go_sem] max2_int min2_int max_two min_two max_three min_three max_four min_four   -- for this text's walks alone
set_option linter.unusedVariables false
set_option linter.unusedSimpArgs false
mutual
def rational_Pow.j0 : Nat → Int → Bool → List Int → List Int → Option (Bool × List Int × List Int × Int)
 | 0, _, _, _, _ => none
 | k + 1, x1, x1490000, x1490001, x1490002 => if x1 = (-9223372036854775808) then ((nat_Bits.f k x1490001).bind fun t1499 => (if t1499 = 1 then ((nat_Bits.f k x1490002).bind fun t1500 => (rational_Pow.j1 k (wrap64 (x1 + 1)) ((Int.tmod x1 2) != 0) (t1500 == 1) x1490000 x1490001 x1490002)) else (rational_Pow.j1 k (wrap64 (x1 + 1)) ((Int.tmod x1 2) != 0) false x1490000 x1490001 x1490002))) else (rational_Pow.j2 k x1 ((Int.tmod x1 2) != 0) x1490000 x1490001 x1490002)
def rational_Pow.j2 : Nat → Int → Bool → Bool → List Int → List Int → Option (Bool × List Int × List Int × Int)
 | 0, _, _, _, _, _ => none
 | k + 1, x1, x6, x1490000, x1490001, x1490002 => if x1 < 0 then (rational_Pow.j3 k (wrap64 (-x1)) x6 x1490000 x1490001 x1490002) else (rational_Pow.j3 k x1 x6 x1490000 x1490001 x1490002)
def rational_Pow.j3 : Nat → Int → Bool → Bool → List Int → List Int → Option (Bool × List Int × List Int × Int)
 | 0, _, _, _, _, _ => none
 | k + 1, x1, x6, x1490000, x1490001, x1490002 => (nat_Pow.f k x1490001 x1).bind fun bt1507 => (if bt1507.2 = 0 then ((nat_Pow.f k x1490002 x1).bind fun bt1511 => (if bt1511.2 = 0 then (if x1490000 = true then ((rational_canonical.f k x6 bt1507.1 bt1511.1).bind fun bt1515 => (some (bt1515.1, bt1515.2.1, bt1515.2.2, 0))) else ((rational_canonical.f k false bt1507.1 bt1511.1).bind fun bt1522 => (some (bt1522.1, bt1522.2.1, bt1522.2.2, 0)))) else (some (false, ([] : List Int), ([] : List Int), bt1511.2)))) else (some (false, ([] : List Int), ([] : List Int), bt1507.2)))
def rational_Pow.j1 : Nat → Int → Bool → Bool → Bool → List Int → List Int → Option (Bool × List Int × List Int × Int)
 | 0, _, _, _, _, _, _ => none
 | k + 1, x1, x6, x40, x1490000, x1490001, x1490002 => if x40 = true then ((rational_one.f).bind fun t1501 => ((rational_one.f).bind fun t1504 => (some (false, t1501, t1504, 0)))) else (rational_Pow.j2 k x1 x6 x1490000 x1490001 x1490002)
end
def rational_Pow.f (k : Nat) (a0_0 : Bool) (l0_1 : List Int) (l0_2 : List Int) (a1 : Int) : Option (Bool × List Int × List Int × Int) := (rational_Trim.f k a0_0 l0_1 l0_2).bind fun bt1491 => (if a1 < 0 then ((rational_Sign.f k bt1491.1 bt1491.2.1 bt1491.2.2).bind fun t1498 => (if t1498 = 0 then (some (false, ([] : List Int), ([] : List Int), 7)) else (rational_Pow.j0 k a1 bt1491.1 bt1491.2.2 bt1491.2.1))) else (rational_Pow.j0 k a1 bt1491.1 bt1491.2.1 bt1491.2.2))
set_option maxHeartbeats 8000000 in
set_option maxRecDepth 100000 in
theorem rational_Pow.calls (k : Nat) (a0_0 : Bool) (P0_1_ : Nat → Prop) (A0_1 : Option Addr) (c0_1 : Nat) (l0_1 : List Int) (P0_2_ : Nat → Prop) (A0_2 : Option Addr) (c0_2 : Nat) (l0_2 : List Int) (a1 : Int) (r1 : Bool) (r2 : List Int) (r3 : List Int) (r4 : Int) (w : World) (hs0_1 : Kd.V (Kd.int .u32) 48 w w.heap.size (fun k_ => P0_1_ k_) (.slice A0_1 l0_1.length c0_1) l0_1) (hs0_2 : Kd.V (Kd.int .u32) 48 w w.heap.size (fun k_ => P0_2_ k_) (.slice A0_2 l0_2.length c0_2) l0_2) (h : rational_Pow.f k a0_0 l0_1 l0_2 a1 = some (r1, r2, r3, r4)) :
 Calls Try.prog 96 #[.agg #[.bool a0_0, .slice A0_1 l0_1.length c0_1, .slice A0_2 l0_2.length c0_2], .int .i64 a1] w fun e w' => ∃ v1_ v2_ : Value, e = .returned (.tuple #[.agg #[.bool r1, v1_, v2_], .int .i64 r4]) ∧ Kd.V (Kd.int .u32) 48 w' w.heap.size (fun k_ => ((P0_1_ k_ ∨ P0_2_ k_) ∨ w.heap.size ≤ k_)) v1_ r2 ∧ Kd.V (Kd.int .u32) 48 w' w.heap.size (fun k_ => ((P0_1_ k_ ∨ P0_2_ k_) ∨ w.heap.size ≤ k_)) v2_ r3 ∧ Below w.heap.size w w' := by
 have hu67 := Try.underlying67
 have HO0_1 := Aside0.mk (show Kd.V (Kd.int .u32) 48 w w.heap.size (fun k_ => ((P0_1_ k_ ∨ P0_2_ k_) ∨ w.heap.size ≤ k_)) (.slice A0_1 l0_1.length c0_1) l0_1 from Kd.V_mono hs0_1 (fun k_ hk => .inl (.inl hk)))
 have HO0_2 := Aside0.mk (show Kd.V (Kd.int .u32) 48 w w.heap.size (fun k_ => ((P0_1_ k_ ∨ P0_2_ k_) ∨ w.heap.size ≤ k_)) (.slice A0_2 l0_2.length c0_2) l0_2 from Kd.V_mono hs0_2 (fun k_ hk => .inl (.inr hk)))
 have HB := Aside0.mk (Below.refl w.heap.size w)
 have H : ((rational_Trim.f k a0_0 l0_1 l0_2).bind fun bt1491 => (if a1 < 0 then ((rational_Sign.f k bt1491.1 bt1491.2.1 bt1491.2.2).bind fun t1498 => (if t1498 = 0 then (some (false, ([] : List Int), ([] : List Int), 7)) else (rational_Pow.j0 k a1 bt1491.1 bt1491.2.2 bt1491.2.1))) else (rational_Pow.j0 k a1 bt1491.1 bt1491.2.1 bt1491.2.2))) = some (r1, r2, r3, r4) := h
 clear h
 replace H := Option.bind_eq_some_iff.mp H
 obtain ⟨⟨t1491, t1492, t1495⟩, A30, H⟩ := H
 replace H : (if a1 < 0 then ((rational_Sign.f k t1491 t1492 t1495).bind fun t1498 => (if t1498 = 0 then (some (false, ([] : List Int), ([] : List Int), 7)) else (rational_Pow.j0 k a1 t1491 t1495 t1492))) else (rational_Pow.j0 k a1 t1491 t1492 t1495)) = some (r1, r2, r3, r4) := H
 have A3 := Aside0.mk A30
 clear A30
 have HC4 := Aside0.mk H
 clear H
 go_enter Try.func96, Try.ntmps96
 go_upto_if 13 with (first | ((with_reducible refine gate_dst (N := 2) rfl ?_); refine box_event ?hg (N := 2) ?hd (cs := #[.bool a0_0, .slice A0_1 l0_1.length c0_1, .slice A0_2 l0_2.length c0_2]) (t := 67) ?hr ?_; (case hd => rfl); (case hg => rfl); (case hr => first | (go_simp; done) | (go_simp; rfl)); intro gb1489 hg w5 hbox hb; replace HO0_1 := ke HO0_1 hg hb; replace HO0_2 := ke HO0_2 hg hb; have BK1489 := Aside0.mk (hbox); have GW1489 := ng hg (bu HB.out); have GE1489 := ng hg (bu HB.out); replace HB := Aside0.mk (below_step (bu HB.out) hb); clear hb hbox hg) | ((with_reducible refine gate_dst (N := 4) rfl ?_); refine box_event ?hg (N := 4) ?hd (cs := #[.bool false, .slice none 0 0, .slice none 0 0]) (t := 67) ?hr ?_; (case hd => rfl); (case hg => rfl); (case hr => first | (go_simp; done) | (go_simp; rfl)); intro gb1490 hg w6 hbox hb; replace HO0_1 := ke HO0_1 hg hb; replace HO0_2 := ke HO0_2 hg hb; have BK1490 := Aside0.mk (hbox); have GW1490 := ng hg (bu1 HB.out GE1489.out); have GE1490 := ng hg (bu1 HB.out GE1489.out); replace HB := Aside0.mk (below_step (bu1 HB.out GE1489.out) hb); have NB1489_1490 := nl hg BK1489; have NB1490_1489 := nr hg BK1489; replace BK1489 := kb BK1489 hb; clear hb hbox hg; have hnb7 := NB1489_1490.out; have hnc7 := NB1490_1489.out; have hcz8_0 : w6.cell? ⟨gb1489, 0, none⟩ = some (.bool a0_0) := bc BK1489 0; have hcz8_1 : w6.cell? ⟨gb1489, 1, none⟩ = some (.slice A0_1 l0_1.length c0_1) := bc BK1489 1; have hcz8_2 : w6.cell? ⟨gb1489, 2, none⟩ = some (.slice A0_2 l0_2.length c0_2) := bc BK1489 2; have hfz8_0 := blk_frozen BK1489.out 0; have hfz8_1 := blk_frozen BK1489.out 1; have hfz8_2 := blk_frozen BK1489.out 2) | ((with_reducible refine gate_callee (f := 87) rfl ?_); refine goesL_ (some 11) rfl rfl Try.func87 (by kernel_rfl) rfl #[.agg #[.bool a0_0, .slice A0_1 l0_1.length c0_1, .slice A0_2 l0_2.length c0_2]] rfl lu ?_; (with_reducible refine (rational_Trim.calls k a0_0 (fun k_ => ((((P0_1_ k_ ∨ P0_2_ k_) ∨ w.heap.size ≤ k_) ∧ k_ ≠ gb1489) ∧ k_ ≠ gb1490)) _ _ l0_1 (fun k_ => ((((P0_1_ k_ ∨ P0_2_ k_) ∨ w.heap.size ≤ k_) ∧ k_ ≠ gb1489) ∧ k_ ≠ gb1490)) _ _ l0_2 t1491 t1492 t1495 _ ?side1 ?side2 A3.out).mono ?_); (case side1 => first | exact HO0_1.out | exact vz HO0_1.out); (case side2 => first | exact HO0_2.out | exact vz HO0_2.out); rintro e w9 ⟨v1493, v1496, rfl, ho0, ho1, hb⟩; refine ⟨_, rfl, ?_⟩; replace HO0_1 := kv HO0_1 hb; replace HO0_2 := kv HO0_2 hb; have HO1494 := ar w.heap.size (ok' := fun k_ => ((P0_1_ k_ ∨ P0_2_ k_) ∨ w.heap.size ≤ k_) ∧ k_ ≠ gb1489 ∧ k_ ≠ gb1490) ho0 (fa (f0 (below_size (bu2 HB.out GE1489.out GE1490.out))) (fa (fb BK1489) (fb BK1490))); have HO1497 := ar w.heap.size (ok' := fun k_ => ((P0_1_ k_ ∨ P0_2_ k_) ∨ w.heap.size ≤ k_) ∧ k_ ≠ gb1489 ∧ k_ ≠ gb1490) ho1 (fa (f0 (below_size (bu2 HB.out GE1489.out GE1490.out))) (fa (fb BK1489) (fb BK1490))); replace BK1489 := kb BK1489 hb; replace BK1490 := kb BK1490 hb; replace HB := Aside0.mk (below_step (bu2 HB.out GE1489.out GE1490.out) hb); (try clear hb); (try clear hb2); (try clear hk); (try clear hi); (try clear ho0); (try clear ho1); have hcz10_0 : w9.cell? ⟨gb1489, 0, none⟩ = some (.bool a0_0) := bc BK1489 0; have hcz10_1 : w9.cell? ⟨gb1489, 1, none⟩ = some (.slice A0_1 l0_1.length c0_1) := bc BK1489 1; have hcz10_2 : w9.cell? ⟨gb1489, 2, none⟩ = some (.slice A0_2 l0_2.length c0_2) := bc BK1489 2; have hfz10_0 := blk_frozen BK1489.out 0; have hfz10_1 := blk_frozen BK1489.out 1; have hfz10_2 := blk_frozen BK1489.out 2; obtain ⟨Ao11, co11, eo11⟩ := Kd.V_slice HO1494.out; subst eo11; obtain ⟨Ao12, co12, eo12⟩ := Kd.V_slice HO1497.out; subst eo12))
 (try simp only [Act.put, List.setIfInBounds_toArray, List.set_cons_zero, List.set_cons_succ])
 go_cut [] (fun wc => ∃ (kq : Nat) (x1490001_3 : List Int) (x1490002_3 : List Int) (x1491000_3 : Bool) (u1490001 : Value) (u1490002 : Value), Aside0 (rational_Pow.j0 kq a1 t1491 x1490001_3 x1490002_3 = some (r1, r2, r3, r4)) ∧ Aside0 (kq ≤ k) ∧ Aside0 (Kd.V (Kd.int .u32) 48 wc w.heap.size (fun k_ => ((P0_1_ k_ ∨ P0_2_ k_) ∨ w.heap.size ≤ k_) ∧ k_ ≠ gb1489 ∧ k_ ≠ gb1490) u1490001 x1490001_3) ∧ Aside0 (Kd.V (Kd.int .u32) 48 wc w.heap.size (fun k_ => ((P0_1_ k_ ∨ P0_2_ k_) ∨ w.heap.size ≤ k_) ∧ k_ ≠ gb1489 ∧ k_ ≠ gb1490) u1490002 x1490002_3) ∧ Aside0 (wc.heap[gb1489]? = some (.cells #[.bool t1491, u1490001, u1490002] 67 (0, 0))) ∧ Aside0 (wc.heap[gb1490]? = some (.cells #[.bool x1491000_3, (.slice none 0 0), (.slice none 0 0)] 67 (0, 0))) ∧ Aside0 (Below w.heap.size w wc))
 case first =>
  have H := HC4.out
  clear HC4
  by_cases c13 : a1 < 0
  ·
   rw [if_pos c13] at H
   have c13b0 : decide (a1 < 0) = true := decide_eq_true c13
   clear c13
   (first | rw [c13b0] | rw [c13b1] | (simp only [i64_w, i32_w]; rw [c13b0]) | skip)
   replace H := Option.bind_eq_some_iff.mp H
   obtain ⟨t1498, A140, H⟩ := H
   replace H : (if t1498 = 0 then (some (false, ([] : List Int), ([] : List Int), 7)) else (rational_Pow.j0 k a1 t1491 t1495 t1492)) = some (r1, r2, r3, r4) := H
   have A14 := Aside0.mk A140
   clear A140
   by_cases c15 : t1498 = 0
   ·
    rw [if_pos c15] at H
    have c15b0 : (t1498 == 0) = true := beq_iff_eq.mpr c15
    have c15b1 : (t1498 != 0) = false := bne_eq_false_iff_eq.mpr c15
    clear c15
    simp only [Option.some.injEq, Prod.mk.injEq] at H
    obtain ⟨rfl, rfl, rfl, rfl⟩ := H
    have hnb16 := NB1489_1490.out
    have hnc16 := NB1490_1489.out
    have hcz17_0 : w9.cell? ⟨gb1489, 0, none⟩ = some (.bool a0_0) := bc BK1489 0
    have hcz17_1 : w9.cell? ⟨gb1489, 1, none⟩ = some (.slice A0_1 l0_1.length c0_1) := bc BK1489 1
    have hcz17_2 : w9.cell? ⟨gb1489, 2, none⟩ = some (.slice A0_2 l0_2.length c0_2) := bc BK1489 2
    have hfz17_0 := blk_frozen BK1489.out 0
    have hfz17_1 := blk_frozen BK1489.out 1
    have hfz17_2 := blk_frozen BK1489.out 2
    go_wp2_with (first | ((with_reducible refine gate_callee (f := 91) rfl ?_); refine goesL_ (some 15) rfl rfl Try.func91 (by kernel_rfl) rfl #[.agg #[.bool t1491, .slice Ao11 t1492.length co11, .slice Ao12 t1495.length co12]] rfl lu ?_; (with_reducible refine (rational_Sign.calls k t1491 _ _ t1492 _ _ t1495 t1498 _ ?side1 ?side2 ?side3 ?side4 A14.out).mono ?_); (case side1 => exact vr HO1494.out); (case side2 => exact (Kd.V_reads' HO1494.out).2.1); (case side3 => exact vr HO1497.out); (case side4 => exact (Kd.V_reads' HO1497.out).2.1); rintro e w18 ⟨rfl, hb⟩; refine ⟨_, rfl, ?_⟩; replace HO0_1 := Aside0.mk (Kd.V_below (by (with_reducible repeat (first | apply Kd.V_alloc | apply Kd.V_drewN | apply Kd.V_drew)); exact (Kd.V_mono (Kd.V_far (p := ⟨gb1489, 2, none⟩) (Kd.V_far (p := ⟨gb1489, 1, none⟩) (Kd.V_far (p := ⟨gb1489, 0, none⟩) (Kd.V_mono HO0_1.out (fun k_ hk => (⟨hk, hk.1.2⟩ : _ ∧ k_ ≠ gb1489))) (fun _ hk => hk.2) (.bool t1491)) (fun _ hk => hk.2) (.slice Ao11 t1492.length co11)) (fun _ hk => hk.2) (.slice Ao12 t1495.length co12)) (fun _ h_ => h_.1))) hb); replace HO0_2 := Aside0.mk (Kd.V_below (by (with_reducible repeat (first | apply Kd.V_alloc | apply Kd.V_drewN | apply Kd.V_drew)); exact (Kd.V_mono (Kd.V_far (p := ⟨gb1489, 2, none⟩) (Kd.V_far (p := ⟨gb1489, 1, none⟩) (Kd.V_far (p := ⟨gb1489, 0, none⟩) (Kd.V_mono HO0_2.out (fun k_ hk => (⟨hk, hk.1.2⟩ : _ ∧ k_ ≠ gb1489))) (fun _ hk => hk.2) (.bool t1491)) (fun _ hk => hk.2) (.slice Ao11 t1492.length co11)) (fun _ hk => hk.2) (.slice Ao12 t1495.length co12)) (fun _ h_ => h_.1))) hb); replace HO1494 := Aside0.mk (Kd.V_below (by (with_reducible repeat (first | apply Kd.V_alloc | apply Kd.V_drewN | apply Kd.V_drew)); exact (Kd.V_mono (Kd.V_far (p := ⟨gb1489, 2, none⟩) (Kd.V_far (p := ⟨gb1489, 1, none⟩) (Kd.V_far (p := ⟨gb1489, 0, none⟩) (Kd.V_mono HO1494.out (fun k_ hk => (⟨hk, hk.2.1⟩ : _ ∧ k_ ≠ gb1489))) (fun _ hk => hk.2) (.bool t1491)) (fun _ hk => hk.2) (.slice Ao11 t1492.length co11)) (fun _ hk => hk.2) (.slice Ao12 t1495.length co12)) (fun _ h_ => h_.1))) hb); replace HO1497 := Aside0.mk (Kd.V_below (by (with_reducible repeat (first | apply Kd.V_alloc | apply Kd.V_drewN | apply Kd.V_drew)); exact (Kd.V_mono (Kd.V_far (p := ⟨gb1489, 2, none⟩) (Kd.V_far (p := ⟨gb1489, 1, none⟩) (Kd.V_far (p := ⟨gb1489, 0, none⟩) (Kd.V_mono HO1497.out (fun k_ hk => (⟨hk, hk.2.1⟩ : _ ∧ k_ ≠ gb1489))) (fun _ hk => hk.2) (.bool t1491)) (fun _ hk => hk.2) (.slice Ao11 t1492.length co11)) (fun _ hk => hk.2) (.slice Ao12 t1495.length co12)) (fun _ h_ => h_.1))) hb); replace BK1489 := Aside0.mk (blk_below (g := gb1489) (o := .cells #[.bool t1491, .slice Ao11 t1492.length co11, .slice Ao12 t1495.length co12] 67 (0, 0)) (by (with_reducible repeat (first | refine blk_drewN ?_ _ | refine blk_drew ?_ | refine blk_alloc ?_ _)); refine blk_put (cs := #[.bool t1491, .slice Ao11 t1492.length co11, .slice A0_2 l0_2.length c0_2]) ?_ 2 _ rfl; (with_reducible repeat (first | refine blk_drewN ?_ _ | refine blk_drew ?_ | refine blk_alloc ?_ _)); refine blk_put (cs := #[.bool t1491, .slice A0_1 l0_1.length c0_1, .slice A0_2 l0_2.length c0_2]) ?_ 1 _ rfl; (with_reducible repeat (first | refine blk_drewN ?_ _ | refine blk_drew ?_ | refine blk_alloc ?_ _)); refine blk_put (cs := #[.bool a0_0, .slice A0_1 l0_1.length c0_1, .slice A0_2 l0_2.length c0_2]) ?_ 0 _ rfl; (with_reducible repeat (first | refine blk_drewN ?_ _ | refine blk_drew ?_ | refine blk_alloc ?_ _)); exact BK1489.out) hb); replace BK1490 := Aside0.mk (blk_below (g := gb1490) (o := .cells #[.bool false, .slice none 0 0, .slice none 0 0] 67 (0, 0)) (kf NB1490_1489.out BK1490.out) hb); replace HB := Aside0.mk (below_step (bu2 HB.out GE1489.out GE1490.out) hb); (try clear hb); (try clear hb2); (try clear hk); (try clear hi); have hcz19_0 : w18.cell? ⟨gb1490, 0, none⟩ = some (.bool false) := bc BK1490 0; have hcz19_1 : w18.cell? ⟨gb1490, 1, none⟩ = some (.slice none 0 0) := bc BK1490 1; have hcz19_2 : w18.cell? ⟨gb1490, 2, none⟩ = some (.slice none 0 0) := bc BK1490 2; have hfz19_0 := blk_frozen BK1490.out 0; have hfz19_1 := blk_frozen BK1490.out 1; have hfz19_2 := blk_frozen BK1490.out 2))
    refine bodyPost_ret (results_ct rfl _ _ gb1490 67 #[.bool false, .slice none 0 0, .slice none 0 0] (0, 0) _ rfl (by (with_reducible repeat (first | refine blk_drewN ?_ _ | refine blk_drew ?_ | refine blk_alloc ?_ _)); refine blk_put (cs := #[.bool false, .slice none 0 0, .slice none 0 0]) ?_ 2 _ rfl; (with_reducible repeat (first | refine blk_drewN ?_ _ | refine blk_drew ?_ | refine blk_alloc ?_ _)); refine blk_put (cs := #[.bool false, .slice none 0 0, .slice none 0 0]) ?_ 1 _ rfl; (with_reducible repeat (first | refine blk_drewN ?_ _ | refine blk_drew ?_ | refine blk_alloc ?_ _)); refine blk_put (cs := #[.bool false, .slice none 0 0, .slice none 0 0]) ?_ 0 _ rfl; (with_reducible repeat (first | refine blk_drewN ?_ _ | refine blk_drew ?_ | refine blk_alloc ?_ _)); exact BK1490.out) Try.underlying67 rfl (by kernel_rfl)) rfl ?_
    exact ⟨_, _, by first | rfl | (simp [errW_none, errW_some] <;> rfl) | (simp [*, errW_none, errW_some] <;> rfl), Kd.V_nil _ _ _ _ _, Kd.V_nil _ _ _ _ _, by repeat (first | (with_reducible first | exact HB.out | apply below_alloc | apply pw_below_drewN | apply below_drew1 | refine below_set ?_ GE1489.out | refine below_set ?_ GE1490.out) | exact HB.out)⟩
   ·
    rw [if_neg c15] at H
    have c15b0 : (t1498 == 0) = false := beq_eq_false_iff_ne.mpr c15
    have c15b1 : (t1498 != 0) = true := bne_iff_ne.mpr c15
    have H' := Aside0.mk H
    clear H
    have hnb20 := NB1489_1490.out
    have hnc20 := NB1490_1489.out
    have hcz21_0 : w9.cell? ⟨gb1489, 0, none⟩ = some (.bool a0_0) := bc BK1489 0
    have hcz21_1 : w9.cell? ⟨gb1489, 1, none⟩ = some (.slice A0_1 l0_1.length c0_1) := bc BK1489 1
    have hcz21_2 : w9.cell? ⟨gb1489, 2, none⟩ = some (.slice A0_2 l0_2.length c0_2) := bc BK1489 2
    have hfz21_0 := blk_frozen BK1489.out 0
    have hfz21_1 := blk_frozen BK1489.out 1
    have hfz21_2 := blk_frozen BK1489.out 2
    go_wp2_with (first | ((with_reducible refine gate_callee (f := 91) rfl ?_); refine goesL_ (some 15) rfl rfl Try.func91 (by kernel_rfl) rfl #[.agg #[.bool t1491, .slice Ao11 t1492.length co11, .slice Ao12 t1495.length co12]] rfl lu ?_; (with_reducible refine (rational_Sign.calls k t1491 _ _ t1492 _ _ t1495 t1498 _ ?side1 ?side2 ?side3 ?side4 A14.out).mono ?_); (case side1 => exact vr HO1494.out); (case side2 => exact (Kd.V_reads' HO1494.out).2.1); (case side3 => exact vr HO1497.out); (case side4 => exact (Kd.V_reads' HO1497.out).2.1); rintro e w22 ⟨rfl, hb⟩; refine ⟨_, rfl, ?_⟩; replace HO0_1 := Aside0.mk (Kd.V_below (by (with_reducible repeat (first | apply Kd.V_alloc | apply Kd.V_drewN | apply Kd.V_drew)); exact (Kd.V_mono (Kd.V_far (p := ⟨gb1489, 2, none⟩) (Kd.V_far (p := ⟨gb1489, 1, none⟩) (Kd.V_far (p := ⟨gb1489, 0, none⟩) (Kd.V_mono HO0_1.out (fun k_ hk => (⟨hk, hk.1.2⟩ : _ ∧ k_ ≠ gb1489))) (fun _ hk => hk.2) (.bool t1491)) (fun _ hk => hk.2) (.slice Ao11 t1492.length co11)) (fun _ hk => hk.2) (.slice Ao12 t1495.length co12)) (fun _ h_ => h_.1))) hb); replace HO0_2 := Aside0.mk (Kd.V_below (by (with_reducible repeat (first | apply Kd.V_alloc | apply Kd.V_drewN | apply Kd.V_drew)); exact (Kd.V_mono (Kd.V_far (p := ⟨gb1489, 2, none⟩) (Kd.V_far (p := ⟨gb1489, 1, none⟩) (Kd.V_far (p := ⟨gb1489, 0, none⟩) (Kd.V_mono HO0_2.out (fun k_ hk => (⟨hk, hk.1.2⟩ : _ ∧ k_ ≠ gb1489))) (fun _ hk => hk.2) (.bool t1491)) (fun _ hk => hk.2) (.slice Ao11 t1492.length co11)) (fun _ hk => hk.2) (.slice Ao12 t1495.length co12)) (fun _ h_ => h_.1))) hb); replace HO1494 := Aside0.mk (Kd.V_below (by (with_reducible repeat (first | apply Kd.V_alloc | apply Kd.V_drewN | apply Kd.V_drew)); exact (Kd.V_mono (Kd.V_far (p := ⟨gb1489, 2, none⟩) (Kd.V_far (p := ⟨gb1489, 1, none⟩) (Kd.V_far (p := ⟨gb1489, 0, none⟩) (Kd.V_mono HO1494.out (fun k_ hk => (⟨hk, hk.2.1⟩ : _ ∧ k_ ≠ gb1489))) (fun _ hk => hk.2) (.bool t1491)) (fun _ hk => hk.2) (.slice Ao11 t1492.length co11)) (fun _ hk => hk.2) (.slice Ao12 t1495.length co12)) (fun _ h_ => h_.1))) hb); replace HO1497 := Aside0.mk (Kd.V_below (by (with_reducible repeat (first | apply Kd.V_alloc | apply Kd.V_drewN | apply Kd.V_drew)); exact (Kd.V_mono (Kd.V_far (p := ⟨gb1489, 2, none⟩) (Kd.V_far (p := ⟨gb1489, 1, none⟩) (Kd.V_far (p := ⟨gb1489, 0, none⟩) (Kd.V_mono HO1497.out (fun k_ hk => (⟨hk, hk.2.1⟩ : _ ∧ k_ ≠ gb1489))) (fun _ hk => hk.2) (.bool t1491)) (fun _ hk => hk.2) (.slice Ao11 t1492.length co11)) (fun _ hk => hk.2) (.slice Ao12 t1495.length co12)) (fun _ h_ => h_.1))) hb); replace BK1489 := Aside0.mk (blk_below (g := gb1489) (o := .cells #[.bool t1491, .slice Ao11 t1492.length co11, .slice Ao12 t1495.length co12] 67 (0, 0)) (by (with_reducible repeat (first | refine blk_drewN ?_ _ | refine blk_drew ?_ | refine blk_alloc ?_ _)); refine blk_put (cs := #[.bool t1491, .slice Ao11 t1492.length co11, .slice A0_2 l0_2.length c0_2]) ?_ 2 _ rfl; (with_reducible repeat (first | refine blk_drewN ?_ _ | refine blk_drew ?_ | refine blk_alloc ?_ _)); refine blk_put (cs := #[.bool t1491, .slice A0_1 l0_1.length c0_1, .slice A0_2 l0_2.length c0_2]) ?_ 1 _ rfl; (with_reducible repeat (first | refine blk_drewN ?_ _ | refine blk_drew ?_ | refine blk_alloc ?_ _)); refine blk_put (cs := #[.bool a0_0, .slice A0_1 l0_1.length c0_1, .slice A0_2 l0_2.length c0_2]) ?_ 0 _ rfl; (with_reducible repeat (first | refine blk_drewN ?_ _ | refine blk_drew ?_ | refine blk_alloc ?_ _)); exact BK1489.out) hb); replace BK1490 := Aside0.mk (blk_below (g := gb1490) (o := .cells #[.bool false, .slice none 0 0, .slice none 0 0] 67 (0, 0)) (kf NB1490_1489.out BK1490.out) hb); replace HB := Aside0.mk (below_step (bu2 HB.out GE1489.out GE1490.out) hb); (try clear hb); (try clear hb2); (try clear hk); (try clear hi); have hcz23_0 : w22.cell? ⟨gb1489, 0, none⟩ = some (.bool t1491) := bc BK1489 0; have hcz23_1 : w22.cell? ⟨gb1489, 1, none⟩ = some (.slice Ao11 t1492.length co11) := bc BK1489 1; have hcz23_2 : w22.cell? ⟨gb1489, 2, none⟩ = some (.slice Ao12 t1495.length co12) := bc BK1489 2; have hfz23_0 := blk_frozen BK1489.out 0; have hfz23_1 := blk_frozen BK1489.out 1; have hfz23_2 := blk_frozen BK1489.out 2))
    go_meet
    case rel => exact ⟨_, (t1495), (t1492), (false), (.slice Ao12 t1495.length co12), (.slice Ao11 t1492.length co11), H', ⟨by first | omega | exact Nat.le_refl _⟩, ⟨by exact vf HO1497.out⟩, ⟨by exact vf HO1494.out⟩, ⟨by (with_reducible repeat (first | refine blk_drewN ?_ _ | refine blk_drew ?_ | refine blk_alloc ?_ _)); refine blk_put (cs := #[.bool t1491, .slice Ao12 t1495.length co12, .slice Ao12 t1495.length co12]) ?_ 2 _ rfl; (with_reducible repeat (first | refine blk_drewN ?_ _ | refine blk_drew ?_ | refine blk_alloc ?_ _)); refine blk_put (cs := #[.bool t1491, .slice Ao11 t1492.length co11, .slice Ao12 t1495.length co12]) ?_ 1 _ rfl; (with_reducible repeat (first | refine blk_drewN ?_ _ | refine blk_drew ?_ | refine blk_alloc ?_ _)); exact BK1489.out⟩, ⟨by (with_reducible repeat (first | refine blk_drewN ?_ _ | refine blk_drew ?_ | refine blk_alloc ?_ _)); refine blk_far ?_ NB1490_1489.out _; (with_reducible repeat (first | refine blk_drewN ?_ _ | refine blk_drew ?_ | refine blk_alloc ?_ _)); refine blk_far ?_ NB1490_1489.out _; (with_reducible repeat (first | refine blk_drewN ?_ _ | refine blk_drew ?_ | refine blk_alloc ?_ _)); exact BK1490.out⟩, ⟨by repeat (first | (with_reducible first | exact HB.out | apply below_alloc | apply pw_below_drewN | apply below_drew1 | refine below_set ?_ GE1489.out | refine below_set ?_ GE1490.out) | exact HB.out)⟩⟩
  ·
   rw [if_neg c13] at H
   have c13b0 : decide (a1 < 0) = false := decide_eq_false c13
   clear c13
   (first | rw [c13b0] | rw [c13b1] | (simp only [i64_w, i32_w]; rw [c13b0]) | skip)
   have H' := Aside0.mk H
   clear H
   go_wp2
   go_meet
   case rel => exact ⟨_, (t1492), (t1495), (false), (.slice Ao11 t1492.length co11), (.slice Ao12 t1495.length co12), H', ⟨by first | omega | exact Nat.le_refl _⟩, ⟨by exact vf HO1494.out⟩, ⟨by exact vf HO1497.out⟩, ⟨by (with_reducible repeat (first | refine blk_drewN ?_ _ | refine blk_drew ?_ | refine blk_alloc ?_ _)); refine blk_put (cs := #[.bool t1491, .slice Ao11 t1492.length co11, .slice A0_2 l0_2.length c0_2]) ?_ 2 _ rfl; (with_reducible repeat (first | refine blk_drewN ?_ _ | refine blk_drew ?_ | refine blk_alloc ?_ _)); refine blk_put (cs := #[.bool t1491, .slice A0_1 l0_1.length c0_1, .slice A0_2 l0_2.length c0_2]) ?_ 1 _ rfl; (with_reducible repeat (first | refine blk_drewN ?_ _ | refine blk_drew ?_ | refine blk_alloc ?_ _)); refine blk_put (cs := #[.bool a0_0, .slice A0_1 l0_1.length c0_1, .slice A0_2 l0_2.length c0_2]) ?_ 0 _ rfl; (with_reducible repeat (first | refine blk_drewN ?_ _ | refine blk_drew ?_ | refine blk_alloc ?_ _)); exact BK1489.out⟩, ⟨by (with_reducible repeat (first | refine blk_drewN ?_ _ | refine blk_drew ?_ | refine blk_alloc ?_ _)); refine blk_far ?_ NB1490_1489.out _; (with_reducible repeat (first | refine blk_drewN ?_ _ | refine blk_drew ?_ | refine blk_alloc ?_ _)); refine blk_far ?_ NB1490_1489.out _; (with_reducible repeat (first | refine blk_drewN ?_ _ | refine blk_drew ?_ | refine blk_alloc ?_ _)); refine blk_far ?_ NB1490_1489.out _; (with_reducible repeat (first | refine blk_drewN ?_ _ | refine blk_drew ?_ | refine blk_alloc ?_ _)); exact BK1490.out⟩, ⟨by repeat (first | (with_reducible first | exact HB.out | apply below_alloc | apply pw_below_drewN | apply below_drew1 | refine below_set ?_ GE1489.out | refine below_set ?_ GE1490.out) | exact HB.out)⟩⟩
 case rest =>
  clear HC4
  try clear c1
  try clear c2
  try clear p2
  try clear c7
  try clear c8
  try clear c9
  try clear c13
  try clear c13b0
  try clear c13b1
  try clear c15
  try clear c15b0
  try clear c15b1
  try clear c16
  try clear c20
  try clear hcz10_0
  try clear hcz10_1
  try clear hcz10_2
  try clear hcz17_0
  try clear hcz17_1
  try clear hcz17_2
  try clear hcz19_0
  try clear hcz19_1
  try clear hcz19_2
  try clear hcz21_0
  try clear hcz21_1
  try clear hcz21_2
  try clear hcz23_0
  try clear hcz23_1
  try clear hcz23_2
  try clear hcz8_0
  try clear hcz8_1
  try clear hcz8_2
  try clear hfz10_0
  try clear hfz10_1
  try clear hfz10_2
  try clear hfz17_0
  try clear hfz17_1
  try clear hfz17_2
  try clear hfz19_0
  try clear hfz19_1
  try clear hfz19_2
  try clear hfz21_0
  try clear hfz21_1
  try clear hfz21_2
  try clear hfz23_0
  try clear hfz23_1
  try clear hfz23_2
  try clear hfz8_0
  try clear hfz8_1
  try clear hfz8_2
  obtain ⟨kq, x1490001_3, x1490002_3, x1491000_3, u1490001, u1490002, HA, HJ3, HO_1490001, HO_1490002, BK1489, BK1490, HB⟩ := hcut
  cases kq with
  | zero => exact absurd HA.out (by simp [rational_Pow.j0])
  | succ kj3 =>
   have H := HA.out
   clear HA
   simp only [rational_Pow.j0] at H
   have HC24 := Aside0.mk H
   clear H
   go_upto_if 28 with (fail)
   go_cut [1] (fun v1 wc => ∃ (kq : Nat) (x1_23 : Int) (x1491000_23 : Bool), v1 = .int .i64 x1_23 ∧ Aside0 (rational_Pow.j2 kq x1_23 ((Int.tmod a1 2) != 0) t1491 x1490001_3 x1490002_3 = some (r1, r2, r3, r4)) ∧ Aside0 (kq ≤ kj3) ∧ Aside0 (Kd.V (Kd.int .u32) 48 wc w.heap.size (fun k_ => ((P0_1_ k_ ∨ P0_2_ k_) ∨ w.heap.size ≤ k_) ∧ k_ ≠ gb1489 ∧ k_ ≠ gb1490) u1490001 x1490001_3) ∧ Aside0 (Kd.V (Kd.int .u32) 48 wc w.heap.size (fun k_ => ((P0_1_ k_ ∨ P0_2_ k_) ∨ w.heap.size ≤ k_) ∧ k_ ≠ gb1489 ∧ k_ ≠ gb1490) u1490002 x1490002_3) ∧ Aside0 (wc.heap[gb1489]? = some (.cells #[.bool t1491, u1490001, u1490002] 67 (0, 0))) ∧ Aside0 (wc.heap[gb1490]? = some (.cells #[.bool x1491000_23, (.slice none 0 0), (.slice none 0 0)] 67 (0, 0))) ∧ Aside0 (Below w.heap.size w wc))
   case first =>
    have H := HC24.out
    clear HC24
    by_cases c25 : a1 = (-9223372036854775808)
    ·
     rw [if_pos c25] at H
     have c25b0 : (a1 == (-9223372036854775808)) = true := beq_iff_eq.mpr c25
     have c25b1 : (a1 != (-9223372036854775808)) = false := bne_eq_false_iff_eq.mpr c25
     clear c25
     (first | rw [c25b0] | rw [c25b1] | (simp only [i64_w, i32_w]; rw [c25b0]) | skip)
     have HC26 := Aside0.mk H
     clear H
     go_upto_region 9 with (fail)
     go_cut [40] (fun v40 wc => ∃ (kq : Nat) (x40_25 : Bool), v40 = .bool x40_25 ∧ Aside0 (rational_Pow.j1 kq (wrap64 (a1 + 1)) ((Int.tmod a1 2) != 0) x40_25 t1491 x1490001_3 x1490002_3 = some (r1, r2, r3, r4)) ∧ Aside0 (kq ≤ kj3) ∧ Aside0 (Kd.V (Kd.int .u32) 48 wc w.heap.size (fun k_ => ((P0_1_ k_ ∨ P0_2_ k_) ∨ w.heap.size ≤ k_) ∧ k_ ≠ gb1489 ∧ k_ ≠ gb1490) u1490001 x1490001_3) ∧ Aside0 (Kd.V (Kd.int .u32) 48 wc w.heap.size (fun k_ => ((P0_1_ k_ ∨ P0_2_ k_) ∨ w.heap.size ≤ k_) ∧ k_ ≠ gb1489 ∧ k_ ≠ gb1490) u1490002 x1490002_3) ∧ Aside0 (wc.heap[gb1489]? = some (.cells #[.bool t1491, u1490001, u1490002] 67 (0, 0))) ∧ Aside0 (wc.heap[gb1490]? = some (.cells #[.bool x1491000_3, (.slice none 0 0), (.slice none 0 0)] 67 (0, 0))) ∧ Aside0 (Below w.heap.size w wc))
     case first =>
      have H := HC26.out
      clear HC26
      replace H := Option.bind_eq_some_iff.mp H
      obtain ⟨t1499, A270, H⟩ := H
      replace H : (if t1499 = 1 then ((nat_Bits.f kj3 x1490002_3).bind fun t1500 => (rational_Pow.j1 kj3 (wrap64 (a1 + 1)) ((Int.tmod a1 2) != 0) (t1500 == 1) t1491 x1490001_3 x1490002_3)) else (rational_Pow.j1 kj3 (wrap64 (a1 + 1)) ((Int.tmod a1 2) != 0) false t1491 x1490001_3 x1490002_3)) = some (r1, r2, r3, r4) := H
      have A27 := Aside0.mk A270
      clear A270
      by_cases c28 : t1499 = 1
      ·
       rw [if_pos c28] at H
       have c28b0 : (t1499 == 1) = true := beq_iff_eq.mpr c28
       have c28b1 : (t1499 != 1) = false := bne_eq_false_iff_eq.mpr c28
       clear c28
       (first | rw [c28b0] | rw [c28b1] | (simp only [i64_w, i32_w]; rw [c28b0]) | skip)
       replace H := Option.bind_eq_some_iff.mp H
       obtain ⟨t1500, A290, H⟩ := H
       replace H : (rational_Pow.j1 kj3 (wrap64 (a1 + 1)) ((Int.tmod a1 2) != 0) (t1500 == 1) t1491 x1490001_3 x1490002_3) = some (r1, r2, r3, r4) := H
       have A29 := Aside0.mk A290
       clear A290
       have H' := Aside0.mk H
       clear H
       have hnb30 := NB1489_1490.out
       have hnc30 := NB1490_1489.out
       have hcz31_0 : wc.cell? ⟨gb1489, 0, none⟩ = some (.bool t1491) := bc BK1489 0
       have hcz31_1 : wc.cell? ⟨gb1489, 1, none⟩ = some (u1490001) := bc BK1489 1
       have hcz31_2 : wc.cell? ⟨gb1489, 2, none⟩ = some (u1490002) := bc BK1489 2
       have hfz31_0 := blk_frozen BK1489.out 0
       have hfz31_1 := blk_frozen BK1489.out 1
       have hfz31_2 := blk_frozen BK1489.out 2
       obtain ⟨Ao32, co32, eo32⟩ := Kd.V_slice HO_1490001.out
       subst eo32
       go_wp2_with (first | ((with_reducible refine gate_callee (f := 154) rfl ?_); refine goesL_ (some 33) rfl rfl Try.func154 (by kernel_rfl) rfl #[.slice Ao32 x1490001_3.length co32] rfl lu ?_; (with_reducible refine (nat_Bits.calls kj3 _ _ x1490001_3 t1499 _ ?side1 ?side2 A27.out).mono ?_); (case side1 => exact cu (Kd.V_reads' HO_1490001.out).2.2); (case side2 => exact (Kd.V_reads' HO_1490001.out).2.1); rintro e w33 ⟨rfl, hb⟩; refine ⟨_, rfl, ?_⟩; replace HO_1490001 := kv HO_1490001 hb; replace HO_1490002 := kv HO_1490002 hb; replace BK1489 := kb BK1489 hb; replace BK1490 := kb BK1490 hb; replace HB := Aside0.mk (below_step (bu2 HB.out GE1489.out GE1490.out) hb); (try clear hb); (try clear hb2); (try clear hk); (try clear hi); have hcz34_0 : w33.cell? ⟨gb1489, 0, none⟩ = some (.bool t1491) := bc BK1489 0; have hcz34_1 : w33.cell? ⟨gb1489, 1, none⟩ = some (.slice Ao32 x1490001_3.length co32) := bc BK1489 1; have hcz34_2 : w33.cell? ⟨gb1489, 2, none⟩ = some (u1490002) := bc BK1489 2; have hfz34_0 := blk_frozen BK1489.out 0; have hfz34_1 := blk_frozen BK1489.out 1; have hfz34_2 := blk_frozen BK1489.out 2; obtain ⟨Ao35, co35, eo35⟩ := Kd.V_slice HO_1490002.out; subst eo35) | (go_at_call 154; (with_reducible refine (nat_Bits.calls kj3 _ _ x1490002_3 t1500 _ ?side1 ?side2 A29.out).mono ?_); (case side1 => exact cu (Kd.V_reads' HO_1490002.out).2.2); (case side2 => exact (Kd.V_reads' HO_1490002.out).2.1); rintro e w36 ⟨rfl, hb⟩; replace HO_1490001 := kv HO_1490001 hb; replace HO_1490002 := kv HO_1490002 hb; replace BK1489 := kb BK1489 hb; replace BK1490 := kb BK1490 hb; replace HB := Aside0.mk (below_step (bu2 HB.out GE1489.out GE1490.out) hb); (try clear hb); (try clear hb2); (try clear hk); (try clear hi)))
       go_meet
       case rel => exact ⟨_, ((t1500 == 1)), (by first | rfl | (simp; done) | (simp [*]; done) | (cases t1500 <;> first | rfl | (simp; done))), H', ⟨by have := HJ3.out; first | omega | exact Nat.le_refl _⟩, ⟨by (with_reducible repeat (first | apply Kd.V_alloc | apply Kd.V_drewN | apply Kd.V_drew)); exact HO_1490001.out⟩, ⟨by (with_reducible repeat (first | apply Kd.V_alloc | apply Kd.V_drewN | apply Kd.V_drew)); exact HO_1490002.out⟩, ⟨by (with_reducible repeat (first | refine blk_drewN ?_ _ | refine blk_drew ?_ | refine blk_alloc ?_ _)); exact BK1489.out⟩, ⟨by (with_reducible repeat (first | refine blk_drewN ?_ _ | refine blk_drew ?_ | refine blk_alloc ?_ _)); exact BK1490.out⟩, ⟨by repeat (first | (with_reducible first | exact HB.out | apply below_alloc | apply pw_below_drewN | apply below_drew1 | refine below_set ?_ GE1489.out | refine below_set ?_ GE1490.out) | exact HB.out)⟩⟩
      ·
       rw [if_neg c28] at H
       have c28b0 : (t1499 == 1) = false := beq_eq_false_iff_ne.mpr c28
       have c28b1 : (t1499 != 1) = true := bne_iff_ne.mpr c28
       (first | rw [c28b0] | rw [c28b1] | (simp only [i64_w, i32_w]; rw [c28b0]) | skip)
       have H' := Aside0.mk H
       clear H
       have hnb37 := NB1489_1490.out
       have hnc37 := NB1490_1489.out
       have hcz38_0 : wc.cell? ⟨gb1489, 0, none⟩ = some (.bool t1491) := bc BK1489 0
       have hcz38_1 : wc.cell? ⟨gb1489, 1, none⟩ = some (u1490001) := bc BK1489 1
       have hcz38_2 : wc.cell? ⟨gb1489, 2, none⟩ = some (u1490002) := bc BK1489 2
       have hfz38_0 := blk_frozen BK1489.out 0
       have hfz38_1 := blk_frozen BK1489.out 1
       have hfz38_2 := blk_frozen BK1489.out 2
       obtain ⟨Ao39, co39, eo39⟩ := Kd.V_slice HO_1490001.out
       subst eo39
       go_wp2_with (first | ((with_reducible refine gate_callee (f := 154) rfl ?_); refine goesL_ (some 33) rfl rfl Try.func154 (by kernel_rfl) rfl #[.slice Ao39 x1490001_3.length co39] rfl lu ?_; (with_reducible refine (nat_Bits.calls kj3 _ _ x1490001_3 t1499 _ ?side1 ?side2 A27.out).mono ?_); (case side1 => exact cu (Kd.V_reads' HO_1490001.out).2.2); (case side2 => exact (Kd.V_reads' HO_1490001.out).2.1); rintro e w40 ⟨rfl, hb⟩; refine ⟨_, rfl, ?_⟩; replace HO_1490001 := kv HO_1490001 hb; replace HO_1490002 := kv HO_1490002 hb; replace BK1489 := kb BK1489 hb; replace BK1490 := kb BK1490 hb; replace HB := Aside0.mk (below_step (bu2 HB.out GE1489.out GE1490.out) hb); (try clear hb); (try clear hb2); (try clear hk); (try clear hi)))
       go_meet
       case rel => exact ⟨_, (false), (by first | rfl | (simp; done) | (simp [*]; done)), H', ⟨by have := HJ3.out; first | omega | exact Nat.le_refl _⟩, ⟨by (with_reducible repeat (first | apply Kd.V_alloc | apply Kd.V_drewN | apply Kd.V_drew)); exact HO_1490001.out⟩, ⟨by (with_reducible repeat (first | apply Kd.V_alloc | apply Kd.V_drewN | apply Kd.V_drew)); exact HO_1490002.out⟩, ⟨by (with_reducible repeat (first | refine blk_drewN ?_ _ | refine blk_drew ?_ | refine blk_alloc ?_ _)); exact BK1489.out⟩, ⟨by (with_reducible repeat (first | refine blk_drewN ?_ _ | refine blk_drew ?_ | refine blk_alloc ?_ _)); exact BK1490.out⟩, ⟨by repeat (first | (with_reducible first | exact HB.out | apply below_alloc | apply pw_below_drewN | apply below_drew1 | refine below_set ?_ GE1489.out | refine below_set ?_ GE1490.out) | exact HB.out)⟩⟩
     case rest =>
      clear HC26
      try clear c1
      try clear c2
      try clear p2
      try clear c3
      try clear p6
      try clear c7
      try clear c8
      try clear c9
      try clear c13
      try clear c13b0
      try clear c13b1
      try clear c15
      try clear c15b0
      try clear c15b1
      try clear c16
      try clear c20
      try clear c25
      try clear c25b0
      try clear c25b1
      try clear c28
      try clear c28b0
      try clear c28b1
      try clear c30
      try clear c37
      try clear hcz10_0
      try clear hcz10_1
      try clear hcz10_2
      try clear hcz17_0
      try clear hcz17_1
      try clear hcz17_2
      try clear hcz19_0
      try clear hcz19_1
      try clear hcz19_2
      try clear hcz21_0
      try clear hcz21_1
      try clear hcz21_2
      try clear hcz23_0
      try clear hcz23_1
      try clear hcz23_2
      try clear hcz31_0
      try clear hcz31_1
      try clear hcz31_2
      try clear hcz34_0
      try clear hcz34_1
      try clear hcz34_2
      try clear hcz38_0
      try clear hcz38_1
      try clear hcz38_2
      try clear hcz8_0
      try clear hcz8_1
      try clear hcz8_2
      try clear hfz10_0
      try clear hfz10_1
      try clear hfz10_2
      try clear hfz17_0
      try clear hfz17_1
      try clear hfz17_2
      try clear hfz19_0
      try clear hfz19_1
      try clear hfz19_2
      try clear hfz21_0
      try clear hfz21_1
      try clear hfz21_2
      try clear hfz23_0
      try clear hfz23_1
      try clear hfz23_2
      try clear hfz31_0
      try clear hfz31_1
      try clear hfz31_2
      try clear hfz34_0
      try clear hfz34_1
      try clear hfz34_2
      try clear hfz38_0
      try clear hfz38_1
      try clear hfz38_2
      try clear hfz8_0
      try clear hfz8_1
      try clear hfz8_2
      try clear p2
      obtain ⟨kq, x40_25, rfl, HA, HJ25, HO_1490001, HO_1490002, BK1489, BK1490, HB⟩ := hcut
      cases kq with
      | zero => exact absurd HA.out (by simp [rational_Pow.j1])
      | succ kj25 =>
       have H := HA.out
       clear HA
       simp only [rational_Pow.j1] at H
       by_cases c41 : x40_25 = true
       ·
        subst c41
        have H1 : ((rational_one.f).bind fun t1501 => ((rational_one.f).bind fun t1504 => (some (false, t1501, t1504, 0)))) = some (r1, r2, r3, r4) := by rw [if_pos rfl] at H; exact H
        clear H
        have H := H1
        clear H1
        replace H := Option.bind_eq_some_iff.mp H
        obtain ⟨t1501, A420, H⟩ := H
        replace H : ((rational_one.f).bind fun t1504 => (some (false, t1501, t1504, 0))) = some (r1, r2, r3, r4) := H
        have A42 := Aside0.mk A420
        clear A420
        replace H := Option.bind_eq_some_iff.mp H
        obtain ⟨t1504, A430, H⟩ := H
        replace H : (some (false, t1501, t1504, 0)) = some (r1, r2, r3, r4) := H
        have A43 := Aside0.mk A430
        clear A430
        simp only [Option.some.injEq, Prod.mk.injEq] at H
        obtain ⟨rfl, rfl, rfl, rfl⟩ := H
        go_wp2_with (first | ((with_reducible refine gate_callee (f := 161) rfl ?_); refine goesL_ (some 41) rfl rfl Try.func161 (by kernel_rfl) rfl #[] rfl lu ?_; (with_reducible refine (rational_one.calls  t1501 _ A42.out).mono ?_); rintro e w44 ⟨v1502, rfl, ho0, hb⟩; refine ⟨_, rfl, ?_⟩; replace ho0 := R_V_base rfl ho0; replace HO_1490001 := kv HO_1490001 hb; replace HO_1490002 := kv HO_1490002 hb; have HO1503 := ar0 w.heap.size (ok' := fun k_ => ((P0_1_ k_ ∨ P0_2_ k_) ∨ w.heap.size ≤ k_) ∧ k_ ≠ gb1489 ∧ k_ ≠ gb1490) ho0 (fa (f0 (below_size (bu2 HB.out GE1489.out GE1490.out))) (fa (fb BK1489) (fb BK1490))); replace BK1489 := kb BK1489 hb; replace BK1490 := kb BK1490 hb; replace HB := Aside0.mk (below_step (bu2 HB.out GE1489.out GE1490.out) hb); (try clear hb); (try clear hb2); (try clear hk); (try clear hi); (try clear ho0)) | ((with_reducible refine gate_callee (f := 161) rfl ?_); refine goesL_ (some 42) rfl rfl Try.func161 (by kernel_rfl) rfl #[] rfl lu ?_; (with_reducible refine (rational_one.calls  t1504 _ A43.out).mono ?_); rintro e w45 ⟨v1505, rfl, ho0, hb⟩; refine ⟨_, rfl, ?_⟩; replace ho0 := R_V_base rfl ho0; replace HO_1490001 := kv HO_1490001 hb; replace HO_1490002 := kv HO_1490002 hb; replace HO1503 := kv HO1503 hb; have HO1506 := ar0 w.heap.size (ok' := fun k_ => ((P0_1_ k_ ∨ P0_2_ k_) ∨ w.heap.size ≤ k_) ∧ k_ ≠ gb1489 ∧ k_ ≠ gb1490) ho0 (fa (f0 (below_size (bu2 HB.out GE1489.out GE1490.out))) (fa (fb BK1489) (fb BK1490))); replace BK1489 := kb BK1489 hb; replace BK1490 := kb BK1490 hb; replace HB := Aside0.mk (below_step (bu2 HB.out GE1489.out GE1490.out) hb); (try clear hb); (try clear hb2); (try clear hk); (try clear hi); (try clear ho0); obtain ⟨Ao46, co46, eo46⟩ := Kd.V_slice HO1506.out; subst eo46; obtain ⟨Ao47, co47, eo47⟩ := Kd.V_slice HO1503.out; subst eo47; have hnb48 := NB1490_1489.out; have hnc48 := NB1489_1490.out; have hcz49_0 : w45.cell? ⟨gb1490, 0, none⟩ = some (.bool x1491000_3) := bc BK1490 0; have hcz49_1 : w45.cell? ⟨gb1490, 1, none⟩ = some (.slice none 0 0) := bc BK1490 1; have hcz49_2 : w45.cell? ⟨gb1490, 2, none⟩ = some (.slice none 0 0) := bc BK1490 2; have hfz49_0 := blk_frozen BK1490.out 0; have hfz49_1 := blk_frozen BK1490.out 1; have hfz49_2 := blk_frozen BK1490.out 2))
        refine bodyPost_ret (results_ct rfl _ _ gb1490 67 #[.bool false, .slice Ao47 t1501.length co47, .slice Ao46 t1504.length co46] (0, 0) _ rfl (by (with_reducible repeat (first | refine blk_drewN ?_ _ | refine blk_drew ?_ | refine blk_alloc ?_ _)); refine blk_put (cs := #[.bool false, .slice Ao47 t1501.length co47, .slice none 0 0]) ?_ 2 _ rfl; (with_reducible repeat (first | refine blk_drewN ?_ _ | refine blk_drew ?_ | refine blk_alloc ?_ _)); refine blk_put (cs := #[.bool false, .slice none 0 0, .slice none 0 0]) ?_ 1 _ rfl; (with_reducible repeat (first | refine blk_drewN ?_ _ | refine blk_drew ?_ | refine blk_alloc ?_ _)); refine blk_put (cs := #[.bool x1491000_3, .slice none 0 0, .slice none 0 0]) ?_ 0 _ rfl; (with_reducible repeat (first | refine blk_drewN ?_ _ | refine blk_drew ?_ | refine blk_alloc ?_ _)); exact BK1490.out) Try.underlying67 rfl (by kernel_rfl)) rfl ?_
        exact ⟨_, _, by first | rfl | (simp [errW_none, errW_some] <;> rfl) | (simp [*, errW_none, errW_some] <;> rfl), by exact vf HO1503.out, by exact vf HO1506.out, by repeat (first | (with_reducible first | exact HB.out | apply below_alloc | apply pw_below_drewN | apply below_drew1 | refine below_set ?_ GE1489.out | refine below_set ?_ GE1490.out) | exact HB.out)⟩
       ·
        replace c41 := Bool.eq_false_iff.mpr c41
        subst c41
        have H1 : (rational_Pow.j2 kj25 (wrap64 (a1 + 1)) ((Int.tmod a1 2) != 0) t1491 x1490001_3 x1490002_3) = some (r1, r2, r3, r4) := by rw [if_neg (show ¬ (false = true) by decide)] at H; exact H
        clear H
        have H := H1
        clear H1
        have H' := Aside0.mk H
        clear H
        go_wp2
        go_meet
        case rel => exact ⟨_, ((wrap64 (a1 + 1))), (x1491000_3), (by first | rfl | (simp; done) | (simp [*]; done)), H', ⟨by have := HJ3.out; have := HJ25.out; first | omega | exact Nat.le_refl _⟩, ⟨by (with_reducible repeat (first | apply Kd.V_alloc | apply Kd.V_drewN | apply Kd.V_drew)); exact HO_1490001.out⟩, ⟨by (with_reducible repeat (first | apply Kd.V_alloc | apply Kd.V_drewN | apply Kd.V_drew)); exact HO_1490002.out⟩, ⟨by (with_reducible repeat (first | refine blk_drewN ?_ _ | refine blk_drew ?_ | refine blk_alloc ?_ _)); exact BK1489.out⟩, ⟨by (with_reducible repeat (first | refine blk_drewN ?_ _ | refine blk_drew ?_ | refine blk_alloc ?_ _)); exact BK1490.out⟩, ⟨by repeat (first | (with_reducible first | exact HB.out | apply below_alloc | apply pw_below_drewN | apply below_drew1 | refine below_set ?_ GE1489.out | refine below_set ?_ GE1490.out) | exact HB.out)⟩⟩
    ·
     rw [if_neg c25] at H
     have c25b0 : (a1 == (-9223372036854775808)) = false := beq_eq_false_iff_ne.mpr c25
     have c25b1 : (a1 != (-9223372036854775808)) = true := bne_iff_ne.mpr c25
     (first | rw [c25b0] | rw [c25b1] | (simp only [i64_w, i32_w]; rw [c25b0]) | skip)
     have H' := Aside0.mk H
     clear H
     go_wp2
     go_meet
     case rel => exact ⟨_, (a1), (x1491000_3), (by first | rfl | (simp; done) | (simp [*]; done)), H', ⟨by have := HJ3.out; first | omega | exact Nat.le_refl _⟩, ⟨by (with_reducible repeat (first | apply Kd.V_alloc | apply Kd.V_drewN | apply Kd.V_drew)); exact HO_1490001.out⟩, ⟨by (with_reducible repeat (first | apply Kd.V_alloc | apply Kd.V_drewN | apply Kd.V_drew)); exact HO_1490002.out⟩, ⟨by (with_reducible repeat (first | refine blk_drewN ?_ _ | refine blk_drew ?_ | refine blk_alloc ?_ _)); exact BK1489.out⟩, ⟨by (with_reducible repeat (first | refine blk_drewN ?_ _ | refine blk_drew ?_ | refine blk_alloc ?_ _)); exact BK1490.out⟩, ⟨by repeat (first | (with_reducible first | exact HB.out | apply below_alloc | apply pw_below_drewN | apply below_drew1 | refine below_set ?_ GE1489.out | refine below_set ?_ GE1490.out) | exact HB.out)⟩⟩
   case rest =>
    clear HC24
    try clear c1
    try clear c2
    try clear p2
    try clear c3
    try clear c4
    try clear p6
    try clear c7
    try clear c8
    try clear c9
    try clear c13
    try clear c13b0
    try clear c13b1
    try clear c15
    try clear c15b0
    try clear c15b1
    try clear c16
    try clear c20
    try clear c25
    try clear c25b0
    try clear c25b1
    try clear c28
    try clear c28b0
    try clear c28b1
    try clear c30
    try clear c37
    try clear c41
    try clear c48
    try clear hcz10_0
    try clear hcz10_1
    try clear hcz10_2
    try clear hcz17_0
    try clear hcz17_1
    try clear hcz17_2
    try clear hcz19_0
    try clear hcz19_1
    try clear hcz19_2
    try clear hcz21_0
    try clear hcz21_1
    try clear hcz21_2
    try clear hcz23_0
    try clear hcz23_1
    try clear hcz23_2
    try clear hcz31_0
    try clear hcz31_1
    try clear hcz31_2
    try clear hcz34_0
    try clear hcz34_1
    try clear hcz34_2
    try clear hcz38_0
    try clear hcz38_1
    try clear hcz38_2
    try clear hcz49_0
    try clear hcz49_1
    try clear hcz49_2
    try clear hcz8_0
    try clear hcz8_1
    try clear hcz8_2
    try clear hfz10_0
    try clear hfz10_1
    try clear hfz10_2
    try clear hfz17_0
    try clear hfz17_1
    try clear hfz17_2
    try clear hfz19_0
    try clear hfz19_1
    try clear hfz19_2
    try clear hfz21_0
    try clear hfz21_1
    try clear hfz21_2
    try clear hfz23_0
    try clear hfz23_1
    try clear hfz23_2
    try clear hfz31_0
    try clear hfz31_1
    try clear hfz31_2
    try clear hfz34_0
    try clear hfz34_1
    try clear hfz34_2
    try clear hfz38_0
    try clear hfz38_1
    try clear hfz38_2
    try clear hfz49_0
    try clear hfz49_1
    try clear hfz49_2
    try clear hfz8_0
    try clear hfz8_1
    try clear hfz8_2
    try clear p2
    try clear p6
    obtain ⟨kq, x1_23, x1491000_23, rfl, HA, HJ23, HO_1490001, HO_1490002, BK1489, BK1490, HB⟩ := hcut
    cases kq with
    | zero => exact absurd HA.out (by simp [rational_Pow.j2])
    | succ kj23 =>
     have H := HA.out
     clear HA
     simp only [rational_Pow.j2] at H
     have HC50 := Aside0.mk H
     clear H
     go_upto_if 45 with (fail)
     go_cut [1] (fun v1 wc => ∃ (kq : Nat) (x1_49 : Int), v1 = .int .i64 x1_49 ∧ Aside0 (rational_Pow.j3 kq x1_49 ((Int.tmod a1 2) != 0) t1491 x1490001_3 x1490002_3 = some (r1, r2, r3, r4)) ∧ Aside0 (kq ≤ kj23) ∧ Aside0 (Kd.V (Kd.int .u32) 48 wc w.heap.size (fun k_ => ((P0_1_ k_ ∨ P0_2_ k_) ∨ w.heap.size ≤ k_) ∧ k_ ≠ gb1489 ∧ k_ ≠ gb1490) u1490001 x1490001_3) ∧ Aside0 (Kd.V (Kd.int .u32) 48 wc w.heap.size (fun k_ => ((P0_1_ k_ ∨ P0_2_ k_) ∨ w.heap.size ≤ k_) ∧ k_ ≠ gb1489 ∧ k_ ≠ gb1490) u1490002 x1490002_3) ∧ Aside0 (wc.heap[gb1489]? = some (.cells #[.bool t1491, u1490001, u1490002] 67 (0, 0))) ∧ Aside0 (wc.heap[gb1490]? = some (.cells #[.bool x1491000_23, (.slice none 0 0), (.slice none 0 0)] 67 (0, 0))) ∧ Aside0 (Below w.heap.size w wc))
     case first =>
      have H := HC50.out
      clear HC50
      by_cases c51 : x1_23 < 0
      ·
       rw [if_pos c51] at H
       have c51b0 : decide (x1_23 < 0) = true := decide_eq_true c51
       clear c51
       (first | rw [c51b0] | rw [c51b1] | (simp only [i64_w, i32_w]; rw [c51b0]) | skip)
       have H' := Aside0.mk H
       clear H
       go_wp2
       go_meet
       case rel => exact ⟨_, (wrap64 (-x1_23)), (by first | rfl | (simp; done) | (simp [*]; done)), H', ⟨by have := HJ3.out; have := HJ23.out; first | omega | exact Nat.le_refl _⟩, ⟨by (with_reducible repeat (first | apply Kd.V_alloc | apply Kd.V_drewN | apply Kd.V_drew)); exact HO_1490001.out⟩, ⟨by (with_reducible repeat (first | apply Kd.V_alloc | apply Kd.V_drewN | apply Kd.V_drew)); exact HO_1490002.out⟩, ⟨by (with_reducible repeat (first | refine blk_drewN ?_ _ | refine blk_drew ?_ | refine blk_alloc ?_ _)); exact BK1489.out⟩, ⟨by (with_reducible repeat (first | refine blk_drewN ?_ _ | refine blk_drew ?_ | refine blk_alloc ?_ _)); exact BK1490.out⟩, ⟨by repeat (first | (with_reducible first | exact HB.out | apply below_alloc | apply pw_below_drewN | apply below_drew1 | refine below_set ?_ GE1489.out | refine below_set ?_ GE1490.out) | exact HB.out)⟩⟩
      ·
       rw [if_neg c51] at H
       have c51b0 : decide (x1_23 < 0) = false := decide_eq_false c51
       clear c51
       (first | rw [c51b0] | rw [c51b1] | (simp only [i64_w, i32_w]; rw [c51b0]) | skip)
       have H' := Aside0.mk H
       clear H
       go_wp2
       go_meet
       case rel => exact ⟨_, (x1_23), (by first | rfl | (simp; done) | (simp [*]; done)), H', ⟨by have := HJ3.out; have := HJ23.out; first | omega | exact Nat.le_refl _⟩, ⟨by (with_reducible repeat (first | apply Kd.V_alloc | apply Kd.V_drewN | apply Kd.V_drew)); exact HO_1490001.out⟩, ⟨by (with_reducible repeat (first | apply Kd.V_alloc | apply Kd.V_drewN | apply Kd.V_drew)); exact HO_1490002.out⟩, ⟨by (with_reducible repeat (first | refine blk_drewN ?_ _ | refine blk_drew ?_ | refine blk_alloc ?_ _)); exact BK1489.out⟩, ⟨by (with_reducible repeat (first | refine blk_drewN ?_ _ | refine blk_drew ?_ | refine blk_alloc ?_ _)); exact BK1490.out⟩, ⟨by repeat (first | (with_reducible first | exact HB.out | apply below_alloc | apply pw_below_drewN | apply below_drew1 | refine below_set ?_ GE1489.out | refine below_set ?_ GE1490.out) | exact HB.out)⟩⟩
     case rest =>
      clear HC50
      try clear c1
      try clear c2
      try clear p2
      try clear c3
      try clear c4
      try clear c5
      try clear p6
      try clear c7
      try clear c8
      try clear c9
      try clear c13
      try clear c13b0
      try clear c13b1
      try clear c15
      try clear c15b0
      try clear c15b1
      try clear c16
      try clear c20
      try clear c25
      try clear c25b0
      try clear c25b1
      try clear c28
      try clear c28b0
      try clear c28b1
      try clear c30
      try clear c37
      try clear c41
      try clear c48
      try clear c51
      try clear c51b0
      try clear c51b1
      try clear hcz10_0
      try clear hcz10_1
      try clear hcz10_2
      try clear hcz17_0
      try clear hcz17_1
      try clear hcz17_2
      try clear hcz19_0
      try clear hcz19_1
      try clear hcz19_2
      try clear hcz21_0
      try clear hcz21_1
      try clear hcz21_2
      try clear hcz23_0
      try clear hcz23_1
      try clear hcz23_2
      try clear hcz31_0
      try clear hcz31_1
      try clear hcz31_2
      try clear hcz34_0
      try clear hcz34_1
      try clear hcz34_2
      try clear hcz38_0
      try clear hcz38_1
      try clear hcz38_2
      try clear hcz49_0
      try clear hcz49_1
      try clear hcz49_2
      try clear hcz8_0
      try clear hcz8_1
      try clear hcz8_2
      try clear hfz10_0
      try clear hfz10_1
      try clear hfz10_2
      try clear hfz17_0
      try clear hfz17_1
      try clear hfz17_2
      try clear hfz19_0
      try clear hfz19_1
      try clear hfz19_2
      try clear hfz21_0
      try clear hfz21_1
      try clear hfz21_2
      try clear hfz23_0
      try clear hfz23_1
      try clear hfz23_2
      try clear hfz31_0
      try clear hfz31_1
      try clear hfz31_2
      try clear hfz34_0
      try clear hfz34_1
      try clear hfz34_2
      try clear hfz38_0
      try clear hfz38_1
      try clear hfz38_2
      try clear hfz49_0
      try clear hfz49_1
      try clear hfz49_2
      try clear hfz8_0
      try clear hfz8_1
      try clear hfz8_2
      try clear p2
      try clear p6
      obtain ⟨kq, x1_49, rfl, HA, HJ49, HO_1490001, HO_1490002, BK1489, BK1490, HB⟩ := hcut
      cases kq with
      | zero => exact absurd HA.out (by simp [rational_Pow.j3])
      | succ kj49 =>
       have H := HA.out
       clear HA
       simp only [rational_Pow.j3] at H
       replace H := Option.bind_eq_some_iff.mp H
       obtain ⟨⟨t1507, t1510⟩, A520, H⟩ := H
       replace H : (if t1510 = 0 then ((nat_Pow.f kj49 x1490002_3 x1_49).bind fun bt1511 => (if bt1511.2 = 0 then (if t1491 = true then ((rational_canonical.f kj49 ((Int.tmod a1 2) != 0) t1507 bt1511.1).bind fun bt1515 => (some (bt1515.1, bt1515.2.1, bt1515.2.2, 0))) else ((rational_canonical.f kj49 false t1507 bt1511.1).bind fun bt1522 => (some (bt1522.1, bt1522.2.1, bt1522.2.2, 0)))) else (some (false, ([] : List Int), ([] : List Int), bt1511.2)))) else (some (false, ([] : List Int), ([] : List Int), t1510))) = some (r1, r2, r3, r4) := H
       have A52 := Aside0.mk A520
       clear A520
       by_cases c53 : t1510 = 0
       ·
        rw [if_pos c53] at H
        have c53b0 : (t1510 == 0) = true := beq_iff_eq.mpr c53
        have c53b1 : (t1510 != 0) = false := bne_eq_false_iff_eq.mpr c53
        clear c53
        replace H := Option.bind_eq_some_iff.mp H
        obtain ⟨⟨t1511, t1514⟩, A540, H⟩ := H
        replace H : (if t1514 = 0 then (if t1491 = true then ((rational_canonical.f kj49 ((Int.tmod a1 2) != 0) t1507 t1511).bind fun bt1515 => (some (bt1515.1, bt1515.2.1, bt1515.2.2, 0))) else ((rational_canonical.f kj49 false t1507 t1511).bind fun bt1522 => (some (bt1522.1, bt1522.2.1, bt1522.2.2, 0)))) else (some (false, ([] : List Int), ([] : List Int), t1514))) = some (r1, r2, r3, r4) := H
        have A54 := Aside0.mk A540
        clear A540
        by_cases c55 : t1514 = 0
        ·
         rw [if_pos c55] at H
         have c55b0 : (t1514 == 0) = true := beq_iff_eq.mpr c55
         have c55b1 : (t1514 != 0) = false := bne_eq_false_iff_eq.mpr c55
         clear c55
         by_cases c56 : t1491 = true
         ·
          subst c56
          have H1 : ((rational_canonical.f kj49 ((Int.tmod a1 2) != 0) t1507 t1511).bind fun bt1515 => (some (bt1515.1, bt1515.2.1, bt1515.2.2, 0))) = some (r1, r2, r3, r4) := by rw [if_pos rfl] at H; exact H
          clear H
          have H := H1
          clear H1
          replace H := Option.bind_eq_some_iff.mp H
          obtain ⟨⟨t1515, t1516, t1519⟩, A570, H⟩ := H
          replace H : (some (t1515, t1516, t1519, 0)) = some (r1, r2, r3, r4) := H
          have A57 := Aside0.mk A570
          clear A570
          simp only [Option.some.injEq, Prod.mk.injEq] at H
          obtain ⟨rfl, rfl, rfl, rfl⟩ := H
          have hnb58 := NB1489_1490.out
          have hnc58 := NB1490_1489.out
          have hcz59_0 : wc.cell? ⟨gb1489, 0, none⟩ = some (.bool true) := bc BK1489 0
          have hcz59_1 : wc.cell? ⟨gb1489, 1, none⟩ = some (u1490001) := bc BK1489 1
          have hcz59_2 : wc.cell? ⟨gb1489, 2, none⟩ = some (u1490002) := bc BK1489 2
          have hfz59_0 := blk_frozen BK1489.out 0
          have hfz59_1 := blk_frozen BK1489.out 1
          have hfz59_2 := blk_frozen BK1489.out 2
          obtain ⟨Ao60, co60, eo60⟩ := Kd.V_slice HO_1490001.out
          subst eo60
          go_wp2_with (first | ((with_reducible refine gate_callee (f := 162) rfl ?_); refine goesL_ (some 52) rfl rfl Try.func162 (by kernel_rfl) rfl #[.slice Ao60 x1490001_3.length co60, .int .i64 x1_49] rfl lu ?_; (with_reducible refine (nat_Pow.calls kj49 _ _ x1490001_3 x1_49 t1507 t1510 _ ?side1 ?side2 A52.out).mono ?_); (case side1 => exact cu (Kd.V_reads' HO_1490001.out).2.2); (case side2 => exact (Kd.V_reads' HO_1490001.out).2.1); rintro e w61 ⟨v1508, rfl, ho0, hb⟩; refine ⟨_, rfl, ?_⟩; replace ho0 := R_V_base rfl ho0; replace HO_1490001 := kv HO_1490001 hb; replace HO_1490002 := kv HO_1490002 hb; have HO1509 := ar0 w.heap.size (ok' := fun k_ => ((P0_1_ k_ ∨ P0_2_ k_) ∨ w.heap.size ≤ k_) ∧ k_ ≠ gb1489 ∧ k_ ≠ gb1490) ho0 (fa (f0 (below_size (bu2 HB.out GE1489.out GE1490.out))) (fa (fb BK1489) (fb BK1490))); replace BK1489 := kb BK1489 hb; replace BK1490 := kb BK1490 hb; replace HB := Aside0.mk (below_step (bu2 HB.out GE1489.out GE1490.out) hb); (try clear hb); (try clear hb2); (try clear hk); (try clear hi); (try clear ho0); have hcz62_0 : w61.cell? ⟨gb1489, 0, none⟩ = some (.bool true) := bc BK1489 0; have hcz62_1 : w61.cell? ⟨gb1489, 1, none⟩ = some (.slice Ao60 x1490001_3.length co60) := bc BK1489 1; have hcz62_2 : w61.cell? ⟨gb1489, 2, none⟩ = some (u1490002) := bc BK1489 2; have hfz62_0 := blk_frozen BK1489.out 0; have hfz62_1 := blk_frozen BK1489.out 1; have hfz62_2 := blk_frozen BK1489.out 2; obtain ⟨Ao63, co63, eo63⟩ := Kd.V_slice HO_1490002.out; subst eo63) | ((with_reducible refine gate_callee (f := 162) rfl ?_); refine goesL_ (some 63) rfl rfl Try.func162 (by kernel_rfl) rfl #[.slice Ao63 x1490002_3.length co63, .int .i64 x1_49] rfl lu ?_; (with_reducible refine (nat_Pow.calls kj49 _ _ x1490002_3 x1_49 t1511 t1514 _ ?side1 ?side2 A54.out).mono ?_); (case side1 => exact cu (Kd.V_reads' HO_1490002.out).2.2); (case side2 => exact (Kd.V_reads' HO_1490002.out).2.1); rintro e w64 ⟨v1512, rfl, ho0, hb⟩; refine ⟨_, rfl, ?_⟩; replace ho0 := R_V_base rfl ho0; replace HO_1490001 := kv HO_1490001 hb; replace HO_1490002 := kv HO_1490002 hb; replace HO1509 := kv HO1509 hb; have HO1513 := ar0 w.heap.size (ok' := fun k_ => ((P0_1_ k_ ∨ P0_2_ k_) ∨ w.heap.size ≤ k_) ∧ k_ ≠ gb1489 ∧ k_ ≠ gb1490) ho0 (fa (f0 (below_size (bu2 HB.out GE1489.out GE1490.out))) (fa (fb BK1489) (fb BK1490))); replace BK1489 := kb BK1489 hb; replace BK1490 := kb BK1490 hb; replace HB := Aside0.mk (below_step (bu2 HB.out GE1489.out GE1490.out) hb); (try clear hb); (try clear hb2); (try clear hk); (try clear hi); (try clear ho0); have hcz65_0 : w64.cell? ⟨gb1489, 0, none⟩ = some (.bool true) := bc BK1489 0; have hcz65_1 : w64.cell? ⟨gb1489, 1, none⟩ = some (.slice Ao60 x1490001_3.length co60) := bc BK1489 1; have hcz65_2 : w64.cell? ⟨gb1489, 2, none⟩ = some (.slice Ao63 x1490002_3.length co63) := bc BK1489 2; have hfz65_0 := blk_frozen BK1489.out 0; have hfz65_1 := blk_frozen BK1489.out 1; have hfz65_2 := blk_frozen BK1489.out 2; obtain ⟨Ao66, co66, eo66⟩ := Kd.V_slice HO1509.out; subst eo66; obtain ⟨Ao67, co67, eo67⟩ := Kd.V_slice HO1513.out; subst eo67) | ((with_reducible refine gate_callee (f := 155) rfl ?_); refine goesL_ (some 77) rfl rfl Try.func155 (by kernel_rfl) rfl #[.bool ((Int.tmod a1 2) != 0), .slice Ao66 t1507.length co66, .slice Ao67 t1511.length co67] rfl lu ?_; (with_reducible refine (rational_canonical.calls kj49 ((Int.tmod a1 2) != 0) (fun k_ => (((P0_1_ k_ ∨ P0_2_ k_) ∨ w.heap.size ≤ k_) ∧ (k_ ≠ gb1489 ∧ k_ ≠ gb1490))) _ _ t1507 (fun k_ => (((P0_1_ k_ ∨ P0_2_ k_) ∨ w.heap.size ≤ k_) ∧ (k_ ≠ gb1489 ∧ k_ ≠ gb1490))) _ _ t1511 t1515 t1516 t1519 _ ?side1 ?side2 A57.out).mono ?_); (case side1 => first | exact HO1509.out | exact vz HO1509.out); (case side2 => first | exact HO1513.out | exact vz HO1513.out); rintro e w68 ⟨v1517, v1520, rfl, ho0, ho1, hb⟩; refine ⟨_, rfl, ?_⟩; replace HO_1490001 := kv HO_1490001 hb; replace HO_1490002 := kv HO_1490002 hb; replace HO1509 := kv HO1509 hb; replace HO1513 := kv HO1513 hb; have HO1518 := ar w.heap.size (ok' := fun k_ => ((P0_1_ k_ ∨ P0_2_ k_) ∨ w.heap.size ≤ k_) ∧ k_ ≠ gb1489 ∧ k_ ≠ gb1490) ho0 (fa (f0 (below_size (bu2 HB.out GE1489.out GE1490.out))) (fa (fb BK1489) (fb BK1490))); have HO1521 := ar w.heap.size (ok' := fun k_ => ((P0_1_ k_ ∨ P0_2_ k_) ∨ w.heap.size ≤ k_) ∧ k_ ≠ gb1489 ∧ k_ ≠ gb1490) ho1 (fa (f0 (below_size (bu2 HB.out GE1489.out GE1490.out))) (fa (fb BK1489) (fb BK1490))); replace BK1489 := kb BK1489 hb; replace BK1490 := kb BK1490 hb; replace HB := Aside0.mk (below_step (bu2 HB.out GE1489.out GE1490.out) hb); (try clear hb); (try clear hb2); (try clear hk); (try clear hi); (try clear ho0); (try clear ho1); have hcz69_0 : w68.cell? ⟨gb1490, 0, none⟩ = some (.bool x1491000_23) := bc BK1490 0; have hcz69_1 : w68.cell? ⟨gb1490, 1, none⟩ = some (.slice none 0 0) := bc BK1490 1; have hcz69_2 : w68.cell? ⟨gb1490, 2, none⟩ = some (.slice none 0 0) := bc BK1490 2; have hfz69_0 := blk_frozen BK1490.out 0; have hfz69_1 := blk_frozen BK1490.out 1; have hfz69_2 := blk_frozen BK1490.out 2; obtain ⟨Ao70, co70, eo70⟩ := Kd.V_slice HO1518.out; subst eo70; obtain ⟨Ao71, co71, eo71⟩ := Kd.V_slice HO1521.out; subst eo71))
          refine bodyPost_ret (results_ct rfl _ _ gb1490 67 #[.bool t1515, .slice Ao70 t1516.length co70, .slice Ao71 t1519.length co71] (0, 0) _ rfl (by (with_reducible repeat (first | refine blk_drewN ?_ _ | refine blk_drew ?_ | refine blk_alloc ?_ _)); refine blk_put (cs := #[.bool t1515, .slice Ao70 t1516.length co70, .slice none 0 0]) ?_ 2 _ rfl; (with_reducible repeat (first | refine blk_drewN ?_ _ | refine blk_drew ?_ | refine blk_alloc ?_ _)); refine blk_put (cs := #[.bool t1515, .slice none 0 0, .slice none 0 0]) ?_ 1 _ rfl; (with_reducible repeat (first | refine blk_drewN ?_ _ | refine blk_drew ?_ | refine blk_alloc ?_ _)); refine blk_put (cs := #[.bool x1491000_23, .slice none 0 0, .slice none 0 0]) ?_ 0 _ rfl; (with_reducible repeat (first | refine blk_drewN ?_ _ | refine blk_drew ?_ | refine blk_alloc ?_ _)); exact BK1490.out) Try.underlying67 rfl (by kernel_rfl)) rfl ?_
          exact ⟨_, _, by first | rfl | (simp [errW_none, errW_some] <;> rfl) | (simp [*, errW_none, errW_some] <;> rfl), by exact vf HO1518.out, by exact vf HO1521.out, by repeat (first | (with_reducible first | exact HB.out | apply below_alloc | apply pw_below_drewN | apply below_drew1 | refine below_set ?_ GE1489.out | refine below_set ?_ GE1490.out) | exact HB.out)⟩
         ·
          replace c56 := Bool.eq_false_iff.mpr c56
          subst c56
          have H1 : ((rational_canonical.f kj49 false t1507 t1511).bind fun bt1522 => (some (bt1522.1, bt1522.2.1, bt1522.2.2, 0))) = some (r1, r2, r3, r4) := by rw [if_neg (show ¬ (false = true) by decide)] at H; exact H
          clear H
          have H := H1
          clear H1
          replace H := Option.bind_eq_some_iff.mp H
          obtain ⟨⟨t1522, t1523, t1526⟩, A720, H⟩ := H
          replace H : (some (t1522, t1523, t1526, 0)) = some (r1, r2, r3, r4) := H
          have A72 := Aside0.mk A720
          clear A720
          simp only [Option.some.injEq, Prod.mk.injEq] at H
          obtain ⟨rfl, rfl, rfl, rfl⟩ := H
          have hnb73 := NB1489_1490.out
          have hnc73 := NB1490_1489.out
          have hcz74_0 : wc.cell? ⟨gb1489, 0, none⟩ = some (.bool false) := bc BK1489 0
          have hcz74_1 : wc.cell? ⟨gb1489, 1, none⟩ = some (u1490001) := bc BK1489 1
          have hcz74_2 : wc.cell? ⟨gb1489, 2, none⟩ = some (u1490002) := bc BK1489 2
          have hfz74_0 := blk_frozen BK1489.out 0
          have hfz74_1 := blk_frozen BK1489.out 1
          have hfz74_2 := blk_frozen BK1489.out 2
          obtain ⟨Ao75, co75, eo75⟩ := Kd.V_slice HO_1490001.out
          subst eo75
          go_wp2_with (first | ((with_reducible refine gate_callee (f := 162) rfl ?_); refine goesL_ (some 52) rfl rfl Try.func162 (by kernel_rfl) rfl #[.slice Ao75 x1490001_3.length co75, .int .i64 x1_49] rfl lu ?_; (with_reducible refine (nat_Pow.calls kj49 _ _ x1490001_3 x1_49 t1507 t1510 _ ?side1 ?side2 A52.out).mono ?_); (case side1 => exact cu (Kd.V_reads' HO_1490001.out).2.2); (case side2 => exact (Kd.V_reads' HO_1490001.out).2.1); rintro e w76 ⟨v1508, rfl, ho0, hb⟩; refine ⟨_, rfl, ?_⟩; replace ho0 := R_V_base rfl ho0; replace HO_1490001 := kv HO_1490001 hb; replace HO_1490002 := kv HO_1490002 hb; have HO1509 := ar0 w.heap.size (ok' := fun k_ => ((P0_1_ k_ ∨ P0_2_ k_) ∨ w.heap.size ≤ k_) ∧ k_ ≠ gb1489 ∧ k_ ≠ gb1490) ho0 (fa (f0 (below_size (bu2 HB.out GE1489.out GE1490.out))) (fa (fb BK1489) (fb BK1490))); replace BK1489 := kb BK1489 hb; replace BK1490 := kb BK1490 hb; replace HB := Aside0.mk (below_step (bu2 HB.out GE1489.out GE1490.out) hb); (try clear hb); (try clear hb2); (try clear hk); (try clear hi); (try clear ho0); have hcz77_0 : w76.cell? ⟨gb1489, 0, none⟩ = some (.bool false) := bc BK1489 0; have hcz77_1 : w76.cell? ⟨gb1489, 1, none⟩ = some (.slice Ao75 x1490001_3.length co75) := bc BK1489 1; have hcz77_2 : w76.cell? ⟨gb1489, 2, none⟩ = some (u1490002) := bc BK1489 2; have hfz77_0 := blk_frozen BK1489.out 0; have hfz77_1 := blk_frozen BK1489.out 1; have hfz77_2 := blk_frozen BK1489.out 2; obtain ⟨Ao78, co78, eo78⟩ := Kd.V_slice HO_1490002.out; subst eo78) | ((with_reducible refine gate_callee (f := 162) rfl ?_); refine goesL_ (some 63) rfl rfl Try.func162 (by kernel_rfl) rfl #[.slice Ao78 x1490002_3.length co78, .int .i64 x1_49] rfl lu ?_; (with_reducible refine (nat_Pow.calls kj49 _ _ x1490002_3 x1_49 t1511 t1514 _ ?side1 ?side2 A54.out).mono ?_); (case side1 => exact cu (Kd.V_reads' HO_1490002.out).2.2); (case side2 => exact (Kd.V_reads' HO_1490002.out).2.1); rintro e w79 ⟨v1512, rfl, ho0, hb⟩; refine ⟨_, rfl, ?_⟩; replace ho0 := R_V_base rfl ho0; replace HO_1490001 := kv HO_1490001 hb; replace HO_1490002 := kv HO_1490002 hb; replace HO1509 := kv HO1509 hb; have HO1513 := ar0 w.heap.size (ok' := fun k_ => ((P0_1_ k_ ∨ P0_2_ k_) ∨ w.heap.size ≤ k_) ∧ k_ ≠ gb1489 ∧ k_ ≠ gb1490) ho0 (fa (f0 (below_size (bu2 HB.out GE1489.out GE1490.out))) (fa (fb BK1489) (fb BK1490))); replace BK1489 := kb BK1489 hb; replace BK1490 := kb BK1490 hb; replace HB := Aside0.mk (below_step (bu2 HB.out GE1489.out GE1490.out) hb); (try clear hb); (try clear hb2); (try clear hk); (try clear hi); (try clear ho0); have hcz80_0 : w79.cell? ⟨gb1489, 0, none⟩ = some (.bool false) := bc BK1489 0; have hcz80_1 : w79.cell? ⟨gb1489, 1, none⟩ = some (.slice Ao75 x1490001_3.length co75) := bc BK1489 1; have hcz80_2 : w79.cell? ⟨gb1489, 2, none⟩ = some (.slice Ao78 x1490002_3.length co78) := bc BK1489 2; have hfz80_0 := blk_frozen BK1489.out 0; have hfz80_1 := blk_frozen BK1489.out 1; have hfz80_2 := blk_frozen BK1489.out 2; obtain ⟨Ao81, co81, eo81⟩ := Kd.V_slice HO1509.out; subst eo81; obtain ⟨Ao82, co82, eo82⟩ := Kd.V_slice HO1513.out; subst eo82) | ((with_reducible refine gate_callee (f := 155) rfl ?_); refine goesL_ (some 77) rfl rfl Try.func155 (by kernel_rfl) rfl #[.bool false, .slice Ao81 t1507.length co81, .slice Ao82 t1511.length co82] rfl lu ?_; (with_reducible refine (rational_canonical.calls kj49 false (fun k_ => (((P0_1_ k_ ∨ P0_2_ k_) ∨ w.heap.size ≤ k_) ∧ (k_ ≠ gb1489 ∧ k_ ≠ gb1490))) _ _ t1507 (fun k_ => (((P0_1_ k_ ∨ P0_2_ k_) ∨ w.heap.size ≤ k_) ∧ (k_ ≠ gb1489 ∧ k_ ≠ gb1490))) _ _ t1511 t1522 t1523 t1526 _ ?side1 ?side2 A72.out).mono ?_); (case side1 => first | exact HO1509.out | exact vz HO1509.out); (case side2 => first | exact HO1513.out | exact vz HO1513.out); rintro e w83 ⟨v1524, v1527, rfl, ho0, ho1, hb⟩; refine ⟨_, rfl, ?_⟩; replace HO_1490001 := kv HO_1490001 hb; replace HO_1490002 := kv HO_1490002 hb; replace HO1509 := kv HO1509 hb; replace HO1513 := kv HO1513 hb; have HO1525 := ar w.heap.size (ok' := fun k_ => ((P0_1_ k_ ∨ P0_2_ k_) ∨ w.heap.size ≤ k_) ∧ k_ ≠ gb1489 ∧ k_ ≠ gb1490) ho0 (fa (f0 (below_size (bu2 HB.out GE1489.out GE1490.out))) (fa (fb BK1489) (fb BK1490))); have HO1528 := ar w.heap.size (ok' := fun k_ => ((P0_1_ k_ ∨ P0_2_ k_) ∨ w.heap.size ≤ k_) ∧ k_ ≠ gb1489 ∧ k_ ≠ gb1490) ho1 (fa (f0 (below_size (bu2 HB.out GE1489.out GE1490.out))) (fa (fb BK1489) (fb BK1490))); replace BK1489 := kb BK1489 hb; replace BK1490 := kb BK1490 hb; replace HB := Aside0.mk (below_step (bu2 HB.out GE1489.out GE1490.out) hb); (try clear hb); (try clear hb2); (try clear hk); (try clear hi); (try clear ho0); (try clear ho1); have hcz84_0 : w83.cell? ⟨gb1490, 0, none⟩ = some (.bool x1491000_23) := bc BK1490 0; have hcz84_1 : w83.cell? ⟨gb1490, 1, none⟩ = some (.slice none 0 0) := bc BK1490 1; have hcz84_2 : w83.cell? ⟨gb1490, 2, none⟩ = some (.slice none 0 0) := bc BK1490 2; have hfz84_0 := blk_frozen BK1490.out 0; have hfz84_1 := blk_frozen BK1490.out 1; have hfz84_2 := blk_frozen BK1490.out 2; obtain ⟨Ao85, co85, eo85⟩ := Kd.V_slice HO1525.out; subst eo85; obtain ⟨Ao86, co86, eo86⟩ := Kd.V_slice HO1528.out; subst eo86))
          refine bodyPost_ret (results_ct rfl _ _ gb1490 67 #[.bool t1522, .slice Ao85 t1523.length co85, .slice Ao86 t1526.length co86] (0, 0) _ rfl (by (with_reducible repeat (first | refine blk_drewN ?_ _ | refine blk_drew ?_ | refine blk_alloc ?_ _)); refine blk_put (cs := #[.bool t1522, .slice Ao85 t1523.length co85, .slice none 0 0]) ?_ 2 _ rfl; (with_reducible repeat (first | refine blk_drewN ?_ _ | refine blk_drew ?_ | refine blk_alloc ?_ _)); refine blk_put (cs := #[.bool t1522, .slice none 0 0, .slice none 0 0]) ?_ 1 _ rfl; (with_reducible repeat (first | refine blk_drewN ?_ _ | refine blk_drew ?_ | refine blk_alloc ?_ _)); refine blk_put (cs := #[.bool x1491000_23, .slice none 0 0, .slice none 0 0]) ?_ 0 _ rfl; (with_reducible repeat (first | refine blk_drewN ?_ _ | refine blk_drew ?_ | refine blk_alloc ?_ _)); exact BK1490.out) Try.underlying67 rfl (by kernel_rfl)) rfl ?_
          exact ⟨_, _, by first | rfl | (simp [errW_none, errW_some] <;> rfl) | (simp [*, errW_none, errW_some] <;> rfl), by exact vf HO1525.out, by exact vf HO1528.out, by repeat (first | (with_reducible first | exact HB.out | apply below_alloc | apply pw_below_drewN | apply below_drew1 | refine below_set ?_ GE1489.out | refine below_set ?_ GE1490.out) | exact HB.out)⟩
        ·
         rw [if_neg c55] at H
         have c55b0 : (t1514 == 0) = false := beq_eq_false_iff_ne.mpr c55
         have c55b1 : (t1514 != 0) = true := bne_iff_ne.mpr c55
         simp only [Option.some.injEq, Prod.mk.injEq] at H
         obtain ⟨rfl, rfl, rfl, rfl⟩ := H
         have hnb87 := NB1489_1490.out
         have hnc87 := NB1490_1489.out
         have hcz88_0 : wc.cell? ⟨gb1489, 0, none⟩ = some (.bool t1491) := bc BK1489 0
         have hcz88_1 : wc.cell? ⟨gb1489, 1, none⟩ = some (u1490001) := bc BK1489 1
         have hcz88_2 : wc.cell? ⟨gb1489, 2, none⟩ = some (u1490002) := bc BK1489 2
         have hfz88_0 := blk_frozen BK1489.out 0
         have hfz88_1 := blk_frozen BK1489.out 1
         have hfz88_2 := blk_frozen BK1489.out 2
         obtain ⟨Ao89, co89, eo89⟩ := Kd.V_slice HO_1490001.out
         subst eo89
         go_wp2_with (first | ((with_reducible refine gate_callee (f := 162) rfl ?_); refine goesL_ (some 52) rfl rfl Try.func162 (by kernel_rfl) rfl #[.slice Ao89 x1490001_3.length co89, .int .i64 x1_49] rfl lu ?_; (with_reducible refine (nat_Pow.calls kj49 _ _ x1490001_3 x1_49 t1507 t1510 _ ?side1 ?side2 A52.out).mono ?_); (case side1 => exact cu (Kd.V_reads' HO_1490001.out).2.2); (case side2 => exact (Kd.V_reads' HO_1490001.out).2.1); rintro e w90 ⟨v1508, rfl, ho0, hb⟩; refine ⟨_, rfl, ?_⟩; replace ho0 := R_V_base rfl ho0; replace HO_1490001 := kv HO_1490001 hb; replace HO_1490002 := kv HO_1490002 hb; have HO1509 := ar0 w.heap.size (ok' := fun k_ => ((P0_1_ k_ ∨ P0_2_ k_) ∨ w.heap.size ≤ k_) ∧ k_ ≠ gb1489 ∧ k_ ≠ gb1490) ho0 (fa (f0 (below_size (bu2 HB.out GE1489.out GE1490.out))) (fa (fb BK1489) (fb BK1490))); replace BK1489 := kb BK1489 hb; replace BK1490 := kb BK1490 hb; replace HB := Aside0.mk (below_step (bu2 HB.out GE1489.out GE1490.out) hb); (try clear hb); (try clear hb2); (try clear hk); (try clear hi); (try clear ho0); have hcz91_0 : w90.cell? ⟨gb1489, 0, none⟩ = some (.bool t1491) := bc BK1489 0; have hcz91_1 : w90.cell? ⟨gb1489, 1, none⟩ = some (.slice Ao89 x1490001_3.length co89) := bc BK1489 1; have hcz91_2 : w90.cell? ⟨gb1489, 2, none⟩ = some (u1490002) := bc BK1489 2; have hfz91_0 := blk_frozen BK1489.out 0; have hfz91_1 := blk_frozen BK1489.out 1; have hfz91_2 := blk_frozen BK1489.out 2; obtain ⟨Ao92, co92, eo92⟩ := Kd.V_slice HO_1490002.out; subst eo92) | ((with_reducible refine gate_callee (f := 162) rfl ?_); refine goesL_ (some 63) rfl rfl Try.func162 (by kernel_rfl) rfl #[.slice Ao92 x1490002_3.length co92, .int .i64 x1_49] rfl lu ?_; (with_reducible refine (nat_Pow.calls kj49 _ _ x1490002_3 x1_49 t1511 t1514 _ ?side1 ?side2 A54.out).mono ?_); (case side1 => exact cu (Kd.V_reads' HO_1490002.out).2.2); (case side2 => exact (Kd.V_reads' HO_1490002.out).2.1); rintro e w93 ⟨v1512, rfl, ho0, hb⟩; refine ⟨_, rfl, ?_⟩; replace ho0 := R_V_base rfl ho0; replace HO_1490001 := kv HO_1490001 hb; replace HO_1490002 := kv HO_1490002 hb; replace HO1509 := kv HO1509 hb; have HO1513 := ar0 w.heap.size (ok' := fun k_ => ((P0_1_ k_ ∨ P0_2_ k_) ∨ w.heap.size ≤ k_) ∧ k_ ≠ gb1489 ∧ k_ ≠ gb1490) ho0 (fa (f0 (below_size (bu2 HB.out GE1489.out GE1490.out))) (fa (fb BK1489) (fb BK1490))); replace BK1489 := kb BK1489 hb; replace BK1490 := kb BK1490 hb; replace HB := Aside0.mk (below_step (bu2 HB.out GE1489.out GE1490.out) hb); (try clear hb); (try clear hb2); (try clear hk); (try clear hi); (try clear ho0); have hcz94_0 : w93.cell? ⟨gb1490, 0, none⟩ = some (.bool x1491000_23) := bc BK1490 0; have hcz94_1 : w93.cell? ⟨gb1490, 1, none⟩ = some (.slice none 0 0) := bc BK1490 1; have hcz94_2 : w93.cell? ⟨gb1490, 2, none⟩ = some (.slice none 0 0) := bc BK1490 2; have hfz94_0 := blk_frozen BK1490.out 0; have hfz94_1 := blk_frozen BK1490.out 1; have hfz94_2 := blk_frozen BK1490.out 2))
         refine bodyPost_ret (results_ct rfl _ _ gb1490 67 #[.bool false, .slice none 0 0, .slice none 0 0] (0, 0) _ rfl (by (with_reducible repeat (first | refine blk_drewN ?_ _ | refine blk_drew ?_ | refine blk_alloc ?_ _)); refine blk_put (cs := #[.bool false, .slice none 0 0, .slice none 0 0]) ?_ 2 _ rfl; (with_reducible repeat (first | refine blk_drewN ?_ _ | refine blk_drew ?_ | refine blk_alloc ?_ _)); refine blk_put (cs := #[.bool false, .slice none 0 0, .slice none 0 0]) ?_ 1 _ rfl; (with_reducible repeat (first | refine blk_drewN ?_ _ | refine blk_drew ?_ | refine blk_alloc ?_ _)); refine blk_put (cs := #[.bool x1491000_23, .slice none 0 0, .slice none 0 0]) ?_ 0 _ rfl; (with_reducible repeat (first | refine blk_drewN ?_ _ | refine blk_drew ?_ | refine blk_alloc ?_ _)); exact BK1490.out) Try.underlying67 rfl (by kernel_rfl)) rfl ?_
         exact ⟨_, _, by first | rfl | (simp [errW_none, errW_some] <;> rfl) | (simp [*, errW_none, errW_some] <;> rfl), Kd.V_nil _ _ _ _ _, Kd.V_nil _ _ _ _ _, by repeat (first | (with_reducible first | exact HB.out | apply below_alloc | apply pw_below_drewN | apply below_drew1 | refine below_set ?_ GE1489.out | refine below_set ?_ GE1490.out) | exact HB.out)⟩
       ·
        rw [if_neg c53] at H
        have c53b0 : (t1510 == 0) = false := beq_eq_false_iff_ne.mpr c53
        have c53b1 : (t1510 != 0) = true := bne_iff_ne.mpr c53
        simp only [Option.some.injEq, Prod.mk.injEq] at H
        obtain ⟨rfl, rfl, rfl, rfl⟩ := H
        have hnb95 := NB1489_1490.out
        have hnc95 := NB1490_1489.out
        have hcz96_0 : wc.cell? ⟨gb1489, 0, none⟩ = some (.bool t1491) := bc BK1489 0
        have hcz96_1 : wc.cell? ⟨gb1489, 1, none⟩ = some (u1490001) := bc BK1489 1
        have hcz96_2 : wc.cell? ⟨gb1489, 2, none⟩ = some (u1490002) := bc BK1489 2
        have hfz96_0 := blk_frozen BK1489.out 0
        have hfz96_1 := blk_frozen BK1489.out 1
        have hfz96_2 := blk_frozen BK1489.out 2
        obtain ⟨Ao97, co97, eo97⟩ := Kd.V_slice HO_1490001.out
        subst eo97
        go_wp2_with (first | ((with_reducible refine gate_callee (f := 162) rfl ?_); refine goesL_ (some 52) rfl rfl Try.func162 (by kernel_rfl) rfl #[.slice Ao97 x1490001_3.length co97, .int .i64 x1_49] rfl lu ?_; (with_reducible refine (nat_Pow.calls kj49 _ _ x1490001_3 x1_49 t1507 t1510 _ ?side1 ?side2 A52.out).mono ?_); (case side1 => exact cu (Kd.V_reads' HO_1490001.out).2.2); (case side2 => exact (Kd.V_reads' HO_1490001.out).2.1); rintro e w98 ⟨v1508, rfl, ho0, hb⟩; refine ⟨_, rfl, ?_⟩; replace ho0 := R_V_base rfl ho0; replace HO_1490001 := kv HO_1490001 hb; replace HO_1490002 := kv HO_1490002 hb; have HO1509 := ar0 w.heap.size (ok' := fun k_ => ((P0_1_ k_ ∨ P0_2_ k_) ∨ w.heap.size ≤ k_) ∧ k_ ≠ gb1489 ∧ k_ ≠ gb1490) ho0 (fa (f0 (below_size (bu2 HB.out GE1489.out GE1490.out))) (fa (fb BK1489) (fb BK1490))); replace BK1489 := kb BK1489 hb; replace BK1490 := kb BK1490 hb; replace HB := Aside0.mk (below_step (bu2 HB.out GE1489.out GE1490.out) hb); (try clear hb); (try clear hb2); (try clear hk); (try clear hi); (try clear ho0); have hcz99_0 : w98.cell? ⟨gb1490, 0, none⟩ = some (.bool x1491000_23) := bc BK1490 0; have hcz99_1 : w98.cell? ⟨gb1490, 1, none⟩ = some (.slice none 0 0) := bc BK1490 1; have hcz99_2 : w98.cell? ⟨gb1490, 2, none⟩ = some (.slice none 0 0) := bc BK1490 2; have hfz99_0 := blk_frozen BK1490.out 0; have hfz99_1 := blk_frozen BK1490.out 1; have hfz99_2 := blk_frozen BK1490.out 2))
        refine bodyPost_ret (results_ct rfl _ _ gb1490 67 #[.bool false, .slice none 0 0, .slice none 0 0] (0, 0) _ rfl (by (with_reducible repeat (first | refine blk_drewN ?_ _ | refine blk_drew ?_ | refine blk_alloc ?_ _)); refine blk_put (cs := #[.bool false, .slice none 0 0, .slice none 0 0]) ?_ 2 _ rfl; (with_reducible repeat (first | refine blk_drewN ?_ _ | refine blk_drew ?_ | refine blk_alloc ?_ _)); refine blk_put (cs := #[.bool false, .slice none 0 0, .slice none 0 0]) ?_ 1 _ rfl; (with_reducible repeat (first | refine blk_drewN ?_ _ | refine blk_drew ?_ | refine blk_alloc ?_ _)); refine blk_put (cs := #[.bool x1491000_23, .slice none 0 0, .slice none 0 0]) ?_ 0 _ rfl; (with_reducible repeat (first | refine blk_drewN ?_ _ | refine blk_drew ?_ | refine blk_alloc ?_ _)); exact BK1490.out) Try.underlying67 rfl (by kernel_rfl)) rfl ?_
        exact ⟨_, _, by first | rfl | (simp [errW_none, errW_some] <;> rfl) | (simp [*, errW_none, errW_some] <;> rfl), Kd.V_nil _ _ _ _ _, Kd.V_nil _ _ _ _ _, by repeat (first | (with_reducible first | exact HB.out | apply below_alloc | apply pw_below_drewN | apply below_drew1 | refine below_set ?_ GE1489.out | refine below_set ?_ GE1490.out) | exact HB.out)⟩
end Go.Proofs.Ytecfdemglbfnoaa.PT
end
section
namespace Go.Proofs.Ytecfdemglbfnoaa.PT
open Go.RowKit Go.Proofs.YtecfdemglbfnoaaW.PrintWords Go.Proofs.YtecfdemglbfnoaaW.PrintLast Go.Proofs.YtecfdemglbfnoaaW.PrintMore
attribute [local go_sem] max2_int min2_int max_two min_two max_three min_three max_four min_four   -- for this text's walks alone
set_option linter.unusedVariables false
set_option linter.unusedSimpArgs false
def codewrightlaw02_RationalExponents.f (k : Nat) (a0_0 : Bool) (l0_1 : List Int) (l0_2 : List Int) (a1 : Int) (a2 : Int) : Option (Bool) := (codewrightlaw02_long.f k 2 (([(⟨a0_0, l0_1, l0_2⟩ : S67)] : List (S67)))).bind fun t1972 => (if t1972 = true then (some true) else ((rational_Sign.f k a0_0 l0_1 l0_2).bind fun t1973 => (if t1973 = 0 then ((rational_Sign.f k false (([2] : List Int)) (([3] : List Int))).bind fun t1980 => (some (t1980 == 1))) else ((rational_Pow.f k a0_0 l0_1 l0_2 (wrap64 ((wrap64 (a1)) + (wrap64 (a2))))).bind fun bt1981 => ((rational_Pow.f k a0_0 l0_1 l0_2 (wrap64 (a1))).bind fun bt1990 => ((rational_Pow.f k a0_0 l0_1 l0_2 (wrap64 (a2))).bind fun bt1999 => (if bt1981.2.2.2 = 0 then (if bt1990.2.2.2 = 0 then (if bt1999.2.2.2 = 0 then ((rational_Mul.f k (([(⟨bt1990.1, bt1990.2.1, bt1990.2.2.1⟩ : S67), (⟨bt1999.1, bt1999.2.1, bt1999.2.2.1⟩ : S67)] : List (S67)))).bind fun bt2011 => ((codewrightlaw02_same.f k bt1981.1 bt1981.2.1 bt1981.2.2.1 bt2011.1 bt2011.2.1 bt2011.2.2).bind fun t2018 => (some t2018))) else (none)) else (none)) else (none))))))))
def codewrightlaw02_RationalExponents.T8 : Bool × List (List Nat × List Nat) := (true, [([], []), ([0], [0]), ([1], [1]), ([2], [2]), ([3, 2], [2, 3]), ([2, 4], [2, 4]), ([5, 2], [5]), ([6], [6]), ([7, 6], [6, 7]), ([6, 8], [6, 8]), ([9, 6], [9]), ([10], [10]), ([10], [10]), ([10], [10]), ([12, 13, 10], [10, 12, 13]), ([14, 10, 10], [10, 14]), ([11, 15, 15, 10], [10, 11, 15]), ([10, 16], [10, 16]), ([17, 16, 0, 1, 2, 3, 4, 5, 6, 7, 8, 9, 10, 11, 12, 13, 14, 15, 16, 17], [17])])
def codewrightlaw02_RationalExponents.B8 : List Nat := [0, 1, 3, 7, 15, 31, 63, 127, 255, 511, 1023, 2047, 2047, 2047, 14335, 30719, 65535, 131071, 262143]
theorem codewrightlaw02_RationalExponents.tab8 : rtab .any (opsOf Try.f17 8) = codewrightlaw02_RationalExponents.T8 := by kernel_rfl
theorem codewrightlaw02_RationalExponents.bits8 : waitsOk codewrightlaw02_RationalExponents.T8.2 codewrightlaw02_RationalExponents.B8 = true := by kernel_rfl
set_option maxHeartbeats 8000000 in
set_option maxRecDepth 100000 in
theorem codewrightlaw02_RationalExponents.calls (k : Nat) (a0_0 : Bool) (P0_1_ : Nat → Prop) (A0_1 : Option Addr) (c0_1 : Nat) (l0_1 : List Int) (P0_2_ : Nat → Prop) (A0_2 : Option Addr) (c0_2 : Nat) (l0_2 : List Int) (a1 : Int) (a2 : Int) (r : Bool) (w : World) (hs0_1 : Kd.V (Kd.int .u32) 48 w w.heap.size (fun k_ => P0_1_ k_) (.slice A0_1 l0_1.length c0_1) l0_1) (hs0_2 : Kd.V (Kd.int .u32) 48 w w.heap.size (fun k_ => P0_2_ k_) (.slice A0_2 l0_2.length c0_2) l0_2) (h : codewrightlaw02_RationalExponents.f k a0_0 l0_1 l0_2 a1 a2 = some r) :
 Calls Try.prog 17 #[.agg #[.bool a0_0, .slice A0_1 l0_1.length c0_1, .slice A0_2 l0_2.length c0_2], .int .i8 a1, .int .i8 a2] w fun e w' => e = .returned (.bool r) ∧ Below w.heap.size w w' := by
 have hu67 := Try.underlying67
 have HO0_1 := Aside0.mk (show Kd.V (Kd.int .u32) 48 w w.heap.size (fun k_ => ((P0_1_ k_ ∨ P0_2_ k_) ∨ w.heap.size ≤ k_)) (.slice A0_1 l0_1.length c0_1) l0_1 from Kd.V_mono hs0_1 (fun k_ hk => .inl (.inl hk)))
 have HO0_2 := Aside0.mk (show Kd.V (Kd.int .u32) 48 w w.heap.size (fun k_ => ((P0_1_ k_ ∨ P0_2_ k_) ∨ w.heap.size ≤ k_)) (.slice A0_2 l0_2.length c0_2) l0_2 from Kd.V_mono hs0_2 (fun k_ hk => .inl (.inr hk)))
 have HB := Aside0.mk (Below.refl w.heap.size w)
 have H : ((codewrightlaw02_long.f k 2 (([(⟨a0_0, l0_1, l0_2⟩ : S67)] : List (S67)))).bind fun t1972 => (if t1972 = true then (some true) else ((rational_Sign.f k a0_0 l0_1 l0_2).bind fun t1973 => (if t1973 = 0 then ((rational_Sign.f k false (([2] : List Int)) (([3] : List Int))).bind fun t1980 => (some (t1980 == 1))) else ((rational_Pow.f k a0_0 l0_1 l0_2 (wrap64 ((wrap64 (a1)) + (wrap64 (a2))))).bind fun bt1981 => ((rational_Pow.f k a0_0 l0_1 l0_2 (wrap64 (a1))).bind fun bt1990 => ((rational_Pow.f k a0_0 l0_1 l0_2 (wrap64 (a2))).bind fun bt1999 => (if bt1981.2.2.2 = 0 then (if bt1990.2.2.2 = 0 then (if bt1999.2.2.2 = 0 then ((rational_Mul.f k (([(⟨bt1990.1, bt1990.2.1, bt1990.2.2.1⟩ : S67), (⟨bt1999.1, bt1999.2.1, bt1999.2.2.1⟩ : S67)] : List (S67)))).bind fun bt2011 => ((codewrightlaw02_same.f k bt1981.1 bt1981.2.1 bt1981.2.2.1 bt2011.1 bt2011.2.1 bt2011.2.2).bind fun t2018 => (some t2018))) else (none)) else (none)) else (none))))))))) = some r := h
 clear h
 obtain ⟨y1969, hy1969⟩ : ∃ y_ : List (S67), y_ = (([(⟨a0_0, l0_1, l0_2⟩ : S67)] : List (S67))) := ⟨_, rfl⟩
 replace H : ((codewrightlaw02_long.f k 2 y1969).bind fun t1972 => (if t1972 = true then (some true) else ((rational_Sign.f k a0_0 l0_1 l0_2).bind fun t1973 => (if t1973 = 0 then ((rational_Sign.f k false (([2] : List Int)) (([3] : List Int))).bind fun t1980 => (some (t1980 == 1))) else ((rational_Pow.f k a0_0 l0_1 l0_2 (wrap64 ((wrap64 (a1)) + (wrap64 (a2))))).bind fun bt1981 => ((rational_Pow.f k a0_0 l0_1 l0_2 (wrap64 (a1))).bind fun bt1990 => ((rational_Pow.f k a0_0 l0_1 l0_2 (wrap64 (a2))).bind fun bt1999 => (if bt1981.2.2.2 = 0 then (if bt1990.2.2.2 = 0 then (if bt1999.2.2.2 = 0 then ((rational_Mul.f k (([(⟨bt1990.1, bt1990.2.1, bt1990.2.2.1⟩ : S67), (⟨bt1999.1, bt1999.2.1, bt1999.2.2.1⟩ : S67)] : List (S67)))).bind fun bt2011 => ((codewrightlaw02_same.f k bt1981.1 bt1981.2.1 bt1981.2.2.1 bt2011.1 bt2011.2.1 bt2011.2.2).bind fun t2018 => (some t2018))) else (none)) else (none)) else (none))))))))) = some r := by first | (rw [hy1969]; with_reducible exact H) | (have H2_ := (Option.bind_some _ _).symm.trans H; rw [hy1969]; with_reducible exact H2_) | (have H2_ := (Option.bind_some _ _).symm.trans H; with_reducible exact H2_) | with_reducible exact H | (rw [hy1969]; exact H) | exact H
 have Ny1969 := Aside0.mk hy1969
 clear hy1969
 replace H := Option.bind_eq_some_iff.mp H
 obtain ⟨t1972, A40, H⟩ := H
 replace H : (if t1972 = true then (some true) else ((rational_Sign.f k a0_0 l0_1 l0_2).bind fun t1973 => (if t1973 = 0 then ((rational_Sign.f k false (([2] : List Int)) (([3] : List Int))).bind fun t1980 => (some (t1980 == 1))) else ((rational_Pow.f k a0_0 l0_1 l0_2 (wrap64 ((wrap64 (a1)) + (wrap64 (a2))))).bind fun bt1981 => ((rational_Pow.f k a0_0 l0_1 l0_2 (wrap64 (a1))).bind fun bt1990 => ((rational_Pow.f k a0_0 l0_1 l0_2 (wrap64 (a2))).bind fun bt1999 => (if bt1981.2.2.2 = 0 then (if bt1990.2.2.2 = 0 then (if bt1999.2.2.2 = 0 then ((rational_Mul.f k (([(⟨bt1990.1, bt1990.2.1, bt1990.2.2.1⟩ : S67), (⟨bt1999.1, bt1999.2.1, bt1999.2.2.1⟩ : S67)] : List (S67)))).bind fun bt2011 => ((codewrightlaw02_same.f k bt1981.1 bt1981.2.1 bt1981.2.2.1 bt2011.1 bt2011.2.1 bt2011.2.2).bind fun t2018 => (some t2018))) else (none)) else (none)) else (none)))))))) = some r := H
 have A4 := Aside0.mk A40
 clear A40
 by_cases c5 : t1972 = true
 ·
  subst c5
  have H1 : (some true) = some r := by rw [if_pos rfl] at H; exact H
  clear H
  have H := H1
  clear H1
  obtain rfl := Option.some.inj H
  go_enter Try.func17, Try.ntmps17
  go_wp2_with (first | ((with_reducible refine gate_dst (N := 3) rfl ?_); (try (refine gate_guard (by rfl) ?_; dsimp only)); refine box_event ?hg (N := 3) ?hd (cs := #[.bool a0_0, .slice A0_1 l0_1.length c0_1, .slice A0_2 l0_2.length c0_2]) (t := 67) ?hr ?_; (case hd => rfl); (case hg => rfl); (case hr => first | (go_simp; done) | (go_simp; rfl)); intro gb1968 hg w6 hbox hb; replace HO0_1 := ke HO0_1 hg hb; replace HO0_2 := ke HO0_2 hg hb; have BK1968 := Aside0.mk (hbox); have GW1968 := ng hg (bu HB.out); have GE1968 := ng hg (bu HB.out); replace HB := Aside0.mk (below_step (bu HB.out) hb); clear hb hbox hg; have hcz7_0 : w6.cell? ⟨gb1968, 0, none⟩ = some (.bool a0_0) := bc BK1968 0; have hcz7_1 : w6.cell? ⟨gb1968, 1, none⟩ = some (.slice A0_1 l0_1.length c0_1) := bc BK1968 1; have hcz7_2 : w6.cell? ⟨gb1968, 2, none⟩ = some (.slice A0_2 l0_2.length c0_2) := bc BK1968 2; have hfz7_0 := blk_frozen BK1968.out 0; have hfz7_1 := blk_frozen BK1968.out 1; have hfz7_2 := blk_frozen BK1968.out 2) | ((with_reducible refine gate_dst (N := 14) rfl ?_); (try (refine gate_guard (by rfl) ?_; dsimp only)); refine Kd.N_lit k67 _ 67 ?hg (N' := 14) ?hd (xs := ([(⟨a0_0, l0_1, l0_2⟩ : S67)] : List (S67))) (inner := [.bool a0_0, .slice A0_1 l0_1.length c0_1, .slice A0_2 l0_2.length c0_2]) (ok := (fun k_ => ((P0_1_ k_ ∨ P0_2_ k_) ∨ w.heap.size ≤ k_) ∧ k_ ≠ gb1968)) (okp := (fun k_ => ((P0_1_ k_ ∨ P0_2_ k_) ∨ w.heap.size ≤ k_) ∧ k_ ≠ gb1968)) ?hr ?hp (fun _ hk => hk) ((show ∀ k_, w6.heap.size ≤ k_ → (fun k_ => ((P0_1_ k_ ∨ P0_2_ k_) ∨ w.heap.size ≤ k_) ∧ k_ ≠ gb1968) k_ from fun k_ hk => ⟨(.inr (Nat.le_trans (below_size (bu1 HB.out GE1968.out)) hk)), Kd.freshB (g := gb1968) (o := .cells #[.bool a0_0, .slice A0_1 l0_1.length c0_1, .slice A0_2 l0_2.length c0_2] 67 (0, 0)) (ku BK1968.out) k_ hk⟩) _ (Nat.le_refl _)) (Below.refl _ _) (Nat.le_refl _) (by simp) ?_; (case hd => rfl); (case hg => rfl); (case hr => first | (go_simp; done) | (go_simp; rfl)); (case hp => exact (Reps.c3 (show Kd.FK k67 _ _ (⟨a0_0, l0_1, l0_2⟩ : S67) [.bool a0_0, .slice A0_1 l0_1.length c0_1, .slice A0_2 l0_2.length c0_2] from (k67_mkF _ _ (⟨a0_0, l0_1, l0_2⟩ : S67) (Kd.V_reads' (vy ((fun k_ => ((P0_1_ k_ ∨ P0_2_ k_) ∨ w.heap.size ≤ k_) ∧ k_ ≠ gb1968)) HO0_1.out)).2.1 (Kd.V_F (vy ((fun k_ => ((P0_1_ k_ ∨ P0_2_ k_) ∨ w.heap.size ≤ k_) ∧ k_ ≠ gb1968)) HO0_1.out)) (Kd.V_reads' (vy ((fun k_ => ((P0_1_ k_ ∨ P0_2_ k_) ∨ w.heap.size ≤ k_) ∧ k_ ≠ gb1968)) HO0_2.out)).2.1 (Kd.V_F (vy ((fun k_ => ((P0_1_ k_ ∨ P0_2_ k_) ∨ w.heap.size ≤ k_) ∧ k_ ≠ gb1968)) HO0_2.out)))) (Reps.none _ _))); intro v1970 w8 ho9 hb hg_ hnew_; clear hg_ hnew_; (first | rw [← Ny1969.out] at ho9 | (simp only [Int.reduceToNat] at ho9; rw [← Ny1969.out] at ho9)); replace HO0_1 := Aside0.mk (Kd.V_elder' (vu HO0_1.out) (Kd.N_base ho9) hb); replace HO0_2 := Aside0.mk (Kd.V_elder' (vu HO0_2.out) (Kd.N_base ho9) hb); have HO1971 := Aside0.mk (Kd.N_lower ho9 (below_size (bu1 HB.out GE1968.out))); replace BK1968 := kb BK1968 hb; replace HB := Aside0.mk (below_step (bu1 HB.out GE1968.out) hb); clear hb ho9; obtain ⟨Ao10, co10, eo10⟩ := Kd.N_slice HO1971.out; subst eo10) | ((with_reducible refine gate_callee (f := 86) rfl ?_); refine goesL_ (some 15) rfl rfl Try.func86 (by kernel_rfl) rfl #[.int .i64 2, .slice Ao10 y1969.length co10] rfl lu ?_; (with_reducible refine (codewrightlaw02_long.calls k 2 _ _ y1969 true _ ?side1 ?side2 A4.out).mono ?_); (case side1 => exact cu (Kd.N_reads' HO1971.out).2.2); (case side2 => exact (Kd.N_reads' HO1971.out).2.1); rintro e w' ⟨rfl, ⟨nd, rfl⟩⟩; refine ⟨_, rfl, ?_⟩))
  go_ret
  exact ⟨by first | rfl | (simp [errW_none, errW_some] <;> rfl) | (simp [*, errW_none, errW_some] <;> rfl), by repeat (first | (with_reducible first | exact HB.out | apply below_alloc | apply pw_below_drewN | apply below_drew1 | refine below_set ?_ GE1968.out) | exact HB.out)⟩
 ·
  replace c5 := Bool.eq_false_iff.mpr c5
  subst c5
  have H1 : ((rational_Sign.f k a0_0 l0_1 l0_2).bind fun t1973 => (if t1973 = 0 then ((rational_Sign.f k false (([2] : List Int)) (([3] : List Int))).bind fun t1980 => (some (t1980 == 1))) else ((rational_Pow.f k a0_0 l0_1 l0_2 (wrap64 ((wrap64 (a1)) + (wrap64 (a2))))).bind fun bt1981 => ((rational_Pow.f k a0_0 l0_1 l0_2 (wrap64 (a1))).bind fun bt1990 => ((rational_Pow.f k a0_0 l0_1 l0_2 (wrap64 (a2))).bind fun bt1999 => (if bt1981.2.2.2 = 0 then (if bt1990.2.2.2 = 0 then (if bt1999.2.2.2 = 0 then ((rational_Mul.f k (([(⟨bt1990.1, bt1990.2.1, bt1990.2.2.1⟩ : S67), (⟨bt1999.1, bt1999.2.1, bt1999.2.2.1⟩ : S67)] : List (S67)))).bind fun bt2011 => ((codewrightlaw02_same.f k bt1981.1 bt1981.2.1 bt1981.2.2.1 bt2011.1 bt2011.2.1 bt2011.2.2).bind fun t2018 => (some t2018))) else (none)) else (none)) else (none))))))) = some r := by rw [if_neg (show ¬ (false = true) by decide)] at H; exact H
  clear H
  have H := H1
  clear H1
  replace H := Option.bind_eq_some_iff.mp H
  obtain ⟨t1973, A110, H⟩ := H
  replace H : (if t1973 = 0 then ((rational_Sign.f k false (([2] : List Int)) (([3] : List Int))).bind fun t1980 => (some (t1980 == 1))) else ((rational_Pow.f k a0_0 l0_1 l0_2 (wrap64 ((wrap64 (a1)) + (wrap64 (a2))))).bind fun bt1981 => ((rational_Pow.f k a0_0 l0_1 l0_2 (wrap64 (a1))).bind fun bt1990 => ((rational_Pow.f k a0_0 l0_1 l0_2 (wrap64 (a2))).bind fun bt1999 => (if bt1981.2.2.2 = 0 then (if bt1990.2.2.2 = 0 then (if bt1999.2.2.2 = 0 then ((rational_Mul.f k (([(⟨bt1990.1, bt1990.2.1, bt1990.2.2.1⟩ : S67), (⟨bt1999.1, bt1999.2.1, bt1999.2.2.1⟩ : S67)] : List (S67)))).bind fun bt2011 => ((codewrightlaw02_same.f k bt1981.1 bt1981.2.1 bt1981.2.2.1 bt2011.1 bt2011.2.1 bt2011.2.2).bind fun t2018 => (some t2018))) else (none)) else (none)) else (none)))))) = some r := H
  have A11 := Aside0.mk A110
  clear A110
  by_cases c12 : t1973 = 0
  ·
   rw [if_pos c12] at H
   have c12b0 : (t1973 == 0) = true := beq_iff_eq.mpr c12
   have c12b1 : (t1973 != 0) = false := bne_eq_false_iff_eq.mpr c12
   clear c12
   obtain ⟨y1974, hy1974⟩ : ∃ y_ : List Int, y_ = (([2] : List Int)) := ⟨_, rfl⟩
   replace H : ((rational_Sign.f k false y1974 (([3] : List Int))).bind fun t1980 => (some (t1980 == 1))) = some r := by first | (rw [hy1974]; with_reducible exact H) | (have H2_ := (Option.bind_some _ _).symm.trans H; rw [hy1974]; with_reducible exact H2_) | (have H2_ := (Option.bind_some _ _).symm.trans H; with_reducible exact H2_) | with_reducible exact H | (rw [hy1974]; exact H) | exact H
   have Ny1974 := Aside0.mk hy1974
   clear hy1974
   obtain ⟨y1977, hy1977⟩ : ∃ y_ : List Int, y_ = (([3] : List Int)) := ⟨_, rfl⟩
   replace H : ((rational_Sign.f k false y1974 y1977).bind fun t1980 => (some (t1980 == 1))) = some r := by first | (rw [hy1977]; with_reducible exact H) | (have H2_ := (Option.bind_some _ _).symm.trans H; rw [hy1977]; with_reducible exact H2_) | (have H2_ := (Option.bind_some _ _).symm.trans H; with_reducible exact H2_) | with_reducible exact H | (rw [hy1977]; exact H) | exact H
   have Ny1977 := Aside0.mk hy1977
   clear hy1977
   replace H := Option.bind_eq_some_iff.mp H
   obtain ⟨t1980, A130, H⟩ := H
   replace H : (some (t1980 == 1)) = some r := H
   have A13 := Aside0.mk A130
   clear A130
   obtain rfl := Option.some.inj H
   go_enter Try.func17, Try.ntmps17
   go_wp2_with (first | ((with_reducible refine gate_dst (N := 3) rfl ?_); (try (refine gate_guard (by rfl) ?_; dsimp only)); refine box_event ?hg (N := 3) ?hd (cs := #[.bool a0_0, .slice A0_1 l0_1.length c0_1, .slice A0_2 l0_2.length c0_2]) (t := 67) ?hr ?_; (case hd => rfl); (case hg => rfl); (case hr => first | (go_simp; done) | (go_simp; rfl)); intro gb1968 hg w14 hbox hb; replace HO0_1 := ke HO0_1 hg hb; replace HO0_2 := ke HO0_2 hg hb; have BK1968 := Aside0.mk (hbox); have GW1968 := ng hg (bu HB.out); have GE1968 := ng hg (bu HB.out); replace HB := Aside0.mk (below_step (bu HB.out) hb); clear hb hbox hg; have hcz15_0 : w14.cell? ⟨gb1968, 0, none⟩ = some (.bool a0_0) := bc BK1968 0; have hcz15_1 : w14.cell? ⟨gb1968, 1, none⟩ = some (.slice A0_1 l0_1.length c0_1) := bc BK1968 1; have hcz15_2 : w14.cell? ⟨gb1968, 2, none⟩ = some (.slice A0_2 l0_2.length c0_2) := bc BK1968 2; have hfz15_0 := blk_frozen BK1968.out 0; have hfz15_1 := blk_frozen BK1968.out 1; have hfz15_2 := blk_frozen BK1968.out 2) | ((with_reducible refine gate_dst (N := 14) rfl ?_); (try (refine gate_guard (by rfl) ?_; dsimp only)); refine Kd.N_lit k67 _ 67 ?hg (N' := 14) ?hd (xs := ([(⟨a0_0, l0_1, l0_2⟩ : S67)] : List (S67))) (inner := [.bool a0_0, .slice A0_1 l0_1.length c0_1, .slice A0_2 l0_2.length c0_2]) (ok := (fun k_ => ((P0_1_ k_ ∨ P0_2_ k_) ∨ w.heap.size ≤ k_) ∧ k_ ≠ gb1968)) (okp := (fun k_ => ((P0_1_ k_ ∨ P0_2_ k_) ∨ w.heap.size ≤ k_) ∧ k_ ≠ gb1968)) ?hr ?hp (fun _ hk => hk) ((show ∀ k_, w14.heap.size ≤ k_ → (fun k_ => ((P0_1_ k_ ∨ P0_2_ k_) ∨ w.heap.size ≤ k_) ∧ k_ ≠ gb1968) k_ from fun k_ hk => ⟨(.inr (Nat.le_trans (below_size (bu1 HB.out GE1968.out)) hk)), Kd.freshB (g := gb1968) (o := .cells #[.bool a0_0, .slice A0_1 l0_1.length c0_1, .slice A0_2 l0_2.length c0_2] 67 (0, 0)) (ku BK1968.out) k_ hk⟩) _ (Nat.le_refl _)) (Below.refl _ _) (Nat.le_refl _) (by simp) ?_; (case hd => rfl); (case hg => rfl); (case hr => first | (go_simp; done) | (go_simp; rfl)); (case hp => exact (Reps.c3 (show Kd.FK k67 _ _ (⟨a0_0, l0_1, l0_2⟩ : S67) [.bool a0_0, .slice A0_1 l0_1.length c0_1, .slice A0_2 l0_2.length c0_2] from (k67_mkF _ _ (⟨a0_0, l0_1, l0_2⟩ : S67) (Kd.V_reads' (vy ((fun k_ => ((P0_1_ k_ ∨ P0_2_ k_) ∨ w.heap.size ≤ k_) ∧ k_ ≠ gb1968)) HO0_1.out)).2.1 (Kd.V_F (vy ((fun k_ => ((P0_1_ k_ ∨ P0_2_ k_) ∨ w.heap.size ≤ k_) ∧ k_ ≠ gb1968)) HO0_1.out)) (Kd.V_reads' (vy ((fun k_ => ((P0_1_ k_ ∨ P0_2_ k_) ∨ w.heap.size ≤ k_) ∧ k_ ≠ gb1968)) HO0_2.out)).2.1 (Kd.V_F (vy ((fun k_ => ((P0_1_ k_ ∨ P0_2_ k_) ∨ w.heap.size ≤ k_) ∧ k_ ≠ gb1968)) HO0_2.out)))) (Reps.none _ _))); intro v1970 w16 ho17 hb hg_ hnew_; clear hg_ hnew_; (first | rw [← Ny1969.out] at ho17 | (simp only [Int.reduceToNat] at ho17; rw [← Ny1969.out] at ho17)); replace HO0_1 := Aside0.mk (Kd.V_elder' (vu HO0_1.out) (Kd.N_base ho17) hb); replace HO0_2 := Aside0.mk (Kd.V_elder' (vu HO0_2.out) (Kd.N_base ho17) hb); have HO1971 := Aside0.mk (Kd.N_lower ho17 (below_size (bu1 HB.out GE1968.out))); replace BK1968 := kb BK1968 hb; replace HB := Aside0.mk (below_step (bu1 HB.out GE1968.out) hb); clear hb ho17; obtain ⟨Ao18, co18, eo18⟩ := Kd.N_slice HO1971.out; subst eo18) | ((with_reducible refine gate_callee (f := 86) rfl ?_); refine goesL_ (some 15) rfl rfl Try.func86 (by kernel_rfl) rfl #[.int .i64 2, .slice Ao18 y1969.length co18] rfl lu ?_; (with_reducible refine (codewrightlaw02_long.calls k 2 _ _ y1969 false _ ?side1 ?side2 A4.out).mono ?_); (case side1 => exact cu (Kd.N_reads' HO1971.out).2.2); (case side2 => exact (Kd.N_reads' HO1971.out).2.1); rintro e w' ⟨rfl, ⟨nd, rfl⟩⟩; refine ⟨_, rfl, ?_⟩; have hcz19_0 : w16.cell? ⟨gb1968, 0, none⟩ = some (.bool a0_0) := bc BK1968 0; have hcz19_1 : w16.cell? ⟨gb1968, 1, none⟩ = some (.slice A0_1 l0_1.length c0_1) := bc BK1968 1; have hcz19_2 : w16.cell? ⟨gb1968, 2, none⟩ = some (.slice A0_2 l0_2.length c0_2) := bc BK1968 2; have hfz19_0 := blk_frozen BK1968.out 0; have hfz19_1 := blk_frozen BK1968.out 1; have hfz19_2 := blk_frozen BK1968.out 2) | ((with_reducible refine gate_callee (f := 91) rfl ?_); refine goesL_ (some 17) rfl rfl Try.func91 (by kernel_rfl) rfl #[.agg #[.bool a0_0, .slice A0_1 l0_1.length c0_1, .slice A0_2 l0_2.length c0_2]] rfl lu ?_; (with_reducible refine (rational_Sign.calls k a0_0 _ _ l0_1 _ _ l0_2 t1973 _ ?side1 ?side2 ?side3 ?side4 A11.out).mono ?_); (case side1 => exact cu (Kd.V_reads' HO0_1.out).2.2); (case side2 => exact (Kd.V_reads' HO0_1.out).2.1); (case side3 => exact cu (Kd.V_reads' HO0_2.out).2.2); (case side4 => exact (Kd.V_reads' HO0_2.out).2.1); rintro e w20 ⟨rfl, hb⟩; refine ⟨_, rfl, ?_⟩; replace HO0_1 := kv HO0_1 hb; replace HO0_2 := kv HO0_2 hb; replace HO1971 := Aside0.mk (Kd.N_below (nu HO1971.out) hb); replace BK1968 := kb BK1968 hb; replace HB := Aside0.mk (below_step (bu1 HB.out GE1968.out) hb); (try clear hb); (try clear hb2); (try clear hk); (try clear hi)) | ((with_reducible refine gate_dst (N := 19) rfl ?_); (try (refine gate_guard (by rfl) ?_; dsimp only)); refine Kd.R_lit (Kd.int .u32) _ 48 ?hg (N := 19) ?hd (xs := ([2] : List Int)) (inner := [.int .u32 2]) (ok := fun _ => True) (okp := fun _ => True) ?hr ?hp (fun _ hk => hk) trivial (Below.refl _ _) (Nat.le_refl _) (by simp) ?_; (case hd => rfl); (case hg => rfl); (case hr => first | (go_simp; done) | (go_simp; rfl)); (case hp => exact (Reps.one (show Kd.M (Kd.int .u32) _ _ _ 2 [.int .u32 2] from rfl) (Reps.none _ _))); intro v1975 w21 ho22 hb hg_ hnew_; clear hg_ hnew_; (first | rw [← Ny1974.out] at ho22 | (simp only [Int.reduceToNat] at ho22; rw [← Ny1974.out] at ho22)); replace HO0_1 := Aside0.mk (Kd.V_elder' (vu HO0_1.out) (Kd.R_base ho22) hb); replace HO0_2 := Aside0.mk (Kd.V_elder' (vu HO0_2.out) (Kd.R_base ho22) hb); replace HO1971 := Aside0.mk (Kd.N_elder' (nu HO1971.out) (Kd.R_base ho22) hb); have HO1976 := Aside0.mk (Kd.R_lower (Kd.R_newM (M := fun k_ => (w.heap.size ≤ k_)) ho22 (below_size (bu1 HB.out GE1968.out)) (fun k_ h_ => h_)) (below_size (bu1 HB.out GE1968.out))); replace BK1968 := kb BK1968 hb; replace HB := Aside0.mk (below_step (bu1 HB.out GE1968.out) hb); clear hb ho22) | ((with_reducible refine gate_dst (N := 20) rfl ?_); (try (refine gate_guard (by rfl) ?_; dsimp only)); refine Kd.R_lit (Kd.int .u32) _ 48 ?hg (N := 20) ?hd (xs := ([3] : List Int)) (inner := [.int .u32 3]) (ok := fun _ => True) (okp := fun _ => True) ?hr ?hp (fun _ hk => hk) trivial (Below.refl _ _) (Nat.le_refl _) (by simp) ?_; (case hd => rfl); (case hg => rfl); (case hr => first | (go_simp; done) | (go_simp; rfl)); (case hp => exact (Reps.one (show Kd.M (Kd.int .u32) _ _ _ 3 [.int .u32 3] from rfl) (Reps.none _ _))); intro v1978 w23 ho24 hb hg_ hnew_; clear hg_ hnew_; (first | rw [← Ny1977.out] at ho24 | (simp only [Int.reduceToNat] at ho24; rw [← Ny1977.out] at ho24)); replace HO0_1 := Aside0.mk (Kd.V_elder' (vu HO0_1.out) (Kd.R_base ho24) hb); replace HO0_2 := Aside0.mk (Kd.V_elder' (vu HO0_2.out) (Kd.R_base ho24) hb); replace HO1971 := Aside0.mk (Kd.N_elder' (nu HO1971.out) (Kd.R_base ho24) hb); have HO1979 := Aside0.mk (Kd.R_lower (Kd.R_new' (Kd.R_newM (M := fun k_ => (w.heap.size ≤ k_)) ho24 (below_size (bu1 HB.out GE1968.out)) (fun k_ h_ => h_)) (Kd.R_lt (by (with_reducible repeat (first | apply Kd.R_alloc | apply Kd.R_drewN | apply Kd.R_drew)); exact HO1976.out))) (below_size (bu1 HB.out GE1968.out))); replace HO1976 := Aside0.mk (Kd.R_elder' (by (with_reducible repeat (first | apply Kd.R_alloc | apply Kd.R_drewN | apply Kd.R_drew)); exact HO1976.out) (Kd.R_base ho24) hb); replace BK1968 := kb BK1968 hb; replace HB := Aside0.mk (below_step (bu1 HB.out GE1968.out) hb); clear hb ho24; obtain ⟨Ao25, co25, eo25⟩ := Kd.R_slice HO1979.out; subst eo25; obtain ⟨Ao26, co26, eo26⟩ := Kd.R_slice HO1976.out; subst eo26) | ((with_reducible refine gate_callee (f := 91) rfl ?_); refine goesL_ (some 22) rfl rfl Try.func91 (by kernel_rfl) rfl #[.agg #[.bool false, .slice Ao26 y1974.length co26, .slice Ao25 y1977.length co25]] rfl lu ?_; (with_reducible refine (rational_Sign.calls k false _ _ y1974 _ _ y1977 t1980 _ ?side1 ?side2 ?side3 ?side4 A13.out).mono ?_); (case side1 => exact cu (Kd.R_reads' HO1976.out).2.2); (case side2 => exact (Kd.R_reads' HO1976.out).2.1); (case side3 => exact cu (Kd.R_reads' HO1979.out).2.2); (case side4 => exact (Kd.R_reads' HO1979.out).2.1); rintro e w27 ⟨rfl, hb⟩; refine ⟨_, rfl, ?_⟩; replace HO0_1 := kv HO0_1 hb; replace HO0_2 := kv HO0_2 hb; replace HO1971 := Aside0.mk (Kd.N_below (nu HO1971.out) hb); replace HO1976 := Aside0.mk (Kd.R_below (by (with_reducible repeat (first | apply Kd.R_alloc | apply Kd.R_drewN | apply Kd.R_drew)); exact HO1976.out) hb); replace HO1979 := Aside0.mk (Kd.R_below (by (with_reducible repeat (first | apply Kd.R_alloc | apply Kd.R_drewN | apply Kd.R_drew)); exact HO1979.out) hb); replace BK1968 := kb BK1968 hb; replace HB := Aside0.mk (below_step (bu1 HB.out GE1968.out) hb); (try clear hb); (try clear hb2); (try clear hk); (try clear hi)))
   go_ret
   exact ⟨by first | rfl | (simp [errW_none, errW_some] <;> rfl) | (simp [*, errW_none, errW_some] <;> rfl), by repeat (first | (with_reducible first | exact HB.out | apply below_alloc | apply pw_below_drewN | apply below_drew1 | refine below_set ?_ GE1968.out) | exact HB.out)⟩
  ·
   rw [if_neg c12] at H
   have c12b0 : (t1973 == 0) = false := beq_eq_false_iff_ne.mpr c12
   have c12b1 : (t1973 != 0) = true := bne_iff_ne.mpr c12
   replace H := Option.bind_eq_some_iff.mp H
   obtain ⟨⟨t1981, t1982, t1985, t1988⟩, A280, H⟩ := H
   replace H : ((rational_Pow.f k a0_0 l0_1 l0_2 (wrap64 (a1))).bind fun bt1990 => ((rational_Pow.f k a0_0 l0_1 l0_2 (wrap64 (a2))).bind fun bt1999 => (if t1988 = 0 then (if bt1990.2.2.2 = 0 then (if bt1999.2.2.2 = 0 then ((rational_Mul.f k (([(⟨bt1990.1, bt1990.2.1, bt1990.2.2.1⟩ : S67), (⟨bt1999.1, bt1999.2.1, bt1999.2.2.1⟩ : S67)] : List (S67)))).bind fun bt2011 => ((codewrightlaw02_same.f k t1981 t1982 t1985 bt2011.1 bt2011.2.1 bt2011.2.2).bind fun t2018 => (some t2018))) else (none)) else (none)) else (none)))) = some r := H
   have A28 := Aside0.mk A280
   clear A280
   replace H := Option.bind_eq_some_iff.mp H
   obtain ⟨⟨t1990, t1991, t1994, t1997⟩, A290, H⟩ := H
   replace H : ((rational_Pow.f k a0_0 l0_1 l0_2 (wrap64 (a2))).bind fun bt1999 => (if t1988 = 0 then (if t1997 = 0 then (if bt1999.2.2.2 = 0 then ((rational_Mul.f k (([(⟨t1990, t1991, t1994⟩ : S67), (⟨bt1999.1, bt1999.2.1, bt1999.2.2.1⟩ : S67)] : List (S67)))).bind fun bt2011 => ((codewrightlaw02_same.f k t1981 t1982 t1985 bt2011.1 bt2011.2.1 bt2011.2.2).bind fun t2018 => (some t2018))) else (none)) else (none)) else (none))) = some r := H
   have A29 := Aside0.mk A290
   clear A290
   replace H := Option.bind_eq_some_iff.mp H
   obtain ⟨⟨t1999, t2000, t2003, t2006⟩, A300, H⟩ := H
   replace H : (if t1988 = 0 then (if t1997 = 0 then (if t2006 = 0 then ((rational_Mul.f k (([(⟨t1990, t1991, t1994⟩ : S67), (⟨t1999, t2000, t2003⟩ : S67)] : List (S67)))).bind fun bt2011 => ((codewrightlaw02_same.f k t1981 t1982 t1985 bt2011.1 bt2011.2.1 bt2011.2.2).bind fun t2018 => (some t2018))) else (none)) else (none)) else (none)) = some r := H
   have A30 := Aside0.mk A300
   clear A300
   by_cases c31 : t1988 = 0
   ·
    rw [if_pos c31] at H
    have c31b0 : (t1988 == 0) = true := beq_iff_eq.mpr c31
    have c31b1 : (t1988 != 0) = false := bne_eq_false_iff_eq.mpr c31
    clear c31
    by_cases c32 : t1997 = 0
    ·
     rw [if_pos c32] at H
     have c32b0 : (t1997 == 0) = true := beq_iff_eq.mpr c32
     have c32b1 : (t1997 != 0) = false := bne_eq_false_iff_eq.mpr c32
     clear c32
     by_cases c33 : t2006 = 0
     ·
      rw [if_pos c33] at H
      have c33b0 : (t2006 == 0) = true := beq_iff_eq.mpr c33
      have c33b1 : (t2006 != 0) = false := bne_eq_false_iff_eq.mpr c33
      clear c33
      obtain ⟨y2008, hy2008⟩ : ∃ y_ : List (S67), y_ = (([(⟨t1990, t1991, t1994⟩ : S67), (⟨t1999, t2000, t2003⟩ : S67)] : List (S67))) := ⟨_, rfl⟩
      replace H : ((rational_Mul.f k y2008).bind fun bt2011 => ((codewrightlaw02_same.f k t1981 t1982 t1985 bt2011.1 bt2011.2.1 bt2011.2.2).bind fun t2018 => (some t2018))) = some r := by first | (rw [hy2008]; with_reducible exact H) | (have H2_ := (Option.bind_some _ _).symm.trans H; rw [hy2008]; with_reducible exact H2_) | (have H2_ := (Option.bind_some _ _).symm.trans H; with_reducible exact H2_) | with_reducible exact H | (rw [hy2008]; exact H) | exact H
      have Ny2008 := Aside0.mk hy2008
      clear hy2008
      replace H := Option.bind_eq_some_iff.mp H
      obtain ⟨⟨t2011, t2012, t2015⟩, A340, H⟩ := H
      replace H : ((codewrightlaw02_same.f k t1981 t1982 t1985 t2011 t2012 t2015).bind fun t2018 => (some t2018)) = some r := H
      have A34 := Aside0.mk A340
      clear A340
      replace H := Option.bind_eq_some_iff.mp H
      obtain ⟨t2018, A350, H⟩ := H
      replace H : (some t2018) = some r := H
      have A35 := Aside0.mk A350
      clear A350
      obtain rfl := Option.some.inj H
      go_enter Try.func17, Try.ntmps17
      try go_wp2_with (first | ((with_reducible refine gate_dst (N := 3) rfl ?_); (try (refine gate_guard (by rfl) ?_; dsimp only)); refine box_event ?hg (N := 3) ?hd (cs := #[.bool a0_0, .slice A0_1 l0_1.length c0_1, .slice A0_2 l0_2.length c0_2]) (t := 67) ?hr ?_; (case hd => rfl); (case hg => rfl); (case hr => first | (go_simp; done) | (go_simp; rfl)); intro gb1968 hg w36 hbox hb; replace HO0_1 := ke HO0_1 hg hb; replace HO0_2 := ke HO0_2 hg hb; have BK1968 := Aside0.mk (hbox); have GW1968 := ng hg (bu HB.out); have GE1968 := ng hg (bu HB.out); replace HB := Aside0.mk (below_step (bu HB.out) hb); clear hb hbox hg; have hcz37_0 : w36.cell? ⟨gb1968, 0, none⟩ = some (.bool a0_0) := bc BK1968 0; have hcz37_1 : w36.cell? ⟨gb1968, 1, none⟩ = some (.slice A0_1 l0_1.length c0_1) := bc BK1968 1; have hcz37_2 : w36.cell? ⟨gb1968, 2, none⟩ = some (.slice A0_2 l0_2.length c0_2) := bc BK1968 2; have hfz37_0 := blk_frozen BK1968.out 0; have hfz37_1 := blk_frozen BK1968.out 1; have hfz37_2 := blk_frozen BK1968.out 2) | ((with_reducible refine gate_dst (N := 14) rfl ?_); (try (refine gate_guard (by rfl) ?_; dsimp only)); refine Kd.N_lit k67 _ 67 ?hg (N' := 14) ?hd (xs := ([(⟨a0_0, l0_1, l0_2⟩ : S67)] : List (S67))) (inner := [.bool a0_0, .slice A0_1 l0_1.length c0_1, .slice A0_2 l0_2.length c0_2]) (ok := (fun k_ => ((P0_1_ k_ ∨ P0_2_ k_) ∨ w.heap.size ≤ k_) ∧ k_ ≠ gb1968)) (okp := (fun k_ => ((P0_1_ k_ ∨ P0_2_ k_) ∨ w.heap.size ≤ k_) ∧ k_ ≠ gb1968)) ?hr ?hp (fun _ hk => hk) ((show ∀ k_, w36.heap.size ≤ k_ → (fun k_ => ((P0_1_ k_ ∨ P0_2_ k_) ∨ w.heap.size ≤ k_) ∧ k_ ≠ gb1968) k_ from fun k_ hk => ⟨(.inr (Nat.le_trans (below_size (bu1 HB.out GE1968.out)) hk)), Kd.freshB (g := gb1968) (o := .cells #[.bool a0_0, .slice A0_1 l0_1.length c0_1, .slice A0_2 l0_2.length c0_2] 67 (0, 0)) (ku BK1968.out) k_ hk⟩) _ (Nat.le_refl _)) (Below.refl _ _) (Nat.le_refl _) (by simp) ?_; (case hd => rfl); (case hg => rfl); (case hr => first | (go_simp; done) | (go_simp; rfl)); (case hp => exact (Reps.c3 (show Kd.FK k67 _ _ (⟨a0_0, l0_1, l0_2⟩ : S67) [.bool a0_0, .slice A0_1 l0_1.length c0_1, .slice A0_2 l0_2.length c0_2] from (k67_mkF _ _ (⟨a0_0, l0_1, l0_2⟩ : S67) (Kd.V_reads' (vy ((fun k_ => ((P0_1_ k_ ∨ P0_2_ k_) ∨ w.heap.size ≤ k_) ∧ k_ ≠ gb1968)) HO0_1.out)).2.1 (Kd.V_F (vy ((fun k_ => ((P0_1_ k_ ∨ P0_2_ k_) ∨ w.heap.size ≤ k_) ∧ k_ ≠ gb1968)) HO0_1.out)) (Kd.V_reads' (vy ((fun k_ => ((P0_1_ k_ ∨ P0_2_ k_) ∨ w.heap.size ≤ k_) ∧ k_ ≠ gb1968)) HO0_2.out)).2.1 (Kd.V_F (vy ((fun k_ => ((P0_1_ k_ ∨ P0_2_ k_) ∨ w.heap.size ≤ k_) ∧ k_ ≠ gb1968)) HO0_2.out)))) (Reps.none _ _))); intro v1970 w38 ho39 hb hg_ hnew_; clear hg_ hnew_; (first | rw [← Ny1969.out] at ho39 | (simp only [Int.reduceToNat] at ho39; rw [← Ny1969.out] at ho39)); replace HO0_1 := Aside0.mk (Kd.V_elder' (vu HO0_1.out) (Kd.N_base ho39) hb); replace HO0_2 := Aside0.mk (Kd.V_elder' (vu HO0_2.out) (Kd.N_base ho39) hb); have HO1971 := Aside0.mk (Kd.N_lower ho39 (below_size (bu1 HB.out GE1968.out))); replace BK1968 := kb BK1968 hb; replace HB := Aside0.mk (below_step (bu1 HB.out GE1968.out) hb); clear hb ho39; obtain ⟨Ao40, co40, eo40⟩ := Kd.N_slice HO1971.out; subst eo40) | ((with_reducible refine gate_callee (f := 86) rfl ?_); refine goesL_ (some 15) rfl rfl Try.func86 (by kernel_rfl) rfl #[.int .i64 2, .slice Ao40 y1969.length co40] rfl lu ?_; (with_reducible refine (codewrightlaw02_long.calls k 2 _ _ y1969 false _ ?side1 ?side2 A4.out).mono ?_); (case side1 => exact cu (Kd.N_reads' HO1971.out).2.2); (case side2 => exact (Kd.N_reads' HO1971.out).2.1); rintro e w' ⟨rfl, ⟨nd, rfl⟩⟩; refine ⟨_, rfl, ?_⟩; (try (rw [drewN_self w38]; generalize hq_ : World.drewN w38 _ = w38; have n0_ : Aside0 (Kd.V (Kd.int .u32) 48 w38 w.heap.size (fun k_ => ((P0_1_ k_ ∨ P0_2_ k_) ∨ w.heap.size ≤ k_) ∧ some k_ ≠ (.slice Ao40 y1969.length co40 : Value).ownBlock ∧ k_ ≠ gb1968) (.slice A0_1 l0_1.length c0_1) l0_1) := ⟨by rw [← hq_]; exact vz HO0_1.out⟩; have n1_ : Aside0 (Kd.V (Kd.int .u32) 48 w38 w.heap.size (fun k_ => ((P0_1_ k_ ∨ P0_2_ k_) ∨ w.heap.size ≤ k_) ∧ some k_ ≠ (.slice Ao40 y1969.length co40 : Value).ownBlock ∧ k_ ≠ gb1968) (.slice A0_2 l0_2.length c0_2) l0_2) := ⟨by rw [← hq_]; exact vz HO0_2.out⟩; have n2_ : Aside0 (Kd.N k67 67 w38 w.heap.size (fun k_ => ((P0_1_ k_ ∨ P0_2_ k_) ∨ w.heap.size ≤ k_) ∧ k_ ≠ gb1968) (.slice Ao40 y1969.length co40) y1969) := ⟨by rw [← hq_]; exact (nu HO1971.out)⟩; have n3_ : Aside0 (w38.heap[gb1968]? = some (.cells #[.bool a0_0, .slice A0_1 l0_1.length c0_1, .slice A0_2 l0_2.length c0_2] 67 (0, 0))) := ⟨by rw [← hq_]; exact (ku BK1968.out)⟩; have n4_ : Aside0 (Below w.heap.size w w38) := ⟨by rw [← hq_]; exact (bu1 HB.out GE1968.out)⟩; clear HO0_1 HO0_2 HO1971 BK1968 HB hq_; have HO0_1 := n0_; have HO0_2 := n1_; have HO1971 := n2_; have BK1968 := n3_; have HB := n4_; clear n0_ n1_ n2_ n3_ n4_)); have hcz41_0 : w38.cell? ⟨gb1968, 0, none⟩ = some (.bool a0_0) := bc BK1968 0; have hcz41_1 : w38.cell? ⟨gb1968, 1, none⟩ = some (.slice A0_1 l0_1.length c0_1) := bc BK1968 1; have hcz41_2 : w38.cell? ⟨gb1968, 2, none⟩ = some (.slice A0_2 l0_2.length c0_2) := bc BK1968 2; have hfz41_0 := blk_frozen BK1968.out 0; have hfz41_1 := blk_frozen BK1968.out 1; have hfz41_2 := blk_frozen BK1968.out 2) | ((with_reducible refine gate_callee (f := 91) rfl ?_); refine goesL_ (some 17) rfl rfl Try.func91 (by kernel_rfl) rfl #[.agg #[.bool a0_0, .slice A0_1 l0_1.length c0_1, .slice A0_2 l0_2.length c0_2]] rfl lu ?_; (with_reducible refine (rational_Sign.calls k a0_0 _ _ l0_1 _ _ l0_2 t1973 _ ?side1 ?side2 ?side3 ?side4 A11.out).mono ?_); (case side1 => exact cu (Kd.V_reads' HO0_1.out).2.2); (case side2 => exact (Kd.V_reads' HO0_1.out).2.1); (case side3 => exact cu (Kd.V_reads' HO0_2.out).2.2); (case side4 => exact (Kd.V_reads' HO0_2.out).2.1); rintro e w42 ⟨rfl, hb⟩; refine ⟨_, rfl, ?_⟩; replace HO0_1 := kv HO0_1 hb; replace HO0_2 := kv HO0_2 hb; replace HO1971 := Aside0.mk (Kd.N_below (nu HO1971.out) hb); replace BK1968 := kb BK1968 hb; replace HB := Aside0.mk (below_step (bu1 HB.out GE1968.out) hb); (try clear hb); (try clear hb2); (try clear hk); (try clear hi); have hcz43_0 : w42.cell? ⟨gb1968, 0, none⟩ = some (.bool a0_0) := bc BK1968 0; have hcz43_1 : w42.cell? ⟨gb1968, 1, none⟩ = some (.slice A0_1 l0_1.length c0_1) := bc BK1968 1; have hcz43_2 : w42.cell? ⟨gb1968, 2, none⟩ = some (.slice A0_2 l0_2.length c0_2) := bc BK1968 2; have hfz43_0 := blk_frozen BK1968.out 0; have hfz43_1 := blk_frozen BK1968.out 1; have hfz43_2 := blk_frozen BK1968.out 2) | ((with_reducible refine gate_callee (f := 96) rfl ?_); refine goesL_ (some 31) rfl rfl Try.func96 (by kernel_rfl) rfl #[.agg #[.bool a0_0, .slice A0_1 l0_1.length c0_1, .slice A0_2 l0_2.length c0_2], .int .i64 (wrap64 ((wrap64 (a1)) + (wrap64 (a2))))] rfl lu ?_; (with_reducible refine (rational_Pow.calls k a0_0 (fun k_ => ((((P0_1_ k_ ∨ P0_2_ k_) ∨ w.heap.size ≤ k_) ∧ k_ ≠ gb1968) ∧ some k_ ≠ (.slice Ao40 y1969.length co40 : Value).ownBlock)) _ _ l0_1 (fun k_ => ((((P0_1_ k_ ∨ P0_2_ k_) ∨ w.heap.size ≤ k_) ∧ k_ ≠ gb1968) ∧ some k_ ≠ (.slice Ao40 y1969.length co40 : Value).ownBlock)) _ _ l0_2 (wrap64 ((wrap64 (a1)) + (wrap64 (a2)))) t1981 t1982 t1985 t1988 _ ?side1 ?side2 A28.out).mono ?_); (case side1 => first | exact HO0_1.out | exact vz HO0_1.out); (case side2 => first | exact HO0_2.out | exact vz HO0_2.out); rintro e w44 ⟨v1983, v1986, rfl, ho0, ho1, hb⟩; refine ⟨_, rfl, ?_⟩; replace HO0_1 := kv HO0_1 hb; replace HO0_2 := kv HO0_2 hb; have HO1984 := Aside0.mk (Kd.V_lower (Kd.V_mono (ok' := fun k_ => ((P0_1_ k_ ∨ P0_2_ k_) ∨ w.heap.size ≤ k_) ∧ some k_ ≠ (.slice Ao40 y1969.length co40 : Value).ownBlock ∧ k_ ≠ gb1968) ho0 (fun k_ hk_ => ⟨Or.elim hk_ (fun hs_ => Or.elim hs_ (fun hs_ => hs_.1.1) (fun hs_ => hs_.1.1)) (fun hn_ => (.inr (Nat.le_trans (below_size (bu1 HB.out GE1968.out)) hn_))), Or.elim hk_ (fun hs_ => Or.elim hs_ (fun hs_ => hs_.2) (fun hs_ => hs_.2)) (fun hn_ => (Kd.fresh' (Kd.N_lt (nu HO1971.out)) k_ hn_)), Or.elim hk_ (fun hs_ => Or.elim hs_ (fun hs_ => hs_.1.2) (fun hs_ => hs_.1.2)) (fun hn_ => (Kd.freshB (g := gb1968) (o := .cells #[.bool a0_0, .slice A0_1 l0_1.length c0_1, .slice A0_2 l0_2.length c0_2] 67 (0, 0)) (ku BK1968.out) k_ hn_))⟩)) (below_size (bu1 HB.out GE1968.out))); have HO1987 := Aside0.mk (Kd.V_lower (Kd.V_mono (ok' := fun k_ => ((P0_1_ k_ ∨ P0_2_ k_) ∨ w.heap.size ≤ k_) ∧ some k_ ≠ (.slice Ao40 y1969.length co40 : Value).ownBlock ∧ k_ ≠ gb1968) ho1 (fun k_ hk_ => ⟨Or.elim hk_ (fun hs_ => Or.elim hs_ (fun hs_ => hs_.1.1) (fun hs_ => hs_.1.1)) (fun hn_ => (.inr (Nat.le_trans (below_size (bu1 HB.out GE1968.out)) hn_))), Or.elim hk_ (fun hs_ => Or.elim hs_ (fun hs_ => hs_.2) (fun hs_ => hs_.2)) (fun hn_ => (Kd.fresh' (Kd.N_lt (nu HO1971.out)) k_ hn_)), Or.elim hk_ (fun hs_ => Or.elim hs_ (fun hs_ => hs_.1.2) (fun hs_ => hs_.1.2)) (fun hn_ => (Kd.freshB (g := gb1968) (o := .cells #[.bool a0_0, .slice A0_1 l0_1.length c0_1, .slice A0_2 l0_2.length c0_2] 67 (0, 0)) (ku BK1968.out) k_ hn_))⟩)) (below_size (bu1 HB.out GE1968.out))); replace HO1971 := Aside0.mk (Kd.N_below (nu HO1971.out) hb); replace BK1968 := kb BK1968 hb; replace HB := Aside0.mk (below_step (bu1 HB.out GE1968.out) hb); (try clear hb); (try clear hb2); (try clear hk); (try clear hi); (try clear ho0); (try clear ho1)) | ((with_reducible refine gate_dst (N := 7) rfl ?_); (try (refine gate_guard (by rfl) ?_; dsimp only)); refine box_event ?hg (N := 7) ?hd (cs := #[.bool false, .slice none 0 0, .slice none 0 0]) (t := 67) ?hr ?_; (case hd => rfl); (case hg => rfl); (case hr => first | (go_simp; done) | (go_simp; rfl)); intro gb1989 hg w45 hbox hb; replace HO0_1 := ke HO0_1 hg hb; replace HO0_2 := ke HO0_2 hg hb; replace HO1971 := Aside0.mk (Kd.N_below (Kd.N_elderB (nu HO1971.out) gb1989 (Nat.le_of_eq hg.symm)) hb); replace HO1984 := ke HO1984 hg hb; replace HO1987 := ke HO1987 hg hb; have BK1989 := Aside0.mk (hbox); have GW1989 := ng hg (bu1 HB.out GE1968.out); have GE1989 := ng hg (bu1 HB.out GE1968.out); replace HB := Aside0.mk (below_step (bu1 HB.out GE1968.out) hb); have NB1968_1989 := nl hg BK1968; have NB1989_1968 := nr hg BK1968; replace BK1968 := kb BK1968 hb; clear hb hbox hg; have hnb46 := NB1989_1968.out; have hnc46 := NB1968_1989.out; have hcz47_0 : w45.cell? ⟨gb1989, 0, none⟩ = some (.bool false) := bc BK1989 0; have hcz47_1 : w45.cell? ⟨gb1989, 1, none⟩ = some (.slice none 0 0) := bc BK1989 1; have hcz47_2 : w45.cell? ⟨gb1989, 2, none⟩ = some (.slice none 0 0) := bc BK1989 2; have hfz47_0 := blk_frozen BK1989.out 0; have hfz47_1 := blk_frozen BK1989.out 1; have hfz47_2 := blk_frozen BK1989.out 2; obtain ⟨Ao48, co48, eo48⟩ := Kd.V_slice HO1984.out; subst eo48; obtain ⟨Ao49, co49, eo49⟩ := Kd.V_slice HO1987.out; subst eo49) | ((with_reducible refine gate_store (t := 67) (p := 7) rfl ?_); refine store_event (t := 67) (p := 7) (v := ?vo_w50) (w1 := (((w45.setCell ⟨gb1989, 0, none⟩ (.bool t1981)).setCell ⟨gb1989, 1, none⟩ (.slice Ao48 t1982.length co48)).setCell ⟨gb1989, 2, none⟩ (.slice Ao49 t1985.length co49))) ?hg ?ho ?hn ?hr ?_; (case ho => rfl); (case hg => rfl); (case hn => rfl); (case hr => first | (go_simp; done) | (go_simp; rfl)); intro w50 hw; have n0_ : Aside0 (Kd.V (Kd.int .u32) 48 w50 w.heap.size (fun k_ => ((P0_1_ k_ ∨ P0_2_ k_) ∨ w.heap.size ≤ k_) ∧ some k_ ≠ (.slice Ao40 y1969.length co40 : Value).ownBlock ∧ k_ ≠ gb1968 ∧ k_ ≠ gb1989) (.slice A0_1 l0_1.length c0_1) l0_1) := ⟨(by rw [hw]; exact vf HO0_1.out)⟩; have n1_ : Aside0 (Kd.V (Kd.int .u32) 48 w50 w.heap.size (fun k_ => ((P0_1_ k_ ∨ P0_2_ k_) ∨ w.heap.size ≤ k_) ∧ some k_ ≠ (.slice Ao40 y1969.length co40 : Value).ownBlock ∧ k_ ≠ gb1968 ∧ k_ ≠ gb1989) (.slice A0_2 l0_2.length c0_2) l0_2) := ⟨(by rw [hw]; exact vf HO0_2.out)⟩; have n2_ : Aside0 (Kd.N k67 67 w50 w.heap.size (fun k_ => ((P0_1_ k_ ∨ P0_2_ k_) ∨ w.heap.size ≤ k_) ∧ k_ ≠ gb1968 ∧ k_ ≠ gb1989) (.slice Ao40 y1969.length co40) y1969) := ⟨(by rw [hw]; exact (by (with_reducible repeat (first | apply Kd.N_alloc | apply Kd.N_drewN | apply Kd.N_drew)); exact Kd.N_mono (Kd.N_far (p := ⟨gb1989, 2, none⟩) (Kd.N_far (p := ⟨gb1989, 1, none⟩) (Kd.N_far (p := ⟨gb1989, 0, none⟩) (Kd.N_mono HO1971.out (fun k_ hk => (⟨hk, hk.2⟩ : _ ∧ k_ ≠ gb1989))) (fun _ hk => hk.2) (.bool t1981)) (fun _ hk => hk.2) (.slice Ao48 t1982.length co48)) (fun _ hk => hk.2) (.slice Ao49 t1985.length co49)) (fun _ hk => ⟨hk.1.1.1, ⟨hk.1.1.2, hk.1.2⟩⟩)))⟩; have n3_ : Aside0 (Kd.V (Kd.int .u32) 48 w50 w.heap.size (fun k_ => ((P0_1_ k_ ∨ P0_2_ k_) ∨ w.heap.size ≤ k_) ∧ some k_ ≠ (.slice Ao40 y1969.length co40 : Value).ownBlock ∧ k_ ≠ gb1968 ∧ k_ ≠ gb1989) (.slice Ao48 t1982.length co48) t1982) := ⟨(by rw [hw]; exact vf HO1984.out)⟩; have n4_ : Aside0 (Kd.V (Kd.int .u32) 48 w50 w.heap.size (fun k_ => ((P0_1_ k_ ∨ P0_2_ k_) ∨ w.heap.size ≤ k_) ∧ some k_ ≠ (.slice Ao40 y1969.length co40 : Value).ownBlock ∧ k_ ≠ gb1968 ∧ k_ ≠ gb1989) (.slice Ao49 t1985.length co49) t1985) := ⟨(by rw [hw]; exact vf HO1987.out)⟩; have n5_ : Aside0 (w50.heap[gb1968]? = some (.cells #[.bool a0_0, .slice A0_1 l0_1.length c0_1, .slice A0_2 l0_2.length c0_2] 67 (0, 0))) := ⟨(by rw [hw]; exact (kf NB1968_1989.out BK1968.out))⟩; have n6_ : Aside0 (w50.heap[gb1989]? = some (.cells #[.bool t1981, .slice Ao48 t1982.length co48, .slice Ao49 t1985.length co49] 67 (0, 0))) := ⟨(by rw [hw]; exact (by (with_reducible repeat (first | refine blk_drewN ?_ _ | refine blk_drew ?_ | refine blk_alloc ?_ _)); refine blk_put (cs := #[.bool t1981, .slice Ao48 t1982.length co48, .slice none 0 0]) ?_ 2 _ rfl; (with_reducible repeat (first | refine blk_drewN ?_ _ | refine blk_drew ?_ | refine blk_alloc ?_ _)); refine blk_put (cs := #[.bool t1981, .slice none 0 0, .slice none 0 0]) ?_ 1 _ rfl; (with_reducible repeat (first | refine blk_drewN ?_ _ | refine blk_drew ?_ | refine blk_alloc ?_ _)); refine blk_put (cs := #[.bool false, .slice none 0 0, .slice none 0 0]) ?_ 0 _ rfl; (with_reducible repeat (first | refine blk_drewN ?_ _ | refine blk_drew ?_ | refine blk_alloc ?_ _)); exact BK1989.out))⟩; have n7_ : Aside0 (Below w.heap.size w w50) := ⟨(by rw [hw]; exact (bu2 HB.out GE1968.out GE1989.out))⟩; clear hw HO0_1 HO0_2 HO1971 HO1984 HO1987 BK1968 BK1989 HB; have HO0_1 := n0_; have HO0_2 := n1_; have HO1971 := n2_; have HO1984 := n3_; have HO1987 := n4_; have BK1968 := n5_; have BK1989 := n6_; have HB := n7_; clear n0_ n1_ n2_ n3_ n4_ n5_ n6_ n7_; have hcz51_0 : w50.cell? ⟨gb1968, 0, none⟩ = some (.bool a0_0) := bc BK1968 0; have hcz51_1 : w50.cell? ⟨gb1968, 1, none⟩ = some (.slice A0_1 l0_1.length c0_1) := bc BK1968 1; have hcz51_2 : w50.cell? ⟨gb1968, 2, none⟩ = some (.slice A0_2 l0_2.length c0_2) := bc BK1968 2; have hfz51_0 := blk_frozen BK1968.out 0; have hfz51_1 := blk_frozen BK1968.out 1; have hfz51_2 := blk_frozen BK1968.out 2) | ((with_reducible refine gate_callee (f := 96) rfl ?_); refine goesL_ (some 38) rfl rfl Try.func96 (by kernel_rfl) rfl #[.agg #[.bool a0_0, .slice A0_1 l0_1.length c0_1, .slice A0_2 l0_2.length c0_2], .int .i64 (wrap64 (a1))] rfl lu ?_; (with_reducible refine (rational_Pow.calls k a0_0 (fun k_ => (((P0_1_ k_ ∨ P0_2_ k_) ∨ w.heap.size ≤ k_) ∧ (some k_ ≠ (.slice Ao40 y1969.length co40 : Value).ownBlock ∧ (k_ ≠ gb1968 ∧ k_ ≠ gb1989)))) _ _ l0_1 (fun k_ => (((P0_1_ k_ ∨ P0_2_ k_) ∨ w.heap.size ≤ k_) ∧ (some k_ ≠ (.slice Ao40 y1969.length co40 : Value).ownBlock ∧ (k_ ≠ gb1968 ∧ k_ ≠ gb1989)))) _ _ l0_2 (wrap64 (a1)) t1990 t1991 t1994 t1997 _ ?side1 ?side2 A29.out).mono ?_); (case side1 => first | exact HO0_1.out | exact vz HO0_1.out); (case side2 => first | exact HO0_2.out | exact vz HO0_2.out); rintro e w52 ⟨v1992, v1995, rfl, ho0, ho1, hb⟩; refine ⟨_, rfl, ?_⟩; replace HO0_1 := kv HO0_1 hb; replace HO0_2 := kv HO0_2 hb; replace HO1984 := kv HO1984 hb; replace HO1987 := kv HO1987 hb; have HO1993 := Aside0.mk (Kd.V_lower (Kd.V_mono (ok' := fun k_ => ((P0_1_ k_ ∨ P0_2_ k_) ∨ w.heap.size ≤ k_) ∧ some k_ ≠ (.slice Ao40 y1969.length co40 : Value).ownBlock ∧ k_ ≠ gb1968 ∧ k_ ≠ gb1989) ho0 (fun k_ hk_ => ⟨Or.elim hk_ (fun hs_ => Or.elim hs_ (fun hs_ => hs_.1) (fun hs_ => hs_.1)) (fun hn_ => (.inr (Nat.le_trans (below_size (bu2 HB.out GE1968.out GE1989.out)) hn_))), Or.elim hk_ (fun hs_ => Or.elim hs_ (fun hs_ => hs_.2.1) (fun hs_ => hs_.2.1)) (fun hn_ => (Kd.fresh' (Kd.N_lt (nu HO1971.out)) k_ hn_)), Or.elim hk_ (fun hs_ => Or.elim hs_ (fun hs_ => hs_.2.2.1) (fun hs_ => hs_.2.2.1)) (fun hn_ => (Kd.freshB (g := gb1968) (o := .cells #[.bool a0_0, .slice A0_1 l0_1.length c0_1, .slice A0_2 l0_2.length c0_2] 67 (0, 0)) (ku BK1968.out) k_ hn_)), Or.elim hk_ (fun hs_ => Or.elim hs_ (fun hs_ => hs_.2.2.2) (fun hs_ => hs_.2.2.2)) (fun hn_ => (Kd.freshB (g := gb1989) (o := .cells #[.bool t1981, .slice Ao48 t1982.length co48, .slice Ao49 t1985.length co49] 67 (0, 0)) (ku BK1989.out) k_ hn_))⟩)) (below_size (bu2 HB.out GE1968.out GE1989.out))); have HO1996 := Aside0.mk (Kd.V_lower (Kd.V_mono (ok' := fun k_ => ((P0_1_ k_ ∨ P0_2_ k_) ∨ w.heap.size ≤ k_) ∧ some k_ ≠ (.slice Ao40 y1969.length co40 : Value).ownBlock ∧ k_ ≠ gb1968 ∧ k_ ≠ gb1989) ho1 (fun k_ hk_ => ⟨Or.elim hk_ (fun hs_ => Or.elim hs_ (fun hs_ => hs_.1) (fun hs_ => hs_.1)) (fun hn_ => (.inr (Nat.le_trans (below_size (bu2 HB.out GE1968.out GE1989.out)) hn_))), Or.elim hk_ (fun hs_ => Or.elim hs_ (fun hs_ => hs_.2.1) (fun hs_ => hs_.2.1)) (fun hn_ => (Kd.fresh' (Kd.N_lt (nu HO1971.out)) k_ hn_)), Or.elim hk_ (fun hs_ => Or.elim hs_ (fun hs_ => hs_.2.2.1) (fun hs_ => hs_.2.2.1)) (fun hn_ => (Kd.freshB (g := gb1968) (o := .cells #[.bool a0_0, .slice A0_1 l0_1.length c0_1, .slice A0_2 l0_2.length c0_2] 67 (0, 0)) (ku BK1968.out) k_ hn_)), Or.elim hk_ (fun hs_ => Or.elim hs_ (fun hs_ => hs_.2.2.2) (fun hs_ => hs_.2.2.2)) (fun hn_ => (Kd.freshB (g := gb1989) (o := .cells #[.bool t1981, .slice Ao48 t1982.length co48, .slice Ao49 t1985.length co49] 67 (0, 0)) (ku BK1989.out) k_ hn_))⟩)) (below_size (bu2 HB.out GE1968.out GE1989.out))); replace HO1971 := Aside0.mk (Kd.N_below (nu HO1971.out) hb); replace BK1968 := kb BK1968 hb; replace BK1989 := kb BK1989 hb; replace HB := Aside0.mk (below_step (bu2 HB.out GE1968.out GE1989.out) hb); (try clear hb); (try clear hb2); (try clear hk); (try clear hi); (try clear ho0); (try clear ho1)) | ((with_reducible refine gate_dst (N := 9) rfl ?_); (try (refine gate_guard (by rfl) ?_; dsimp only)); refine box_event ?hg (N := 9) ?hd (cs := #[.bool false, .slice none 0 0, .slice none 0 0]) (t := 67) ?hr ?_; (case hd => rfl); (case hg => rfl); (case hr => first | (go_simp; done) | (go_simp; rfl)); intro gb1998 hg w53 hbox hb; replace HO0_1 := ke HO0_1 hg hb; replace HO0_2 := ke HO0_2 hg hb; replace HO1971 := Aside0.mk (Kd.N_below (Kd.N_elderB (nu HO1971.out) gb1998 (Nat.le_of_eq hg.symm)) hb); replace HO1984 := ke HO1984 hg hb; replace HO1987 := ke HO1987 hg hb; replace HO1993 := ke HO1993 hg hb; replace HO1996 := ke HO1996 hg hb; have BK1998 := Aside0.mk (hbox); have GW1998 := ng hg (bu2 HB.out GE1968.out GE1989.out); have GE1998 := ng hg (bu2 HB.out GE1968.out GE1989.out); replace HB := Aside0.mk (below_step (bu2 HB.out GE1968.out GE1989.out) hb); have NB1968_1998 := nl hg BK1968; have NB1998_1968 := nr hg BK1968; replace BK1968 := kb BK1968 hb; have NB1989_1998 := nl hg BK1989; have NB1998_1989 := nr hg BK1989; replace BK1989 := kb BK1989 hb; clear hb hbox hg; have hnb54 := NB1998_1968.out; have hnc54 := NB1968_1998.out; have hnb55 := NB1998_1989.out; have hnc55 := NB1989_1998.out; have hcz56_0 : w53.cell? ⟨gb1998, 0, none⟩ = some (.bool false) := bc BK1998 0; have hcz56_1 : w53.cell? ⟨gb1998, 1, none⟩ = some (.slice none 0 0) := bc BK1998 1; have hcz56_2 : w53.cell? ⟨gb1998, 2, none⟩ = some (.slice none 0 0) := bc BK1998 2; have hfz56_0 := blk_frozen BK1998.out 0; have hfz56_1 := blk_frozen BK1998.out 1; have hfz56_2 := blk_frozen BK1998.out 2; obtain ⟨Ao57, co57, eo57⟩ := Kd.V_slice HO1993.out; subst eo57; obtain ⟨Ao58, co58, eo58⟩ := Kd.V_slice HO1996.out; subst eo58) | ((with_reducible refine gate_store (t := 67) (p := 9) rfl ?_); refine store_event (t := 67) (p := 9) (v := ?vo_w59) (w1 := (((w53.setCell ⟨gb1998, 0, none⟩ (.bool t1990)).setCell ⟨gb1998, 1, none⟩ (.slice Ao57 t1991.length co57)).setCell ⟨gb1998, 2, none⟩ (.slice Ao58 t1994.length co58))) ?hg ?ho ?hn ?hr ?_; (case ho => rfl); (case hg => rfl); (case hn => rfl); (case hr => first | (go_simp; done) | (go_simp; rfl)); intro w59 hw; have n0_ : Aside0 (Kd.V (Kd.int .u32) 48 w59 w.heap.size (fun k_ => ((P0_1_ k_ ∨ P0_2_ k_) ∨ w.heap.size ≤ k_) ∧ some k_ ≠ (.slice Ao40 y1969.length co40 : Value).ownBlock ∧ k_ ≠ gb1968 ∧ k_ ≠ gb1989 ∧ k_ ≠ gb1998) (.slice A0_1 l0_1.length c0_1) l0_1) := ⟨(by rw [hw]; exact vf HO0_1.out)⟩; have n1_ : Aside0 (Kd.V (Kd.int .u32) 48 w59 w.heap.size (fun k_ => ((P0_1_ k_ ∨ P0_2_ k_) ∨ w.heap.size ≤ k_) ∧ some k_ ≠ (.slice Ao40 y1969.length co40 : Value).ownBlock ∧ k_ ≠ gb1968 ∧ k_ ≠ gb1989 ∧ k_ ≠ gb1998) (.slice A0_2 l0_2.length c0_2) l0_2) := ⟨(by rw [hw]; exact vf HO0_2.out)⟩; have n2_ : Aside0 (Kd.N k67 67 w59 w.heap.size (fun k_ => ((P0_1_ k_ ∨ P0_2_ k_) ∨ w.heap.size ≤ k_) ∧ k_ ≠ gb1968 ∧ k_ ≠ gb1989 ∧ k_ ≠ gb1998) (.slice Ao40 y1969.length co40) y1969) := ⟨(by rw [hw]; exact (by (with_reducible repeat (first | apply Kd.N_alloc | apply Kd.N_drewN | apply Kd.N_drew)); exact Kd.N_mono (Kd.N_far (p := ⟨gb1998, 2, none⟩) (Kd.N_far (p := ⟨gb1998, 1, none⟩) (Kd.N_far (p := ⟨gb1998, 0, none⟩) (Kd.N_mono HO1971.out (fun k_ hk => (⟨hk, hk.2⟩ : _ ∧ k_ ≠ gb1998))) (fun _ hk => hk.2) (.bool t1990)) (fun _ hk => hk.2) (.slice Ao57 t1991.length co57)) (fun _ hk => hk.2) (.slice Ao58 t1994.length co58)) (fun _ hk => ⟨hk.1.1.1, ⟨hk.1.1.2.1, ⟨hk.1.1.2.2, hk.1.2⟩⟩⟩)))⟩; have n3_ : Aside0 (Kd.V (Kd.int .u32) 48 w59 w.heap.size (fun k_ => ((P0_1_ k_ ∨ P0_2_ k_) ∨ w.heap.size ≤ k_) ∧ some k_ ≠ (.slice Ao40 y1969.length co40 : Value).ownBlock ∧ k_ ≠ gb1968 ∧ k_ ≠ gb1989 ∧ k_ ≠ gb1998) (.slice Ao48 t1982.length co48) t1982) := ⟨(by rw [hw]; exact vf HO1984.out)⟩; have n4_ : Aside0 (Kd.V (Kd.int .u32) 48 w59 w.heap.size (fun k_ => ((P0_1_ k_ ∨ P0_2_ k_) ∨ w.heap.size ≤ k_) ∧ some k_ ≠ (.slice Ao40 y1969.length co40 : Value).ownBlock ∧ k_ ≠ gb1968 ∧ k_ ≠ gb1989 ∧ k_ ≠ gb1998) (.slice Ao49 t1985.length co49) t1985) := ⟨(by rw [hw]; exact vf HO1987.out)⟩; have n5_ : Aside0 (Kd.V (Kd.int .u32) 48 w59 w.heap.size (fun k_ => ((P0_1_ k_ ∨ P0_2_ k_) ∨ w.heap.size ≤ k_) ∧ some k_ ≠ (.slice Ao40 y1969.length co40 : Value).ownBlock ∧ k_ ≠ gb1968 ∧ k_ ≠ gb1989 ∧ k_ ≠ gb1998) (.slice Ao57 t1991.length co57) t1991) := ⟨(by rw [hw]; exact vf HO1993.out)⟩; have n6_ : Aside0 (Kd.V (Kd.int .u32) 48 w59 w.heap.size (fun k_ => ((P0_1_ k_ ∨ P0_2_ k_) ∨ w.heap.size ≤ k_) ∧ some k_ ≠ (.slice Ao40 y1969.length co40 : Value).ownBlock ∧ k_ ≠ gb1968 ∧ k_ ≠ gb1989 ∧ k_ ≠ gb1998) (.slice Ao58 t1994.length co58) t1994) := ⟨(by rw [hw]; exact vf HO1996.out)⟩; have n7_ : Aside0 (w59.heap[gb1968]? = some (.cells #[.bool a0_0, .slice A0_1 l0_1.length c0_1, .slice A0_2 l0_2.length c0_2] 67 (0, 0))) := ⟨(by rw [hw]; exact (kf NB1968_1998.out BK1968.out))⟩; have n8_ : Aside0 (w59.heap[gb1989]? = some (.cells #[.bool t1981, .slice Ao48 t1982.length co48, .slice Ao49 t1985.length co49] 67 (0, 0))) := ⟨(by rw [hw]; exact (kf NB1989_1998.out BK1989.out))⟩; have n9_ : Aside0 (w59.heap[gb1998]? = some (.cells #[.bool t1990, .slice Ao57 t1991.length co57, .slice Ao58 t1994.length co58] 67 (0, 0))) := ⟨(by rw [hw]; exact (by (with_reducible repeat (first | refine blk_drewN ?_ _ | refine blk_drew ?_ | refine blk_alloc ?_ _)); refine blk_put (cs := #[.bool t1990, .slice Ao57 t1991.length co57, .slice none 0 0]) ?_ 2 _ rfl; (with_reducible repeat (first | refine blk_drewN ?_ _ | refine blk_drew ?_ | refine blk_alloc ?_ _)); refine blk_put (cs := #[.bool t1990, .slice none 0 0, .slice none 0 0]) ?_ 1 _ rfl; (with_reducible repeat (first | refine blk_drewN ?_ _ | refine blk_drew ?_ | refine blk_alloc ?_ _)); refine blk_put (cs := #[.bool false, .slice none 0 0, .slice none 0 0]) ?_ 0 _ rfl; (with_reducible repeat (first | refine blk_drewN ?_ _ | refine blk_drew ?_ | refine blk_alloc ?_ _)); exact BK1998.out))⟩; have n10_ : Aside0 (Below w.heap.size w w59) := ⟨(by rw [hw]; exact (bu3 HB.out GE1968.out GE1989.out GE1998.out))⟩; clear hw HO0_1 HO0_2 HO1971 HO1984 HO1987 HO1993 HO1996 BK1968 BK1989 BK1998 HB; have HO0_1 := n0_; have HO0_2 := n1_; have HO1971 := n2_; have HO1984 := n3_; have HO1987 := n4_; have HO1993 := n5_; have HO1996 := n6_; have BK1968 := n7_; have BK1989 := n8_; have BK1998 := n9_; have HB := n10_; clear n0_ n1_ n2_ n3_ n4_ n5_ n6_ n7_ n8_ n9_ n10_; have hcz60_0 : w59.cell? ⟨gb1968, 0, none⟩ = some (.bool a0_0) := bc BK1968 0; have hcz60_1 : w59.cell? ⟨gb1968, 1, none⟩ = some (.slice A0_1 l0_1.length c0_1) := bc BK1968 1; have hcz60_2 : w59.cell? ⟨gb1968, 2, none⟩ = some (.slice A0_2 l0_2.length c0_2) := bc BK1968 2; have hfz60_0 := blk_frozen BK1968.out 0; have hfz60_1 := blk_frozen BK1968.out 1; have hfz60_2 := blk_frozen BK1968.out 2) | ((with_reducible refine gate_callee (f := 96) rfl ?_); refine goesL_ (some 45) rfl rfl Try.func96 (by kernel_rfl) rfl #[.agg #[.bool a0_0, .slice A0_1 l0_1.length c0_1, .slice A0_2 l0_2.length c0_2], .int .i64 (wrap64 (a2))] rfl lu ?_; (with_reducible refine (rational_Pow.calls k a0_0 (fun k_ => (((P0_1_ k_ ∨ P0_2_ k_) ∨ w.heap.size ≤ k_) ∧ (some k_ ≠ (.slice Ao40 y1969.length co40 : Value).ownBlock ∧ (k_ ≠ gb1968 ∧ (k_ ≠ gb1989 ∧ k_ ≠ gb1998))))) _ _ l0_1 (fun k_ => (((P0_1_ k_ ∨ P0_2_ k_) ∨ w.heap.size ≤ k_) ∧ (some k_ ≠ (.slice Ao40 y1969.length co40 : Value).ownBlock ∧ (k_ ≠ gb1968 ∧ (k_ ≠ gb1989 ∧ k_ ≠ gb1998))))) _ _ l0_2 (wrap64 (a2)) t1999 t2000 t2003 t2006 _ ?side1 ?side2 A30.out).mono ?_); (case side1 => first | exact HO0_1.out | exact vz HO0_1.out); (case side2 => first | exact HO0_2.out | exact vz HO0_2.out); rintro e w61 ⟨v2001, v2004, rfl, ho0, ho1, hb⟩; refine ⟨_, rfl, ?_⟩; replace HO0_1 := kv HO0_1 hb; replace HO0_2 := kv HO0_2 hb; replace HO1984 := kv HO1984 hb; replace HO1987 := kv HO1987 hb; replace HO1993 := kv HO1993 hb; replace HO1996 := kv HO1996 hb; have HO2002 := Aside0.mk (Kd.V_lower (Kd.V_mono (ok' := fun k_ => ((P0_1_ k_ ∨ P0_2_ k_) ∨ w.heap.size ≤ k_) ∧ some k_ ≠ (.slice Ao40 y1969.length co40 : Value).ownBlock ∧ k_ ≠ gb1968 ∧ k_ ≠ gb1989 ∧ k_ ≠ gb1998) ho0 (fun k_ hk_ => ⟨Or.elim hk_ (fun hs_ => Or.elim hs_ (fun hs_ => hs_.1) (fun hs_ => hs_.1)) (fun hn_ => (.inr (Nat.le_trans (below_size (bu3 HB.out GE1968.out GE1989.out GE1998.out)) hn_))), Or.elim hk_ (fun hs_ => Or.elim hs_ (fun hs_ => hs_.2.1) (fun hs_ => hs_.2.1)) (fun hn_ => (Kd.fresh' (Kd.N_lt (nu HO1971.out)) k_ hn_)), Or.elim hk_ (fun hs_ => Or.elim hs_ (fun hs_ => hs_.2.2.1) (fun hs_ => hs_.2.2.1)) (fun hn_ => (Kd.freshB (g := gb1968) (o := .cells #[.bool a0_0, .slice A0_1 l0_1.length c0_1, .slice A0_2 l0_2.length c0_2] 67 (0, 0)) (ku BK1968.out) k_ hn_)), Or.elim hk_ (fun hs_ => Or.elim hs_ (fun hs_ => hs_.2.2.2.1) (fun hs_ => hs_.2.2.2.1)) (fun hn_ => (Kd.freshB (g := gb1989) (o := .cells #[.bool t1981, .slice Ao48 t1982.length co48, .slice Ao49 t1985.length co49] 67 (0, 0)) (ku BK1989.out) k_ hn_)), Or.elim hk_ (fun hs_ => Or.elim hs_ (fun hs_ => hs_.2.2.2.2) (fun hs_ => hs_.2.2.2.2)) (fun hn_ => (Kd.freshB (g := gb1998) (o := .cells #[.bool t1990, .slice Ao57 t1991.length co57, .slice Ao58 t1994.length co58] 67 (0, 0)) (ku BK1998.out) k_ hn_))⟩)) (below_size (bu3 HB.out GE1968.out GE1989.out GE1998.out))); have HO2005 := Aside0.mk (Kd.V_lower (Kd.V_mono (ok' := fun k_ => ((P0_1_ k_ ∨ P0_2_ k_) ∨ w.heap.size ≤ k_) ∧ some k_ ≠ (.slice Ao40 y1969.length co40 : Value).ownBlock ∧ k_ ≠ gb1968 ∧ k_ ≠ gb1989 ∧ k_ ≠ gb1998) ho1 (fun k_ hk_ => ⟨Or.elim hk_ (fun hs_ => Or.elim hs_ (fun hs_ => hs_.1) (fun hs_ => hs_.1)) (fun hn_ => (.inr (Nat.le_trans (below_size (bu3 HB.out GE1968.out GE1989.out GE1998.out)) hn_))), Or.elim hk_ (fun hs_ => Or.elim hs_ (fun hs_ => hs_.2.1) (fun hs_ => hs_.2.1)) (fun hn_ => (Kd.fresh' (Kd.N_lt (nu HO1971.out)) k_ hn_)), Or.elim hk_ (fun hs_ => Or.elim hs_ (fun hs_ => hs_.2.2.1) (fun hs_ => hs_.2.2.1)) (fun hn_ => (Kd.freshB (g := gb1968) (o := .cells #[.bool a0_0, .slice A0_1 l0_1.length c0_1, .slice A0_2 l0_2.length c0_2] 67 (0, 0)) (ku BK1968.out) k_ hn_)), Or.elim hk_ (fun hs_ => Or.elim hs_ (fun hs_ => hs_.2.2.2.1) (fun hs_ => hs_.2.2.2.1)) (fun hn_ => (Kd.freshB (g := gb1989) (o := .cells #[.bool t1981, .slice Ao48 t1982.length co48, .slice Ao49 t1985.length co49] 67 (0, 0)) (ku BK1989.out) k_ hn_)), Or.elim hk_ (fun hs_ => Or.elim hs_ (fun hs_ => hs_.2.2.2.2) (fun hs_ => hs_.2.2.2.2)) (fun hn_ => (Kd.freshB (g := gb1998) (o := .cells #[.bool t1990, .slice Ao57 t1991.length co57, .slice Ao58 t1994.length co58] 67 (0, 0)) (ku BK1998.out) k_ hn_))⟩)) (below_size (bu3 HB.out GE1968.out GE1989.out GE1998.out))); replace HO1971 := Aside0.mk (Kd.N_below (nu HO1971.out) hb); replace BK1968 := kb BK1968 hb; replace BK1989 := kb BK1989 hb; replace BK1998 := kb BK1998 hb; replace HB := Aside0.mk (below_step (bu3 HB.out GE1968.out GE1989.out GE1998.out) hb); (try clear hb); (try clear hb2); (try clear hk); (try clear hi); (try clear ho0); (try clear ho1)) | ((with_reducible refine gate_dst (N := 11) rfl ?_); (try (refine gate_guard (by rfl) ?_; dsimp only)); refine box_event ?hg (N := 11) ?hd (cs := #[.bool false, .slice none 0 0, .slice none 0 0]) (t := 67) ?hr ?_; (case hd => rfl); (case hg => rfl); (case hr => first | (go_simp; done) | (go_simp; rfl)); intro gb2007 hg w62 hbox hb; replace HO0_1 := ke HO0_1 hg hb; replace HO0_2 := ke HO0_2 hg hb; replace HO1971 := Aside0.mk (Kd.N_below (Kd.N_elderB (nu HO1971.out) gb2007 (Nat.le_of_eq hg.symm)) hb); replace HO1984 := ke HO1984 hg hb; replace HO1987 := ke HO1987 hg hb; replace HO1993 := ke HO1993 hg hb; replace HO1996 := ke HO1996 hg hb; replace HO2002 := ke HO2002 hg hb; replace HO2005 := ke HO2005 hg hb; have BK2007 := Aside0.mk (hbox); have GW2007 := ng hg (bu3 HB.out GE1968.out GE1989.out GE1998.out); have GE2007 := ng hg (bu3 HB.out GE1968.out GE1989.out GE1998.out); replace HB := Aside0.mk (below_step (bu3 HB.out GE1968.out GE1989.out GE1998.out) hb); have NB1968_2007 := nl hg BK1968; have NB2007_1968 := nr hg BK1968; replace BK1968 := kb BK1968 hb; have NB1989_2007 := nl hg BK1989; have NB2007_1989 := nr hg BK1989; replace BK1989 := kb BK1989 hb; have NB1998_2007 := nl hg BK1998; have NB2007_1998 := nr hg BK1998; replace BK1998 := kb BK1998 hb; clear hb hbox hg; have hnb63 := NB2007_1968.out; have hnc63 := NB1968_2007.out; have hnb64 := NB2007_1989.out; have hnc64 := NB1989_2007.out; have hnb65 := NB2007_1998.out; have hnc65 := NB1998_2007.out; have hcz66_0 : w62.cell? ⟨gb2007, 0, none⟩ = some (.bool false) := bc BK2007 0; have hcz66_1 : w62.cell? ⟨gb2007, 1, none⟩ = some (.slice none 0 0) := bc BK2007 1; have hcz66_2 : w62.cell? ⟨gb2007, 2, none⟩ = some (.slice none 0 0) := bc BK2007 2; have hfz66_0 := blk_frozen BK2007.out 0; have hfz66_1 := blk_frozen BK2007.out 1; have hfz66_2 := blk_frozen BK2007.out 2; obtain ⟨Ao67, co67, eo67⟩ := Kd.V_slice HO2002.out; subst eo67; obtain ⟨Ao68, co68, eo68⟩ := Kd.V_slice HO2005.out; subst eo68))
      have n0_ : Aside0 (Kd.V (Kd.int .u32) 48 (((w62.setCell ⟨gb2007, 0, none⟩ (.bool t1999)).setCell ⟨gb2007, 1, none⟩ (.slice Ao67 t2000.length co67)).setCell ⟨gb2007, 2, none⟩ (.slice Ao68 t2003.length co68)) w.heap.size (fun k_ => ((P0_1_ k_ ∨ P0_2_ k_) ∨ w.heap.size ≤ k_) ∧ some k_ ≠ (.slice Ao40 y1969.length co40 : Value).ownBlock ∧ k_ ≠ gb1968 ∧ k_ ≠ gb1989 ∧ k_ ≠ gb1998 ∧ k_ ≠ gb2007) (.slice A0_1 l0_1.length c0_1) l0_1) := ⟨by exact vf HO0_1.out⟩
      have n1_ : Aside0 (Kd.V (Kd.int .u32) 48 (((w62.setCell ⟨gb2007, 0, none⟩ (.bool t1999)).setCell ⟨gb2007, 1, none⟩ (.slice Ao67 t2000.length co67)).setCell ⟨gb2007, 2, none⟩ (.slice Ao68 t2003.length co68)) w.heap.size (fun k_ => ((P0_1_ k_ ∨ P0_2_ k_) ∨ w.heap.size ≤ k_) ∧ some k_ ≠ (.slice Ao40 y1969.length co40 : Value).ownBlock ∧ k_ ≠ gb1968 ∧ k_ ≠ gb1989 ∧ k_ ≠ gb1998 ∧ k_ ≠ gb2007) (.slice A0_2 l0_2.length c0_2) l0_2) := ⟨by exact vf HO0_2.out⟩
      have n2_ : Aside0 (Kd.N k67 67 (((w62.setCell ⟨gb2007, 0, none⟩ (.bool t1999)).setCell ⟨gb2007, 1, none⟩ (.slice Ao67 t2000.length co67)).setCell ⟨gb2007, 2, none⟩ (.slice Ao68 t2003.length co68)) w.heap.size (fun k_ => ((P0_1_ k_ ∨ P0_2_ k_) ∨ w.heap.size ≤ k_) ∧ k_ ≠ gb1968 ∧ k_ ≠ gb1989 ∧ k_ ≠ gb1998 ∧ k_ ≠ gb2007) (.slice Ao40 y1969.length co40) y1969) := ⟨by (with_reducible repeat (first | apply Kd.N_alloc | apply Kd.N_drewN | apply Kd.N_drew)); exact Kd.N_mono (Kd.N_far (p := ⟨gb2007, 2, none⟩) (Kd.N_far (p := ⟨gb2007, 1, none⟩) (Kd.N_far (p := ⟨gb2007, 0, none⟩) (Kd.N_mono HO1971.out (fun k_ hk => (⟨hk, hk.2⟩ : _ ∧ k_ ≠ gb2007))) (fun _ hk => hk.2) (.bool t1999)) (fun _ hk => hk.2) (.slice Ao67 t2000.length co67)) (fun _ hk => hk.2) (.slice Ao68 t2003.length co68)) (fun _ hk => ⟨hk.1.1.1, ⟨hk.1.1.2.1, ⟨hk.1.1.2.2.1, ⟨hk.1.1.2.2.2, hk.1.2⟩⟩⟩⟩)⟩
      have n3_ : Aside0 (Kd.V (Kd.int .u32) 48 (((w62.setCell ⟨gb2007, 0, none⟩ (.bool t1999)).setCell ⟨gb2007, 1, none⟩ (.slice Ao67 t2000.length co67)).setCell ⟨gb2007, 2, none⟩ (.slice Ao68 t2003.length co68)) w.heap.size (fun k_ => ((P0_1_ k_ ∨ P0_2_ k_) ∨ w.heap.size ≤ k_) ∧ some k_ ≠ (.slice Ao40 y1969.length co40 : Value).ownBlock ∧ k_ ≠ gb1968 ∧ k_ ≠ gb1989 ∧ k_ ≠ gb1998 ∧ k_ ≠ gb2007) (.slice Ao48 t1982.length co48) t1982) := ⟨by exact vf HO1984.out⟩
      have n4_ : Aside0 (Kd.V (Kd.int .u32) 48 (((w62.setCell ⟨gb2007, 0, none⟩ (.bool t1999)).setCell ⟨gb2007, 1, none⟩ (.slice Ao67 t2000.length co67)).setCell ⟨gb2007, 2, none⟩ (.slice Ao68 t2003.length co68)) w.heap.size (fun k_ => ((P0_1_ k_ ∨ P0_2_ k_) ∨ w.heap.size ≤ k_) ∧ some k_ ≠ (.slice Ao40 y1969.length co40 : Value).ownBlock ∧ k_ ≠ gb1968 ∧ k_ ≠ gb1989 ∧ k_ ≠ gb1998 ∧ k_ ≠ gb2007) (.slice Ao49 t1985.length co49) t1985) := ⟨by exact vf HO1987.out⟩
      have n5_ : Aside0 (Kd.V (Kd.int .u32) 48 (((w62.setCell ⟨gb2007, 0, none⟩ (.bool t1999)).setCell ⟨gb2007, 1, none⟩ (.slice Ao67 t2000.length co67)).setCell ⟨gb2007, 2, none⟩ (.slice Ao68 t2003.length co68)) w.heap.size (fun k_ => ((P0_1_ k_ ∨ P0_2_ k_) ∨ w.heap.size ≤ k_) ∧ some k_ ≠ (.slice Ao40 y1969.length co40 : Value).ownBlock ∧ k_ ≠ gb1968 ∧ k_ ≠ gb1989 ∧ k_ ≠ gb1998 ∧ k_ ≠ gb2007) (.slice Ao57 t1991.length co57) t1991) := ⟨by exact vf HO1993.out⟩
      have n6_ : Aside0 (Kd.V (Kd.int .u32) 48 (((w62.setCell ⟨gb2007, 0, none⟩ (.bool t1999)).setCell ⟨gb2007, 1, none⟩ (.slice Ao67 t2000.length co67)).setCell ⟨gb2007, 2, none⟩ (.slice Ao68 t2003.length co68)) w.heap.size (fun k_ => ((P0_1_ k_ ∨ P0_2_ k_) ∨ w.heap.size ≤ k_) ∧ some k_ ≠ (.slice Ao40 y1969.length co40 : Value).ownBlock ∧ k_ ≠ gb1968 ∧ k_ ≠ gb1989 ∧ k_ ≠ gb1998 ∧ k_ ≠ gb2007) (.slice Ao58 t1994.length co58) t1994) := ⟨by exact vf HO1996.out⟩
      have n7_ : Aside0 (Kd.V (Kd.int .u32) 48 (((w62.setCell ⟨gb2007, 0, none⟩ (.bool t1999)).setCell ⟨gb2007, 1, none⟩ (.slice Ao67 t2000.length co67)).setCell ⟨gb2007, 2, none⟩ (.slice Ao68 t2003.length co68)) w.heap.size (fun k_ => ((P0_1_ k_ ∨ P0_2_ k_) ∨ w.heap.size ≤ k_) ∧ some k_ ≠ (.slice Ao40 y1969.length co40 : Value).ownBlock ∧ k_ ≠ gb1968 ∧ k_ ≠ gb1989 ∧ k_ ≠ gb1998 ∧ k_ ≠ gb2007) (.slice Ao67 t2000.length co67) t2000) := ⟨by exact vf HO2002.out⟩
      have n8_ : Aside0 (Kd.V (Kd.int .u32) 48 (((w62.setCell ⟨gb2007, 0, none⟩ (.bool t1999)).setCell ⟨gb2007, 1, none⟩ (.slice Ao67 t2000.length co67)).setCell ⟨gb2007, 2, none⟩ (.slice Ao68 t2003.length co68)) w.heap.size (fun k_ => ((P0_1_ k_ ∨ P0_2_ k_) ∨ w.heap.size ≤ k_) ∧ some k_ ≠ (.slice Ao40 y1969.length co40 : Value).ownBlock ∧ k_ ≠ gb1968 ∧ k_ ≠ gb1989 ∧ k_ ≠ gb1998 ∧ k_ ≠ gb2007) (.slice Ao68 t2003.length co68) t2003) := ⟨by exact vf HO2005.out⟩
      have n9_ : Aside0 ((((w62.setCell ⟨gb2007, 0, none⟩ (.bool t1999)).setCell ⟨gb2007, 1, none⟩ (.slice Ao67 t2000.length co67)).setCell ⟨gb2007, 2, none⟩ (.slice Ao68 t2003.length co68)).heap[gb1968]? = some (.cells #[.bool a0_0, .slice A0_1 l0_1.length c0_1, .slice A0_2 l0_2.length c0_2] 67 (0, 0))) := ⟨by (with_reducible repeat (first | refine blk_drewN ?_ _ | refine blk_drew ?_ | refine blk_alloc ?_ _)); refine blk_far ?_ NB1968_2007.out _; (with_reducible repeat (first | refine blk_drewN ?_ _ | refine blk_drew ?_ | refine blk_alloc ?_ _)); refine blk_far ?_ NB1968_2007.out _; (with_reducible repeat (first | refine blk_drewN ?_ _ | refine blk_drew ?_ | refine blk_alloc ?_ _)); refine blk_far ?_ NB1968_2007.out _; (with_reducible repeat (first | refine blk_drewN ?_ _ | refine blk_drew ?_ | refine blk_alloc ?_ _)); exact BK1968.out⟩
      have n10_ : Aside0 ((((w62.setCell ⟨gb2007, 0, none⟩ (.bool t1999)).setCell ⟨gb2007, 1, none⟩ (.slice Ao67 t2000.length co67)).setCell ⟨gb2007, 2, none⟩ (.slice Ao68 t2003.length co68)).heap[gb1989]? = some (.cells #[.bool t1981, .slice Ao48 t1982.length co48, .slice Ao49 t1985.length co49] 67 (0, 0))) := ⟨by (with_reducible repeat (first | refine blk_drewN ?_ _ | refine blk_drew ?_ | refine blk_alloc ?_ _)); refine blk_far ?_ NB1989_2007.out _; (with_reducible repeat (first | refine blk_drewN ?_ _ | refine blk_drew ?_ | refine blk_alloc ?_ _)); refine blk_far ?_ NB1989_2007.out _; (with_reducible repeat (first | refine blk_drewN ?_ _ | refine blk_drew ?_ | refine blk_alloc ?_ _)); refine blk_far ?_ NB1989_2007.out _; (with_reducible repeat (first | refine blk_drewN ?_ _ | refine blk_drew ?_ | refine blk_alloc ?_ _)); exact BK1989.out⟩
      have n11_ : Aside0 ((((w62.setCell ⟨gb2007, 0, none⟩ (.bool t1999)).setCell ⟨gb2007, 1, none⟩ (.slice Ao67 t2000.length co67)).setCell ⟨gb2007, 2, none⟩ (.slice Ao68 t2003.length co68)).heap[gb1998]? = some (.cells #[.bool t1990, .slice Ao57 t1991.length co57, .slice Ao58 t1994.length co58] 67 (0, 0))) := ⟨by (with_reducible repeat (first | refine blk_drewN ?_ _ | refine blk_drew ?_ | refine blk_alloc ?_ _)); refine blk_far ?_ NB1998_2007.out _; (with_reducible repeat (first | refine blk_drewN ?_ _ | refine blk_drew ?_ | refine blk_alloc ?_ _)); refine blk_far ?_ NB1998_2007.out _; (with_reducible repeat (first | refine blk_drewN ?_ _ | refine blk_drew ?_ | refine blk_alloc ?_ _)); refine blk_far ?_ NB1998_2007.out _; (with_reducible repeat (first | refine blk_drewN ?_ _ | refine blk_drew ?_ | refine blk_alloc ?_ _)); exact BK1998.out⟩
      have n12_ : Aside0 ((((w62.setCell ⟨gb2007, 0, none⟩ (.bool t1999)).setCell ⟨gb2007, 1, none⟩ (.slice Ao67 t2000.length co67)).setCell ⟨gb2007, 2, none⟩ (.slice Ao68 t2003.length co68)).heap[gb2007]? = some (.cells #[.bool t1999, .slice Ao67 t2000.length co67, .slice Ao68 t2003.length co68] 67 (0, 0))) := ⟨by (with_reducible repeat (first | refine blk_drewN ?_ _ | refine blk_drew ?_ | refine blk_alloc ?_ _)); refine blk_put (cs := #[.bool t1999, .slice Ao67 t2000.length co67, .slice none 0 0]) ?_ 2 _ rfl; (with_reducible repeat (first | refine blk_drewN ?_ _ | refine blk_drew ?_ | refine blk_alloc ?_ _)); refine blk_put (cs := #[.bool t1999, .slice none 0 0, .slice none 0 0]) ?_ 1 _ rfl; (with_reducible repeat (first | refine blk_drewN ?_ _ | refine blk_drew ?_ | refine blk_alloc ?_ _)); refine blk_put (cs := #[.bool false, .slice none 0 0, .slice none 0 0]) ?_ 0 _ rfl; (with_reducible repeat (first | refine blk_drewN ?_ _ | refine blk_drew ?_ | refine blk_alloc ?_ _)); exact BK2007.out⟩
      have n13_ : Aside0 (Below w.heap.size w (((w62.setCell ⟨gb2007, 0, none⟩ (.bool t1999)).setCell ⟨gb2007, 1, none⟩ (.slice Ao67 t2000.length co67)).setCell ⟨gb2007, 2, none⟩ (.slice Ao68 t2003.length co68))) := ⟨by repeat (first | (with_reducible first | exact HB.out | apply below_alloc | apply pw_below_drewN | apply below_drew1 | refine below_set ?_ GE1968.out | refine below_set ?_ GE1989.out | refine below_set ?_ GE1998.out | refine below_set ?_ GE2007.out) | exact HB.out)⟩
      (try clear HO0_1)
      (try clear HO0_2)
      (try clear HO1971)
      (try clear HO1984)
      (try clear HO1987)
      (try clear HO1993)
      (try clear HO1996)
      (try clear HO2002)
      (try clear HO2005)
      (try clear BK1968)
      (try clear BK1989)
      (try clear BK1998)
      (try clear BK2007)
      (try clear HB)
      generalize (((w62.setCell ⟨gb2007, 0, none⟩ (.bool t1999)).setCell ⟨gb2007, 1, none⟩ (.slice Ao67 t2000.length co67)).setCell ⟨gb2007, 2, none⟩ (.slice Ao68 t2003.length co68)) = w69 at n0_ n1_ n2_ n3_ n4_ n5_ n6_ n7_ n8_ n9_ n10_ n11_ n12_ n13_ ⊢
      have HO0_1 := n0_
      have HO0_2 := n1_
      have HO1971 := n2_
      have HO1984 := n3_
      have HO1987 := n4_
      have HO1993 := n5_
      have HO1996 := n6_
      have HO2002 := n7_
      have HO2005 := n8_
      have BK1968 := n9_
      have BK1989 := n10_
      have BK1998 := n11_
      have BK2007 := n12_
      have HB := n13_
      clear n0_ n1_ n2_ n3_ n4_ n5_ n6_ n7_ n8_ n9_ n10_ n11_ n12_ n13_
      replace HO0_1 := Aside0.mk (Kd.V_drew HO0_1.out)
      replace HO0_2 := Aside0.mk (Kd.V_drew HO0_2.out)
      replace HO1971 := Aside0.mk (Kd.N_drew HO1971.out)
      replace HO1984 := Aside0.mk (Kd.V_drew HO1984.out)
      replace HO1987 := Aside0.mk (Kd.V_drew HO1987.out)
      replace HO1993 := Aside0.mk (Kd.V_drew HO1993.out)
      replace HO1996 := Aside0.mk (Kd.V_drew HO1996.out)
      replace HO2002 := Aside0.mk (Kd.V_drew HO2002.out)
      replace HO2005 := Aside0.mk (Kd.V_drew HO2005.out)
      replace BK1968 := Aside0.mk (blk_drew BK1968.out)
      replace BK1989 := Aside0.mk (blk_drew BK1989.out)
      replace BK1998 := Aside0.mk (blk_drew BK1998.out)
      replace BK2007 := Aside0.mk (blk_drew BK2007.out)
      replace HB := Aside0.mk (below_drew1 HB.out)
      refine start_ (n := 19) (S := fun w' => w'.cell? ⟨gb1989, 0, none⟩ = some (.bool t1981) ∧ w'.cell? ⟨gb1989, 1, none⟩ = some (.slice Ao48 t1982.length co48) ∧ w'.cell? ⟨gb1989, 2, none⟩ = some (.slice Ao49 t1985.length co49) ∧ w'.cell? ⟨gb1998, 0, none⟩ = some (.bool t1990) ∧ w'.cell? ⟨gb1998, 1, none⟩ = some (.slice Ao57 t1991.length co57) ∧ w'.cell? ⟨gb1998, 2, none⟩ = some (.slice Ao58 t1994.length co58) ∧ w'.cell? ⟨gb2007, 0, none⟩ = some (.bool t1999) ∧ w'.cell? ⟨gb2007, 1, none⟩ = some (.slice Ao67 t2000.length co67) ∧ w'.cell? ⟨gb2007, 2, none⟩ = some (.slice Ao68 t2003.length co68)) (ds := []) #[false, false, false, false, false, false, false, false, false, false, false, false, false, false, false, false, false, false, false] (by kernel_rfl) rfl rfl ⟨bc BK1989 0, bc BK1989 1, bc BK1989 2, bc BK1998 0, bc BK1998 1, bc BK1998 2, bc BK2007 0, bc BK2007 1, bc BK2007 2⟩ (fun hHeld => ?_); refine with_tabW codewrightlaw02_RationalExponents.tab8 codewrightlaw02_RationalExponents.bits8 (fun HT_ HW_ => ?_)
      generalize w69.drew = w70 at HO0_1 HO0_2 HO1971 HO1984 HO1987 HO1993 HO1996 HO2002 HO2005 BK1968 BK1989 BK1998 BK2007 HB hHeld ⊢
      refine pq 0 (some 48) #[true, false, false, false, false, false, false, false, false, false, false, false, false, false, false, false, false, false, false] HT_ ?_
      refine pq 1 (some 49) #[true, true, false, false, false, false, false, false, false, false, false, false, false, false, false, false, false, false, false] HT_ ?_
      refine pq 2 (some 50) #[true, true, true, false, false, false, false, false, false, false, false, false, false, false, false, false, false, false, false] HT_ ?_
      refine pq 3 (some 51) #[true, true, true, true, false, false, false, false, false, false, false, false, false, false, false, false, false, false, false] HT_ ?_
      refine pq 4 (some 52) #[true, true, true, true, true, false, false, false, false, false, false, false, false, false, false, false, false, false, false] HT_ ?_
      refine pq 5 (some 53) #[true, true, true, true, true, true, false, false, false, false, false, false, false, false, false, false, false, false, false] HT_ ?_
      refine pq 6 (some 54) #[true, true, true, true, true, true, true, false, false, false, false, false, false, false, false, false, false, false, false] HT_ ?_
      refine pq 7 (some 55) #[true, true, true, true, true, true, true, true, false, false, false, false, false, false, false, false, false, false, false] HT_ ?_
      refine pq 8 (some 56) #[true, true, true, true, true, true, true, true, true, false, false, false, false, false, false, false, false, false, false] HT_ ?_
      refine pq 9 (some 57) #[true, true, true, true, true, true, true, true, true, true, false, false, false, false, false, false, false, false, false] HT_ ?_
      refine pq 10 (some 58) #[true, true, true, true, true, true, true, true, true, true, true, false, false, false, false, false, false, false, false] HT_ ?_
      refine tq 11 (some 59) #[true, true, true, true, true, true, true, true, true, true, true, true, false, false, false, false, false, false, false] HT_ HW_ hHeld ?_
      refine tq 12 (some 60) #[true, true, true, true, true, true, true, true, true, true, true, true, true, false, false, false, false, false, false] HT_ HW_ hHeld ?_
      refine tq 13 (some 61) #[true, true, true, true, true, true, true, true, true, true, true, true, true, true, false, false, false, false, false] HT_ HW_ hHeld ?_
      refine one_ (i := 14) (N := some 62) #[true, true, true, true, true, true, true, true, true, true, true, true, true, true, true, false, false, false, false] rfl rfl (one_of HT_.out (by kernel_rfl)) (by decide) (fun K hK => ?_)
      refine Kd.N_lit_step k67 _ 67 ?hg (N' := 62) ?hd (xs := ([(⟨t1990, t1991, t1994⟩ : S67), (⟨t1999, t2000, t2003⟩ : S67)] : List (S67))) (inner := [.bool t1990, .slice Ao57 t1991.length co57, .slice Ao58 t1994.length co58, .bool t1999, .slice Ao67 t2000.length co67, .slice Ao68 t2003.length co68]) (ok := (fun k_ => ((P0_1_ k_ ∨ P0_2_ k_) ∨ w.heap.size ≤ k_) ∧ some k_ ≠ (.slice Ao40 y1969.length co40 : Value).ownBlock ∧ k_ ≠ gb1968 ∧ k_ ≠ gb1989 ∧ k_ ≠ gb1998 ∧ k_ ≠ gb2007)) (okp := (fun k_ => ((P0_1_ k_ ∨ P0_2_ k_) ∨ w.heap.size ≤ k_) ∧ some k_ ≠ (.slice Ao40 y1969.length co40 : Value).ownBlock ∧ k_ ≠ gb1968 ∧ k_ ≠ gb1989 ∧ k_ ≠ gb1998 ∧ k_ ≠ gb2007)) ?hr ?hp (fun _ hk => hk) ((show ∀ k_, w70.heap.size ≤ k_ → (fun k_ => ((P0_1_ k_ ∨ P0_2_ k_) ∨ w.heap.size ≤ k_) ∧ some k_ ≠ (.slice Ao40 y1969.length co40 : Value).ownBlock ∧ k_ ≠ gb1968 ∧ k_ ≠ gb1989 ∧ k_ ≠ gb1998 ∧ k_ ≠ gb2007) k_ from fun k_ hk => ⟨(.inr (Nat.le_trans (below_size (bu4 HB.out GE1968.out GE1989.out GE1998.out GE2007.out)) hk)), Kd.fresh' (Kd.N_lt (nu HO1971.out)) k_ hk, Kd.freshB (g := gb1968) (o := .cells #[.bool a0_0, .slice A0_1 l0_1.length c0_1, .slice A0_2 l0_2.length c0_2] 67 (0, 0)) (ku BK1968.out) k_ hk, Kd.freshB (g := gb1989) (o := .cells #[.bool t1981, .slice Ao48 t1982.length co48, .slice Ao49 t1985.length co49] 67 (0, 0)) (ku BK1989.out) k_ hk, Kd.freshB (g := gb1998) (o := .cells #[.bool t1990, .slice Ao57 t1991.length co57, .slice Ao58 t1994.length co58] 67 (0, 0)) (ku BK1998.out) k_ hk, Kd.freshB (g := gb2007) (o := .cells #[.bool t1999, .slice Ao67 t2000.length co67, .slice Ao68 t2003.length co68] 67 (0, 0)) (ku BK2007.out) k_ hk⟩) _ (Nat.le_refl _)) (Below.refl _ _) (Nat.le_refl _) (by simp) ?_; (case hd => rfl); (case hg => rfl); (case hr => first | (go_simp; done) | (go_simp; rfl)); (case hp => exact (Reps.c3 (show Kd.FK k67 _ _ (⟨t1990, t1991, t1994⟩ : S67) [.bool t1990, .slice Ao57 t1991.length co57, .slice Ao58 t1994.length co58] from (k67_mkF _ _ (⟨t1990, t1991, t1994⟩ : S67) (Kd.V_reads' (vy ((fun k_ => ((P0_1_ k_ ∨ P0_2_ k_) ∨ w.heap.size ≤ k_) ∧ some k_ ≠ (.slice Ao40 y1969.length co40 : Value).ownBlock ∧ k_ ≠ gb1968 ∧ k_ ≠ gb1989 ∧ k_ ≠ gb1998 ∧ k_ ≠ gb2007)) HO1993.out)).2.1 (Kd.V_F (vy ((fun k_ => ((P0_1_ k_ ∨ P0_2_ k_) ∨ w.heap.size ≤ k_) ∧ some k_ ≠ (.slice Ao40 y1969.length co40 : Value).ownBlock ∧ k_ ≠ gb1968 ∧ k_ ≠ gb1989 ∧ k_ ≠ gb1998 ∧ k_ ≠ gb2007)) HO1993.out)) (Kd.V_reads' (vy ((fun k_ => ((P0_1_ k_ ∨ P0_2_ k_) ∨ w.heap.size ≤ k_) ∧ some k_ ≠ (.slice Ao40 y1969.length co40 : Value).ownBlock ∧ k_ ≠ gb1968 ∧ k_ ≠ gb1989 ∧ k_ ≠ gb1998 ∧ k_ ≠ gb2007)) HO1996.out)).2.1 (Kd.V_F (vy ((fun k_ => ((P0_1_ k_ ∨ P0_2_ k_) ∨ w.heap.size ≤ k_) ∧ some k_ ≠ (.slice Ao40 y1969.length co40 : Value).ownBlock ∧ k_ ≠ gb1968 ∧ k_ ≠ gb1989 ∧ k_ ≠ gb1998 ∧ k_ ≠ gb2007)) HO1996.out)))) (Reps.c3 (show Kd.FK k67 _ _ (⟨t1999, t2000, t2003⟩ : S67) [.bool t1999, .slice Ao67 t2000.length co67, .slice Ao68 t2003.length co68] from (k67_mkF _ _ (⟨t1999, t2000, t2003⟩ : S67) (Kd.V_reads' (vy ((fun k_ => ((P0_1_ k_ ∨ P0_2_ k_) ∨ w.heap.size ≤ k_) ∧ some k_ ≠ (.slice Ao40 y1969.length co40 : Value).ownBlock ∧ k_ ≠ gb1968 ∧ k_ ≠ gb1989 ∧ k_ ≠ gb1998 ∧ k_ ≠ gb2007)) HO2002.out)).2.1 (Kd.V_F (vy ((fun k_ => ((P0_1_ k_ ∨ P0_2_ k_) ∨ w.heap.size ≤ k_) ∧ some k_ ≠ (.slice Ao40 y1969.length co40 : Value).ownBlock ∧ k_ ≠ gb1968 ∧ k_ ≠ gb1989 ∧ k_ ≠ gb1998 ∧ k_ ≠ gb2007)) HO2002.out)) (Kd.V_reads' (vy ((fun k_ => ((P0_1_ k_ ∨ P0_2_ k_) ∨ w.heap.size ≤ k_) ∧ some k_ ≠ (.slice Ao40 y1969.length co40 : Value).ownBlock ∧ k_ ≠ gb1968 ∧ k_ ≠ gb1989 ∧ k_ ≠ gb1998 ∧ k_ ≠ gb2007)) HO2005.out)).2.1 (Kd.V_F (vy ((fun k_ => ((P0_1_ k_ ∨ P0_2_ k_) ∨ w.heap.size ≤ k_) ∧ some k_ ≠ (.slice Ao40 y1969.length co40 : Value).ownBlock ∧ k_ ≠ gb1968 ∧ k_ ≠ gb1989 ∧ k_ ≠ gb1998 ∧ k_ ≠ gb2007)) HO2005.out)))) (Reps.none _ _))))
      intro v2009 w71 ho72 hb hg_ hnew_
      clear hg_ hnew_
      (first | rw [← Ny2008.out] at ho72 | (simp only [Int.reduceToNat] at ho72; rw [← Ny2008.out] at ho72))
      replace HO0_1 := Aside0.mk (Kd.V_elder' (vu HO0_1.out) (Kd.N_base ho72) hb)
      replace HO0_2 := Aside0.mk (Kd.V_elder' (vu HO0_2.out) (Kd.N_base ho72) hb)
      replace HO1971 := Aside0.mk (Kd.N_elder' (nu HO1971.out) (Kd.N_base ho72) hb)
      replace HO1984 := Aside0.mk (Kd.V_elder' (vu HO1984.out) (Kd.N_base ho72) hb)
      replace HO1987 := Aside0.mk (Kd.V_elder' (vu HO1987.out) (Kd.N_base ho72) hb)
      replace HO1993 := Aside0.mk (Kd.V_elder' (vu HO1993.out) (Kd.N_base ho72) hb)
      replace HO1996 := Aside0.mk (Kd.V_elder' (vu HO1996.out) (Kd.N_base ho72) hb)
      replace HO2002 := Aside0.mk (Kd.V_elder' (vu HO2002.out) (Kd.N_base ho72) hb)
      replace HO2005 := Aside0.mk (Kd.V_elder' (vu HO2005.out) (Kd.N_base ho72) hb)
      have HO2010 := Aside0.mk (Kd.N_lower ho72 (below_size (bu4 HB.out GE1968.out GE1989.out GE1998.out GE2007.out)))
      replace BK1968 := kb BK1968 hb
      replace BK1989 := kb BK1989 hb
      replace BK1998 := kb BK1998 hb
      replace BK2007 := kb BK2007 hb
      replace HB := Aside0.mk (below_step (bu4 HB.out GE1968.out GE1989.out GE1998.out GE2007.out) hb)
      clear hb ho72
      obtain ⟨Ao73, co73, eo73⟩ := Kd.N_slice HO2010.out
      (first | subst eo73 | (injection eo73 with f1_ f2_ f3_; have f4_ := f1_.symm; have f5_ := f3_.symm; clear f1_ f2_ f3_; subst f4_; subst f5_))
      refine hK.out _ _ ⟨bc BK1989 0, bc BK1989 1, bc BK1989 2, bc BK1998 0, bc BK1998 1, bc BK1998 2, bc BK2007 0, bc BK2007 1, bc BK2007 2⟩ (fun hHeld => ?_)
      clear hK K
      refine nq 62 ?_
      refine one_ (i := 15) (N := some 63) #[true, true, true, true, true, true, true, true, true, true, true, true, true, true, true, true, false, false, false] rfl rfl (one_of HT_.out (by kernel_rfl)) (by decide) (fun K hK => ?_)
      refine goes_ Try.func95 (by kernel_rfl) rfl #[.slice Ao73 y2008.length co73] (by rfl) rfl rfl lu ?_
      with_reducible refine (rational_Mul.calls k (fun k_ => (((P0_1_ k_ ∨ P0_2_ k_) ∨ w.heap.size ≤ k_) ∧ (some k_ ≠ (.slice Ao40 y1969.length co40 : Value).ownBlock ∧ (k_ ≠ gb1968 ∧ (k_ ≠ gb1989 ∧ (k_ ≠ gb1998 ∧ k_ ≠ gb2007)))))) _ _ y2008 t2011 t2012 t2015 _ ?side1 A34.out).mono ?_
      (case side1 => exact Kd.N_V (HO2010.out))
      rintro e w74 ⟨v2013, v2016, rfl, ho0, ho1, hb⟩
      refine ⟨_, rfl, ?_⟩
      replace HO0_1 := kv HO0_1 hb
      replace HO0_2 := kv HO0_2 hb
      replace HO1984 := kv HO1984 hb
      replace HO1987 := kv HO1987 hb
      replace HO1993 := kv HO1993 hb
      replace HO1996 := kv HO1996 hb
      replace HO2002 := kv HO2002 hb
      replace HO2005 := kv HO2005 hb
      replace HO2010 := Aside0.mk (Kd.N_below (nu HO2010.out) hb)
      have HO2014 := Aside0.mk (Kd.V_lower (Kd.V_mono (ok' := fun k_ => ((P0_1_ k_ ∨ P0_2_ k_) ∨ w.heap.size ≤ k_) ∧ some k_ ≠ (.slice Ao40 y1969.length co40 : Value).ownBlock ∧ k_ ≠ gb1968 ∧ k_ ≠ gb1989 ∧ k_ ≠ gb1998 ∧ k_ ≠ gb2007) ho0 (fun k_ hk_ => ⟨Or.elim hk_ (fun hs_ => hs_.1) (fun hn_ => (.inr (Nat.le_trans (below_size (bu4 HB.out GE1968.out GE1989.out GE1998.out GE2007.out)) hn_))), Or.elim hk_ (fun hs_ => hs_.2.1) (fun hn_ => (Kd.fresh' (Kd.N_lt (nu HO1971.out)) k_ hn_)), Or.elim hk_ (fun hs_ => hs_.2.2.1) (fun hn_ => (Kd.freshB (g := gb1968) (o := .cells #[.bool a0_0, .slice A0_1 l0_1.length c0_1, .slice A0_2 l0_2.length c0_2] 67 (0, 0)) (ku BK1968.out) k_ hn_)), Or.elim hk_ (fun hs_ => hs_.2.2.2.1) (fun hn_ => (Kd.freshB (g := gb1989) (o := .cells #[.bool t1981, .slice Ao48 t1982.length co48, .slice Ao49 t1985.length co49] 67 (0, 0)) (ku BK1989.out) k_ hn_)), Or.elim hk_ (fun hs_ => hs_.2.2.2.2.1) (fun hn_ => (Kd.freshB (g := gb1998) (o := .cells #[.bool t1990, .slice Ao57 t1991.length co57, .slice Ao58 t1994.length co58] 67 (0, 0)) (ku BK1998.out) k_ hn_)), Or.elim hk_ (fun hs_ => hs_.2.2.2.2.2) (fun hn_ => (Kd.freshB (g := gb2007) (o := .cells #[.bool t1999, .slice Ao67 t2000.length co67, .slice Ao68 t2003.length co68] 67 (0, 0)) (ku BK2007.out) k_ hn_))⟩)) (below_size (bu4 HB.out GE1968.out GE1989.out GE1998.out GE2007.out)))
      have HO2017 := Aside0.mk (Kd.V_lower (Kd.V_mono (ok' := fun k_ => ((P0_1_ k_ ∨ P0_2_ k_) ∨ w.heap.size ≤ k_) ∧ some k_ ≠ (.slice Ao40 y1969.length co40 : Value).ownBlock ∧ k_ ≠ gb1968 ∧ k_ ≠ gb1989 ∧ k_ ≠ gb1998 ∧ k_ ≠ gb2007) ho1 (fun k_ hk_ => ⟨Or.elim hk_ (fun hs_ => hs_.1) (fun hn_ => (.inr (Nat.le_trans (below_size (bu4 HB.out GE1968.out GE1989.out GE1998.out GE2007.out)) hn_))), Or.elim hk_ (fun hs_ => hs_.2.1) (fun hn_ => (Kd.fresh' (Kd.N_lt (nu HO1971.out)) k_ hn_)), Or.elim hk_ (fun hs_ => hs_.2.2.1) (fun hn_ => (Kd.freshB (g := gb1968) (o := .cells #[.bool a0_0, .slice A0_1 l0_1.length c0_1, .slice A0_2 l0_2.length c0_2] 67 (0, 0)) (ku BK1968.out) k_ hn_)), Or.elim hk_ (fun hs_ => hs_.2.2.2.1) (fun hn_ => (Kd.freshB (g := gb1989) (o := .cells #[.bool t1981, .slice Ao48 t1982.length co48, .slice Ao49 t1985.length co49] 67 (0, 0)) (ku BK1989.out) k_ hn_)), Or.elim hk_ (fun hs_ => hs_.2.2.2.2.1) (fun hn_ => (Kd.freshB (g := gb1998) (o := .cells #[.bool t1990, .slice Ao57 t1991.length co57, .slice Ao58 t1994.length co58] 67 (0, 0)) (ku BK1998.out) k_ hn_)), Or.elim hk_ (fun hs_ => hs_.2.2.2.2.2) (fun hn_ => (Kd.freshB (g := gb2007) (o := .cells #[.bool t1999, .slice Ao67 t2000.length co67, .slice Ao68 t2003.length co68] 67 (0, 0)) (ku BK2007.out) k_ hn_))⟩)) (below_size (bu4 HB.out GE1968.out GE1989.out GE1998.out GE2007.out)))
      replace HO1971 := Aside0.mk (Kd.N_below (nu HO1971.out) hb)
      replace BK1968 := kb BK1968 hb
      replace BK1989 := kb BK1989 hb
      replace BK1998 := kb BK1998 hb
      replace BK2007 := kb BK2007 hb
      replace HB := Aside0.mk (below_step (bu4 HB.out GE1968.out GE1989.out GE1998.out GE2007.out) hb)
      (try clear hb)
      (try clear hb2)
      (try clear hk)
      (try clear hi)
      (try clear ho0)
      (try clear ho1)
      obtain ⟨Ao75, co75, eo75⟩ := Kd.V_slice HO2014.out
      (first | subst eo75 | (injection eo75 with f1_ f2_ f3_; have f4_ := f1_.symm; have f5_ := f3_.symm; clear f1_ f2_ f3_; subst f4_; subst f5_))
      obtain ⟨Ao76, co76, eo76⟩ := Kd.V_slice HO2017.out
      (first | subst eo76 | (injection eo76 with f1_ f2_ f3_; have f4_ := f1_.symm; have f5_ := f3_.symm; clear f1_ f2_ f3_; subst f4_; subst f5_))
      refine hK.out _ _ ⟨bc BK1989 0, bc BK1989 1, bc BK1989 2, bc BK1998 0, bc BK1998 1, bc BK1998 2, bc BK2007 0, bc BK2007 1, bc BK2007 2⟩ (fun hHeld => ?_)
      clear hK K
      refine nq 63 ?_
      refine one_ (i := 16) (N := some 64) #[true, true, true, true, true, true, true, true, true, true, true, true, true, true, true, true, true, false, false] rfl rfl (one_of HT_.out (by kernel_rfl)) (by decide) (fun K hK => ?_)
      refine goes_ Try.func83 (by kernel_rfl) rfl #[.agg #[.bool t1981, .slice Ao48 t1982.length co48, .slice Ao49 t1985.length co49], .agg #[.bool t2011, .slice Ao75 t2012.length co75, .slice Ao76 t2015.length co76]] (by rfl) rfl rfl lu ?_
      with_reducible refine (codewrightlaw02_same.calls k t1981 _ _ t1982 _ _ t1985 t2011 _ _ t2012 _ _ t2015 t2018 _ ?side1 ?side2 ?side3 ?side4 ?side5 ?side6 ?side7 ?side8 A35.out).mono ?_
      (case side1 => exact cu (Kd.V_reads' HO1984.out).2.2)
      (case side2 => exact (Kd.V_reads' HO1984.out).2.1)
      (case side3 => exact cu (Kd.V_reads' HO1987.out).2.2)
      (case side4 => exact (Kd.V_reads' HO1987.out).2.1)
      (case side5 => exact cu (Kd.V_reads' HO2014.out).2.2)
      (case side6 => exact (Kd.V_reads' HO2014.out).2.1)
      (case side7 => exact cu (Kd.V_reads' HO2017.out).2.2)
      (case side8 => exact (Kd.V_reads' HO2017.out).2.1)
      rintro e w77 ⟨rfl, hb⟩
      refine ⟨_, rfl, ?_⟩
      replace HO0_1 := kv HO0_1 hb
      replace HO0_2 := kv HO0_2 hb
      replace HO1971 := Aside0.mk (Kd.N_below (nu HO1971.out) hb)
      replace HO1984 := kv HO1984 hb
      replace HO1987 := kv HO1987 hb
      replace HO1993 := kv HO1993 hb
      replace HO1996 := kv HO1996 hb
      replace HO2002 := kv HO2002 hb
      replace HO2005 := kv HO2005 hb
      replace HO2010 := Aside0.mk (Kd.N_below (nu HO2010.out) hb)
      replace HO2014 := kv HO2014 hb
      replace HO2017 := kv HO2017 hb
      replace BK1968 := kb BK1968 hb
      replace BK1989 := kb BK1989 hb
      replace BK1998 := kb BK1998 hb
      replace BK2007 := kb BK2007 hb
      replace HB := Aside0.mk (below_step (bu4 HB.out GE1968.out GE1989.out GE1998.out GE2007.out) hb)
      (try clear hb)
      (try clear hb2)
      (try clear hk)
      (try clear hi)
      refine hK.out _ _ ⟨bc BK1989 0, bc BK1989 1, bc BK1989 2, bc BK1998 0, bc BK1998 1, bc BK1998 2, bc BK2007 0, bc BK2007 1, bc BK2007 2⟩ (fun hHeld => ?_)
      clear hK K
      refine nq 64 ?_
      refine pq 17 (some 65) #[true, true, true, true, true, true, true, true, true, true, true, true, true, true, true, true, true, true, false] HT_ ?_
      refine pq 18 (some 6) #[true, true, true, true, true, true, true, true, true, true, true, true, true, true, true, true, true, true, true] HT_ ?_
      refine done_ (done_of HT_.out (by kernel_rfl)) ?_
      try go_wp2
      go_ret
      exact ⟨by first | rfl | (simp [errW_none, errW_some] <;> rfl) | (simp [*, errW_none, errW_some] <;> rfl), by repeat (first | (with_reducible first | exact HB.out | apply below_alloc | apply pw_below_drewN | apply below_drew1 | refine below_set ?_ GE1968.out | refine below_set ?_ GE1989.out | refine below_set ?_ GE1998.out | refine below_set ?_ GE2007.out) | exact HB.out)⟩
     ·
      rw [if_neg c33] at H
      exact absurd H (by simp)
    ·
     rw [if_neg c32] at H
     exact absurd H (by simp)
   ·
    rw [if_neg c31] at H
    exact absurd H (by simp)
end Go.Proofs.Ytecfdemglbfnoaa.PT
end
section
namespace Go.Proofs.Ytecfdemglbfnoaa.Num
open Go.RowKit Go.Proofs.Ytecfdemglbfnoaa.PT Go.Proofs.YtecfdemglbfnoaaW.PrintWords
/-- The canonical data of a fraction. -/
def rep (q : Rat) : Bool × List Int × List Int := (decide (q.num < 0), lb q.num.natAbs, lb q.den)
/-- A number with a sign. -/
def sg (neg : Bool) (n : Nat) : Int := if neg then -(n : Int) else (n : Int)
/-- The value of any data: 0 if the denominator is 0. -/
def rv (neg : Bool) (n d : List Int) : Rat := mkRat (sg neg (valn n)) (valn d)
/-- Numerator and denominator have at most m limbs. -/
def Sz (m : Nat) (q : Rat) : Prop := q.num.natAbs < pw m ∧ q.den < pw m
theorem sg_abs (neg : Bool) (n : Nat) : (sg neg n).natAbs = n := by cases neg <;> simp [sg]
theorem sg_self (z : Int) : sg (decide (z < 0)) z.natAbs = z := by
  by_cases h : z < 0
  · rw [decide_eq_true h]; simp only [sg, if_true]; omega
  · rw [decide_eq_false h]; simp only [sg, Bool.false_eq_true, if_false]; omega
theorem sg_zero (neg : Bool) : sg neg 0 = 0 := by cases neg <;> rfl
theorem sg_ne {neg : Bool} {n : Nat} (h : n ≠ 0) : sg neg n ≠ 0 := by cases neg <;> simp [sg, h]
theorem sg_mul (a b : Bool) (m n : Nat) : sg (a != b) (m * n) = sg a m * sg b n := by cases a <;> cases b <;> simp [sg, Int.neg_mul, Int.mul_neg]
theorem sg_div (neg : Bool) {m g : Nat} (h : g ∣ m) : sg neg m / (g : Int) = sg neg (m / g) := by
  cases neg
  · simp [sg]
  · simp only [sg, if_true]
    rw [Int.neg_ediv_of_dvd (Int.ofNat_dvd.mpr h)]; rfl
theorem rv_zero_num (neg : Bool) {n d : List Int} (h : valn n = 0) : rv neg n d = 0 := by rw [rv, h, sg_zero]; exact Rat.zero_mkRat _
theorem rv_zero_den (neg : Bool) {n d : List Int} (h : valn d = 0) : rv neg n d = 0 := by rw [rv, h]; exact Rat.mkRat_zero _
theorem rv_rep (q : Rat) : rv (rep q).1 (rep q).2.1 (rep q).2.2 = q := by
  simp only [rep, rv, valn_lb, sg_self]; exact Rat.mkRat_self q
theorem rep_zero : rep 0 = (false, [], [1]) := by
  simp only [rep, Rat.zero_num, Rat.zero_den]
  rw [show lb (0 : Int).natAbs = [] from lb_zero, show lb 1 = [1] from by rw [lb_pos (by decide), show (1 : Nat) / 4294967296 = 0 from rfl, lb_zero]; rfl]
  rfl
theorem rep_inj {p q : Rat} (h : rep p = rep q) : p = q := by rw [← rv_rep p, ← rv_rep q, h]
theorem rep_mkRat (neg : Bool) {n d : Nat} (hn : n ≠ 0) (hd : d ≠ 0) : rep (mkRat (sg neg n) d) = (neg, lb (n / n.gcd d), lb (d / n.gcd d)) := by
  have hg : d.gcd n = n.gcd d := Nat.gcd_comm d n
  have hdv : n.gcd d ∣ n := Nat.gcd_dvd_left n d
  have hq : n / n.gcd d ≠ 0 := Nat.ne_of_gt (Nat.div_pos (Nat.le_of_dvd (Nat.pos_of_ne_zero hn) hdv) (Nat.gcd_pos_of_pos_left _ (Nat.pos_of_ne_zero hn)))
  have hnum : (mkRat (sg neg n) d).num = sg neg (n / n.gcd d) := by
    rw [Rat.num_mkRat, if_neg hd, sg_abs, hg, sg_div neg hdv]
  have hden : (mkRat (sg neg n) d).den = d / n.gcd d := by
    rw [Rat.den_mkRat, if_neg hd, sg_abs, hg]
  have hs : decide (sg neg (n / n.gcd d) < 0) = neg := by
    generalize n / n.gcd d = x at hq
    cases neg
    · exact decide_eq_false (by simp [sg])
    · exact decide_eq_true (by simp only [sg, if_true]; omega)
  simp only [rep, hnum, hden, sg_abs, hs]
theorem mkRat_sz {neg : Bool} {n d m : Nat} (hn : n < pw m) (hd : d < pw m) (hm : 1 ≤ m) : Sz m (mkRat (sg neg n) d) := by
  have h1 : 1 < pw m := Nat.lt_of_lt_of_le (by rw [pw_succ, pw_zero]; decide) (pw_mono hm)
  refine ⟨?_, ?_⟩
  · rw [Rat.num_mkRat]
    split
    · exact pw_pos m
    · rw [sg_abs, sg_div neg (Nat.gcd_dvd_right d n), sg_abs]; exact Nat.lt_of_le_of_lt (Nat.div_le_self _ _) hn
  · rw [Rat.den_mkRat]
    split
    · exact h1
    · exact Nat.lt_of_le_of_lt (Nat.div_le_self _ _) hd
theorem Sz_rv {neg : Bool} {n d : List Int} {m : Nat} (hn : U n) (hd : U d) (ln : n.length ≤ m) (ld : d.length ≤ m) (hm : 1 ≤ m) : Sz m (rv neg n d) :=
  mkRat_sz (Nat.lt_of_lt_of_le (valn_lt hn) (pw_mono ln)) (Nat.lt_of_lt_of_le (valn_lt hd) (pw_mono ld)) hm
theorem mul_pw' {x y m n : Nat} (h1 : x < pw m) (h2 : y < pw n) : x * y < pw (m + n) := by rw [pw_add]; exact Nat.mul_lt_mul'' h1 h2
theorem mul_parts (p q : Rat) : p * q = mkRat (sg (decide (p.num < 0) != decide (q.num < 0)) (p.num.natAbs * q.num.natAbs)) (p.den * q.den) := by
  rw [Rat.mul_def', sg_mul, sg_self, sg_self]
theorem Sz_mul {m n : Nat} {p q : Rat} (hp : Sz m p) (hq : Sz n q) (hm : 1 ≤ m) : Sz (m + n) (p * q) := by
  rw [mul_parts]; exact mkRat_sz (mul_pw' hp.1 hq.1) (mul_pw' hp.2 hq.2) (by omega)
theorem Sz_inv {m : Nat} {p : Rat} (hp : Sz m p) (hm : 1 ≤ m) : Sz m p⁻¹ := by
  have h1 : 1 < pw m := Nat.lt_of_lt_of_le (by rw [pw_succ, pw_zero]; decide) (pw_mono hm)
  refine ⟨?_, ?_⟩
  · rw [Rat.num_inv, Int.natAbs_mul, Int.natAbs_natCast]
    refine Nat.lt_of_le_of_lt ?_ hp.2
    have : p.num.sign.natAbs ≤ 1 := by
      rcases Int.lt_trichotomy p.num 0 with h | h | h
      · rw [Int.sign_eq_neg_one_of_neg h]; decide
      · rw [h]; decide
      · rw [Int.sign_eq_one_of_pos h]; decide
    calc _ ≤ 1 * p.den := Nat.mul_le_mul_right _ this
      _ = _ := Nat.one_mul _
  · rw [Rat.den_inv]
    split
    · exact h1
    · exact hp.1
end Go.Proofs.Ytecfdemglbfnoaa.Num
end
section
namespace Go.Proofs.Ytecfdemglbfnoaa.Num
open Go.RowKit Go.Proofs.Ytecfdemglbfnoaa.PT Go.Proofs.YtecfdemglbfnoaaW.PrintWords Go.Proofs.YtecfdemglbfnoaaW.PrintLast Go.Proofs.YtecfdemglbfnoaaW.PrintMore
theorem Ev_pos {α : Type} {c : Prop} [Decidable c] {f g : Nat → Option α} {r : α} (h : c) (k : Ev f r) : Ev (fun n => if c then f n else g n) r := Ev.congr (fun _ => if_pos h) k
theorem Ev_neg {α : Type} {c : Prop} [Decidable c] {f g : Nat → Option α} {r : α} (h : ¬ c) (k : Ev g r) : Ev (fun n => if c then f n else g n) r := Ev.congr (fun _ => if_neg h) k
theorem two_pw (n : Nat) : pw n = 2 ^ (32 * n) := by rw [pw_eq, Nat.pow_mul]
/-- The last limb and the number of digits. -/
theorem sz_lb {v M : Nat} (hl : (lb v).length = M + 1) {t : Nat} (et : rd (lb v) (M : Int) = (t : Int)) (h0 : v ≠ 0) : sz v = 32 * M + sz t := by
  have h1 := top_val hl et
  rw [valn_lb] at h1
  have h2 := take_lt' (U_lb v) M
  have ht : t ≠ 0 := by
    intro h
    have h3 := rd_lb_last h0
    rw [hl, Nat.add_sub_cancel, et, h] at h3
    exact h3 rfl
  have e : v / 2 ^ (32 * M) = t := by
    rw [← two_pw, h1, Nat.add_mul_div_left _ _ (pw_pos M), Nat.div_eq_of_lt h2, Nat.zero_add]
  rw [sz_div (n := v) (k := 32 * M) (by rw [e]; exact ht), e]
theorem Bits_f {l : List Int} (ul : U l) (hl : l.length ≤ 100000000) : Ev (fun k => nat_Bits.f k l) ((sz (valn l) : Nat) : Int) := by
  have hs := short_f ul (by omega)
  have hL := lb_len ul
  generalize valn l = v at *
  by_cases h0 : v = 0
  · subst h0
    rw [lb_zero] at hs
    exact Ev.bind hs (Ev.now _)
  · obtain ⟨M, hM⟩ : ∃ M, (lb v).length = M + 1 := ⟨(lb v).length - 1, by
      have : (lb v).length ≠ 0 := fun h => h0 (lb_eq_nil.mp (List.length_eq_zero_iff.mp h))
      omega⟩
    obtain ⟨t, et, ht⟩ := rd_nat (U_lb v) (M : Int)
    have hz := sz_lb hM et h0
    have ht32 : sz t ≤ 32 := sz_le (b := 32) ht
    have c : ¬ (((M + 1 : Nat) : Int) = 0) ∧ (0 : Int) ≤ (M : Int) ∧ (M : Int) < ((M + 1 : Nat) : Int) ∧ M < 9223372036854775807 ∧ (32 : Int) * (M : Int) = ((32 * M : Nat) : Int) := by omega
    have ws : wrap64 (((M + 1 : Nat) : Int) - 1) = (M : Int) ∧ wrap64 ((32 * M : Nat) : Int) = ((32 * M : Nat) : Int) ∧ wrap64 (((32 * M : Nat) : Int) + ((sz t : Nat) : Int)) = ((32 * M + sz t : Nat) : Int) := ⟨dn M c.2.2.2.1, w64 (by omega) (by omega), by rw [w64 (by omega) (by omega)]; rfl⟩
    refine Ev.bind hs (Ev.congr (f := fun _ => some ((sz v : Nat) : Int)) (fun k => ?_) (Ev.now _))
    rw [hM, if_neg c.1, ws.1, if_pos c.2.1, if_pos c.2.2.1, et, Len32_f t ht, Option.bind_some, c.2.2.2.2, ws.2.1, ws.2.2, hz]
theorem mod32 (r : Nat) : r * 4294967296 % 2 ^ 32 = 0 := by rw [show (2 : Nat) ^ 32 = 4294967296 from rfl]; exact Nat.mul_mod_left ..
theorem or_rx {r x : Nat} (hr : r < 4294967296) (hx : x < 4294967296) : Go.bits .or .u64 (IntKind.u64.wrap ((r : Int) * 4294967296)) (IntKind.u64.wrap (x : Int)) = ((r * 4294967296 + x : Nat) : Int) := by
  have e : (r : Int) * 4294967296 = ((r * 4294967296 : Nat) : Int) := by simp
  rw [e, u64 (x := ((r * 4294967296 : Nat) : Int)) (by omega) (by omega), u64 (x := (x : Int)) (by omega) (by omega), or64 32 _ _ (mod32 r) (by omega) hx (by omega)]
theorem digit_l0 {a : List Int} (ua : U a) {b : Nat} (hb : 0 < b) (hb' : b < 4294967296) (hs : a.length ≤ 100000000) : ∀ (j : Nat) (out : List Int) (r : Nat), j ≤ a.length → out.length = a.length → U out → r = valn (a.drop j) % b → valn (out.drop j) = valn (a.drop j) / b →
    Ev (fun k => nat_digit.l0 k a (b : Int) out (r : Int) ((j : Int) - 1)) (lb (valn a / b), ((valn a % b : Nat) : Int)) := by
  intro j
  induction j with
  | zero =>
    intro out r _ hout uo hr hv
    rw [List.drop_zero] at hr hv
    rw [List.drop_zero] at hv
    have hsh := short_f uo (by omega)
    rw [hv] at hsh
    refine Ev_succ ?_
    refine Ev.congr (fun k => ?_) (Ev.bind (f := fun _ x => some (x, ((valn a % b : Nat) : Int))) hsh (Ev.now _))
    simp only [nat_digit.l0]
    have hrb : r < b := by rw [hr]; exact Nat.mod_lt _ hb
    have e : (r : Int) % 4294967296 = (r : Int) := by omega
    rw [if_neg (by omega), e, hr]
  | succ j ih =>
    intro out r hj hout uo hr hv
    obtain ⟨x, ex, hx⟩ := rd_nat ua (j : Int)
    have hrb : r < b := by rw [hr]; exact Nat.mod_lt _ hb
    have hd := valn_drop_rd a j
    rw [ex, Int.toNat_natCast] at hd
    have key : valn (a.drop j) = (r * 4294967296 + x) + b * (4294967296 * (valn (a.drop (j + 1)) / b)) := by
      have h1 := Nat.div_add_mod (valn (a.drop (j + 1))) b
      rw [← hr] at h1
      have h2 : b * (4294967296 * (valn (a.drop (j + 1)) / b)) = 4294967296 * (b * (valn (a.drop (j + 1)) / b)) := by ac_rfl
      rw [hd, h2]
      generalize b * (valn (a.drop (j + 1)) / b) = y at *
      omega
    have hrx : r * 4294967296 + x < b * 4294967296 := by
      have : (r + 1) * 4294967296 ≤ b * 4294967296 := Nat.mul_le_mul_right _ hrb
      omega
    have hq : (r * 4294967296 + x) / b < 4294967296 := (Nat.div_lt_iff_lt_mul hb).mpr (by rw [Nat.mul_comm 4294967296 b]; exact hrx)
    have k1 : valn (a.drop j) % b = (r * 4294967296 + x) % b := by rw [key, Nat.add_mul_mod_self_left]
    have k2 : valn (a.drop j) / b = (r * 4294967296 + x) / b + 4294967296 * (valn (a.drop (j + 1)) / b) := by rw [key, Nat.add_mul_div_left _ _ hb]
    obtain ⟨D, hD⟩ : ∃ D, (r * 4294967296 + x) / b = D := ⟨_, rfl⟩
    rw [hD] at hq k2
    have step := ih (out.set j (D : Int)) ((r * 4294967296 + x) % b) (by omega) (by rw [List.length_set]; exact hout) (U_set uo ⟨Int.natCast_nonneg _, by omega⟩ _) k1.symm (by
      rw [valn_drop_rd, rd_set_eq _ _ _ (by omega), Int.toNat_natCast, List.drop_set_of_lt (by omega), hv, k2])
    have rx64 : r * 4294967296 + x < 18446744073709551616 := by omega
    have et : Go.bits .or .u64 (IntKind.u64.wrap ((r : Int) * 4294967296)) (IntKind.u64.wrap (rd a (j : Int))) = ((r * 4294967296 + x : Nat) : Int) := by rw [ex]; exact or_rx (Nat.lt_trans hrb hb') hx
    have eb : IntKind.u64.wrap (b : Int) = (b : Int) := u64 (by omega) (by omega)
    have eD : IntKind.u64.wrap ((D : Nat) : Int) % 4294967296 = (D : Int) := by rw [u64 (by omega) (by omega)]; omega
    have ej : ((j + 1 : Nat) : Int) - 1 = (j : Int) := by omega
    have c : (j : Int) ≥ 0 ∧ (0 : Int) ≤ (j : Int) ∧ (j : Int) < (a.length : Int) ∧ ¬ ((b : Int) = 0) ∧ (j : Int) < (out.length : Int) := by omega
    have wj : wrap64 ((j : Int) - 1) = (j : Int) - 1 := w64 (by omega) (by omega)
    refine Ev_succ (Ev.congr (fun k => ?_) step)
    rw [nat_digit.l0, ej, if_pos c.1, if_pos c.2.1, if_pos c.2.2.1, eb, if_neg c.2.2.2.1, if_pos c.2.2.2.2, et, tdiv_cast, tmod_cast, hD, eD, wj, Int.toNat_natCast]
theorem digit_f {a : List Int} (ua : U a) {b : Nat} (hb : 0 < b) (hb' : b < 4294967296) (hs : a.length ≤ 100000000) : Ev (fun k => nat_digit.f k a (b : Int)) (lb (valn a / b), ((valn a % b : Nat) : Int)) := by
  have h := digit_l0 ua hb hb' hs a.length (List.replicate a.length 0) 0 (Nat.le_refl _) (by simp) (U_replicate _) (by rw [List.drop_eq_nil_of_le (Nat.le_refl _), valn_nil, Nat.zero_mod]) (by
    rw [show (List.replicate a.length (0 : Int)).drop a.length = [] from List.drop_eq_nil_of_le (by rw [List.length_replicate]; exact Nat.le_refl _), List.drop_eq_nil_of_le (Nat.le_refl _), valn_nil, Nat.zero_div])
  refine Ev.congr (fun k => ?_) h
  have c : (0 : Int) ≤ (a.length : Int) ∧ a.length ≤ 70368744177664 := by omega
  have wj : wrap64 ((a.length : Int) - 1) = (a.length : Int) - 1 := w64 (by omega) (by omega)
  unfold nat_digit.f
  rw [if_pos c.1, Int.toNat_natCast, if_pos c.2, wj]; rfl
theorem DivMod_f {a b : List Int} (ua : U a) (ub : U b) (la : a.length ≤ 1000000) (lb' : b.length ≤ 1000000) (h0 : valn b ≠ 0) :
    Ev (fun k => nat_DivMod.f k a b) (lb (valn a / valn b), lb (valn a % valn b), 0) := by
  have hsa := short_f ua (by omega)
  have hsb := short_f ub (by omega)
  have ha := lb_len ua
  have hb := lb_len ub
  generalize valn a = m at *
  generalize valn b = n at *
  have hn : (lb n).length ≠ 0 := fun h => h0 (lb_eq_nil.mp (List.length_eq_zero_iff.mp h))
  have hc := Cmp_f (U_lb m) (U_lb n) (by omega) (by omega)
  rw [valn_lb, valn_lb] at hc
  refine Ev.bind hsa (Ev.bind hsb ?_)
  have c0 : ¬ (((lb n).length : Int) = 0) := by omega
  by_cases hlt : m < n
  · have h1 : cmpn m n = -1 := by unfold cmpn; rw [if_pos hlt]
    rw [h1] at hc
    have ht := Trim_f (U_lb m) (by omega)
    rw [valn_lb] at ht
    refine Ev_neg c0 (Ev.bind hc (Ev_pos (by decide) (Ev.bind ht ?_)))
    rw [Nat.div_eq_of_lt hlt, Nat.mod_eq_of_lt hlt, lb_zero]; exact Ev.now _
  · have h1 : ¬ cmpn m n < 0 := by unfold cmpn; rw [if_neg hlt]; split <;> omega
    refine Ev_neg c0 (Ev.bind hc (Ev_neg h1 ?_))
    by_cases h2 : (lb n).length = 1
    · obtain ⟨t, et, ht⟩ := rd_nat (U_lb n) ((0 : Nat) : Int)
      have en : n = t := by
        have h3 := top_val (M := 0) h2 et
        rw [valn_lb, List.take_zero, valn_nil, pw_zero] at h3; omega
      have hd := digit_f (U_lb m) (b := t) (by omega) ht (by omega)
      rw [valn_lb, ← en] at hd
      have c2 : ((lb n).length : Int) = 1 ∧ (0 : Int) < ((lb n).length : Int) := by omega
      have et' : rd (lb n) 0 = (n : Int) := by rw [en]; rw [en] at et; exact et
      have hr : m % n < n := Nat.mod_lt _ (Nat.pos_of_ne_zero h0)
      have eo : IntKind.u64.wrap ((m % n : Nat) : Int) = ((m % n : Nat) : Int) := u64 (Int.natCast_nonneg _) (by omega)
      have ho := Of_f (m % n) (by omega)
      refine Ev_pos c2.1 (Ev_pos c2.2 ?_)
      rw [et']
      refine Ev.bind hd ?_
      rw [eo]
      exact Ev.bind ho (Ev.now _)
    · have c2 : ¬ ((lb n).length : Int) = 1 := by omega
      have hle : (lb n).length ≤ (lb m).length := by
        by_cases c : (lb n).length ≤ (lb m).length
        · exact c
        · exact absurd (len_lt_of_lt (by omega)) hlt
      have hl : nat_long.f (lb m) (lb n) = some (padn ((lb m).length + 1 - (lb n).length) (m / n), padn (lb n).length (m % n)) := by
        unfold nat_long.f
        rw [if_pos ⟨by omega, hle, by rw [← rd_getLastD]; exact rd_lb_last h0, U_lb m, U_lb n, by omega⟩, valn_lb, valn_lb]
      have hm := lt_pow_len m
      have hnl := lt_pow_len n
      have hq : m / n < pw ((lb m).length + 1 - (lb n).length) := by
        have h3 := pow_len_le h0
        have h4 : (lb m).length = ((lb n).length - 1) + ((lb m).length + 1 - (lb n).length) := by omega
        rw [h4, pw_add] at hm
        refine (Nat.div_lt_iff_lt_mul (Nat.pos_of_ne_zero h0)).mpr (Nat.lt_of_lt_of_le hm ?_)
        rw [Nat.mul_comm]; exact Nat.mul_le_mul_left _ h3
      have hr : m % n < pw (lb n).length := Nat.lt_trans (Nat.mod_lt _ (Nat.pos_of_ne_zero h0)) hnl
      have t1 := Trim_f (U_padn ((lb m).length + 1 - (lb n).length) (m / n)) (by rw [padn_len]; omega)
      have t2 := Trim_f (U_padn (lb n).length (m % n)) (by rw [padn_len]; omega)
      rw [valn_padn_lt hq] at t1
      rw [valn_padn_lt hr] at t2
      refine Ev_neg c2 ?_
      rw [hl]
      exact Ev.bind (Ev.now _) (Ev.bind t1 (Ev.bind t2 (Ev.now _)))
theorem Gcd_l0 : ∀ (n m : Nat), (lb m).length ≤ 1000000 → (lb n).length ≤ 1000000 → Ev (fun k => nat_Gcd.l0 k (lb m) (lb n)) (lb (Nat.gcd m n)) := by
  intro n
  induction n using Nat.strongRecOn with
  | _ n ih =>
    intro m hm hn
    refine Ev_succ ?_
    simp only [nat_Gcd.l0]
    by_cases h0 : n = 0
    · subst h0
      have ht := Trim_f (U_lb m) (by omega)
      rw [valn_lb] at ht
      have c : ¬ (((lb 0).length : Int) > 0) := by rw [lb_zero]; decide
      rw [Nat.gcd_zero_right]
      exact Ev_neg c (Ev.bind ht (Ev.now _))
    · have hl : (lb n).length ≠ 0 := fun h => h0 (lb_eq_nil.mp (List.length_eq_zero_iff.mp h))
      have c : ((lb n).length : Int) > 0 := by omega
      have hd := DivMod_f (U_lb m) (U_lb n) hm hn (by rw [valn_lb]; exact h0)
      rw [valn_lb, valn_lb] at hd
      have hr : m % n < n := Nat.mod_lt _ (Nat.pos_of_ne_zero h0)
      have hlr : (lb (m % n)).length ≤ 1000000 := Nat.le_trans (lb_len_le (Nat.lt_trans hr (lt_pow_len n))) hn
      refine Ev_pos c (Ev.bind hd ?_)
      rw [Nat.gcd_comm, Nat.gcd_rec, Nat.gcd_comm]
      exact ih (m % n) hr n hn hlr
theorem Gcd_f {a b : List Int} (ua : U a) (ub : U b) (la : a.length ≤ 1000000) (lb' : b.length ≤ 1000000) : Ev (fun k => nat_Gcd.f k a b) (lb (Nat.gcd (valn a) (valn b))) :=
  Ev.bind (short_f ua (by omega)) (Ev.bind (short_f ub (by omega)) (Gcd_l0 _ _ (Nat.le_trans (lb_len ua) la) (Nat.le_trans (lb_len ub) lb')))
end Go.Proofs.Ytecfdemglbfnoaa.Num
end
section
namespace Go.Proofs.Ytecfdemglbfnoaa.PT
open Go.RowKit Go.Proofs.YtecfdemglbfnoaaW.PrintWords Go.Proofs.YtecfdemglbfnoaaW.PrintLast Go.Proofs.YtecfdemglbfnoaaW.PrintMore
attribute [local go_sem] max2_int min2_int max_two min_two max_three min_three max_four min_four   -- for this text's walks alone
set_option linter.unusedVariables false
set_option linter.unusedSimpArgs false
end Go.Proofs.Ytecfdemglbfnoaa.PT
end
section
namespace Go.Proofs.Ytecfdemglbfnoaa.PT
open Go.RowKit Go.Proofs.YtecfdemglbfnoaaW.PrintWords Go.Proofs.YtecfdemglbfnoaaW.PrintLast Go.Proofs.YtecfdemglbfnoaaW.PrintMore
attribute [local go_sem] max2_int min2_int max_two min_two max_three min_three max_four min_four   -- for this text's walks alone
set_option linter.unusedVariables false
set_option linter.unusedSimpArgs false
end Go.Proofs.Ytecfdemglbfnoaa.PT
end
section
namespace Go.Proofs.Ytecfdemglbfnoaa.PT
open Go.RowKit Go.Proofs.YtecfdemglbfnoaaW.PrintWords Go.Proofs.YtecfdemglbfnoaaW.PrintLast Go.Proofs.YtecfdemglbfnoaaW.PrintMore
attribute [local go_sem] max2_int min2_int max_two min_two max_three min_three max_four min_four   -- for this text's walks alone
set_option linter.unusedVariables false
set_option linter.unusedSimpArgs false
end Go.Proofs.Ytecfdemglbfnoaa.PT
end
section
namespace Go.Proofs.Ytecfdemglbfnoaa.PT
open Go.RowKit Go.Proofs.YtecfdemglbfnoaaW.PrintWords Go.Proofs.YtecfdemglbfnoaaW.PrintLast Go.Proofs.YtecfdemglbfnoaaW.PrintMore
attribute [local go_sem] max2_int min2_int max_two min_two max_three min_three max_four min_four   -- for this text's walks alone
set_option linter.unusedVariables false
set_option linter.unusedSimpArgs false
end Go.Proofs.Ytecfdemglbfnoaa.PT
end
section
namespace Go.Proofs.Ytecfdemglbfnoaa.PT
open Go.RowKit Go.Proofs.YtecfdemglbfnoaaW.PrintWords Go.Proofs.YtecfdemglbfnoaaW.PrintLast Go.Proofs.YtecfdemglbfnoaaW.PrintMore
attribute [local go_sem] max2_int min2_int max_two min_two max_three min_three max_four min_four   -- for this text's walks alone
set_option linter.unusedVariables false
set_option linter.unusedSimpArgs false
end Go.Proofs.Ytecfdemglbfnoaa.PT
end
section
namespace Go.Proofs.Ytecfdemglbfnoaa.PT
open Go.RowKit Go.Proofs.YtecfdemglbfnoaaW.PrintWords Go.Proofs.YtecfdemglbfnoaaW.PrintLast Go.Proofs.YtecfdemglbfnoaaW.PrintMore
attribute [local go_sem] max2_int min2_int max_two min_two max_three min_three max_four min_four   -- for this text's walks alone
set_option linter.unusedVariables false
set_option linter.unusedSimpArgs false
end Go.Proofs.Ytecfdemglbfnoaa.PT
end
section
namespace Go.Proofs.Ytecfdemglbfnoaa.Num
open Go.RowKit Go.Proofs.Ytecfdemglbfnoaa.PT Go.Proofs.YtecfdemglbfnoaaW.PrintWords Go.Proofs.YtecfdemglbfnoaaW.PrintLast Go.Proofs.YtecfdemglbfnoaaW.PrintMore
theorem Ev_as {α : Type} {g : Nat → Option α} {a b : α} (h : Ev g a) (e : a = b) : Ev g b := e ▸ h
end Go.Proofs.Ytecfdemglbfnoaa.Num
end
section
namespace Go.Proofs.Ytecfdemglbfnoaa.Num
open Go.RowKit Go.Proofs.Ytecfdemglbfnoaa.PT Go.Proofs.YtecfdemglbfnoaaW.PrintWords Go.Proofs.YtecfdemglbfnoaaW.PrintLast Go.Proofs.YtecfdemglbfnoaaW.PrintMore
theorem sz_le_pw {x m : Nat} (h : x < pw m) : sz x ≤ 32 * m := sz_le (by rw [← two_pw]; exact h)
end Go.Proofs.Ytecfdemglbfnoaa.Num
end
section
namespace Go.Proofs.Ytecfdemglbfnoaa.PT
open Go.RowKit Go.Proofs.YtecfdemglbfnoaaW.PrintWords Go.Proofs.YtecfdemglbfnoaaW.PrintLast Go.Proofs.YtecfdemglbfnoaaW.PrintMore
attribute [local go_sem] max2_int min2_int max_two min_two max_three min_three max_four min_four   -- for this text's walks alone
set_option linter.unusedVariables false
set_option linter.unusedSimpArgs false
end Go.Proofs.Ytecfdemglbfnoaa.PT
end
section
namespace Go.Proofs.Ytecfdemglbfnoaa.Num
open Go.RowKit Go.Proofs.Ytecfdemglbfnoaa.PT Go.Proofs.YtecfdemglbfnoaaW.PrintWords Go.Proofs.YtecfdemglbfnoaaW.PrintLast Go.Proofs.YtecfdemglbfnoaaW.PrintMore
theorem sz_eq_zero {n : Nat} : sz n = 0 ↔ n = 0 := by
  constructor
  · intro h
    by_cases c : n = 0
    · exact c
    · have := sz_pos c; omega
  · intro h; subst h; rfl
theorem rep_rv {neg : Bool} {n d : List Int} (hn : valn n ≠ 0) (hd : valn d ≠ 0) : rep (rv neg n d) = (neg, lb (valn n / Nat.gcd (valn n) (valn d)), lb (valn d / Nat.gcd (valn n) (valn d))) := rep_mkRat neg hn hd
theorem gcd_lb {n d : List Int} (un : U n) (ln : n.length ≤ 1000000) (hn : valn n ≠ 0) : (lb (Nat.gcd (valn n) (valn d))).length ≤ 1000000 ∧ Nat.gcd (valn n) (valn d) ≠ 0 :=
  ⟨Nat.le_trans (lb_len_le (Nat.lt_of_le_of_lt (Nat.le_of_dvd (Nat.pos_of_ne_zero hn) (Nat.gcd_dvd_left _ _)) (valn_lt un))) ln, Nat.ne_of_gt (Nat.gcd_pos_of_pos_left _ (Nat.pos_of_ne_zero hn))⟩
theorem canonical_j {neg : Bool} {n d : List Int} (un : U n) (ud : U d) (ln : n.length ≤ 1000000) (ld : d.length ≤ 1000000) (b : Bool) (hb : b = true ↔ valn n = 0 ∨ valn d = 0) :
    Ev (fun k => rational_canonical.j0 k neg n d b) (rep (rv neg n d)) := by
  refine Ev_succ ?_
  simp only [rational_canonical.j0]
  cases b with
  | true =>
    have h : rv neg n d = 0 := by
      rcases hb.mp rfl with h | h
      · exact rv_zero_num neg h
      · exact rv_zero_den neg h
    rw [h, rep_zero]
    exact Ev_pos rfl (Ev.bind (Ev.now _) (Ev.now _))
  | false =>
    have hn : valn n ≠ 0 := fun h => absurd (hb.mpr (.inl h)) (by decide)
    have hd : valn d ≠ 0 := fun h => absurd (hb.mpr (.inr h)) (by decide)
    obtain ⟨hg, hg0⟩ := gcd_lb un ln hn
    have h1 := Gcd_f un ud ln ld
    have h2 := DivMod_f un (U_lb (Nat.gcd (valn n) (valn d))) ln hg (by rw [valn_lb]; exact hg0)
    have h3 := DivMod_f ud (U_lb (Nat.gcd (valn n) (valn d))) ld hg (by rw [valn_lb]; exact hg0)
    rw [valn_lb] at h2 h3
    rw [rep_rv hn hd]
    exact Ev_neg (by decide) (Ev.bind h1 (Ev.bind h2 (Ev.bind h3 (Ev.now _))))
theorem canonical_f {neg : Bool} {n d : List Int} (un : U n) (ud : U d) (ln : n.length ≤ 1000000) (ld : d.length ≤ 1000000) :
    Ev (fun k => rational_canonical.f k neg n d) (rep (rv neg n d)) := by
  have b1 := Bits_f un (by omega)
  have b2 := Bits_f ud (by omega)
  refine Ev.bind b1 ?_
  by_cases h1 : valn n = 0
  · exact Ev_pos (by rw [h1]; rfl) (canonical_j un ud ln ld true ⟨fun _ => .inl h1, fun _ => rfl⟩)
  · have hz : ((sz (valn n) : Nat) : Int) ≠ 0 := fun h => h1 (sz_eq_zero.mp (Int.ofNat_eq_zero.mp h))
    refine Ev_neg hz (Ev.bind b2 (canonical_j un ud ln ld _ ?_))
    constructor
    · intro h
      exact .inr (sz_eq_zero.mp (Int.ofNat_eq_zero.mp (beq_iff_eq.mp h)))
    · intro h
      rcases h with h | h
      · exact absurd h h1
      · rw [h]; rfl
end Go.Proofs.Ytecfdemglbfnoaa.Num
end
section
namespace Go.Proofs.Ytecfdemglbfnoaa.PT
open Go.RowKit Go.Proofs.YtecfdemglbfnoaaW.PrintWords Go.Proofs.YtecfdemglbfnoaaW.PrintLast Go.Proofs.YtecfdemglbfnoaaW.PrintMore
attribute [local go_sem] max2_int min2_int max_two min_two max_three min_three max_four min_four   -- for this text's walks alone
set_option linter.unusedVariables false
set_option linter.unusedSimpArgs false
end Go.Proofs.Ytecfdemglbfnoaa.PT
end
section
namespace Go.Proofs.Ytecfdemglbfnoaa.PT
open Go.RowKit Go.Proofs.YtecfdemglbfnoaaW.PrintWords Go.Proofs.YtecfdemglbfnoaaW.PrintLast Go.Proofs.YtecfdemglbfnoaaW.PrintMore
attribute [local go_sem] max2_int min2_int max_two min_two max_three min_three max_four min_four   -- for this text's walks alone
set_option linter.unusedVariables false
set_option linter.unusedSimpArgs false
end Go.Proofs.Ytecfdemglbfnoaa.PT
end
section
namespace Go.Proofs.Ytecfdemglbfnoaa.PT
open Go.RowKit Go.Proofs.YtecfdemglbfnoaaW.PrintWords Go.Proofs.YtecfdemglbfnoaaW.PrintLast Go.Proofs.YtecfdemglbfnoaaW.PrintMore
attribute [local go_sem] max2_int min2_int max_two min_two max_three min_three max_four min_four   -- for this text's walks alone
set_option linter.unusedVariables false
set_option linter.unusedSimpArgs false
end Go.Proofs.Ytecfdemglbfnoaa.PT
end
section
namespace Go.Proofs.Ytecfdemglbfnoaa.PT
open Go.RowKit Go.Proofs.YtecfdemglbfnoaaW.PrintWords Go.Proofs.YtecfdemglbfnoaaW.PrintLast Go.Proofs.YtecfdemglbfnoaaW.PrintMore
attribute [local go_sem] max2_int min2_int max_two min_two max_three min_three max_four min_four   -- for this text's walks alone
set_option linter.unusedVariables false
set_option linter.unusedSimpArgs false
end Go.Proofs.Ytecfdemglbfnoaa.PT
end
section
namespace Go.Proofs.Ytecfdemglbfnoaa.PT
open Go.RowKit Go.Proofs.YtecfdemglbfnoaaW.PrintWords Go.Proofs.YtecfdemglbfnoaaW.PrintLast Go.Proofs.YtecfdemglbfnoaaW.PrintMore
attribute [local go_sem] max2_int min2_int max_two min_two max_three min_three max_four min_four   -- for this text's walks alone
set_option linter.unusedVariables false
set_option linter.unusedSimpArgs false
end Go.Proofs.Ytecfdemglbfnoaa.PT
end
section
namespace Go.Proofs.Ytecfdemglbfnoaa.PT
open Go.RowKit Go.Proofs.YtecfdemglbfnoaaW.PrintWords Go.Proofs.YtecfdemglbfnoaaW.PrintLast Go.Proofs.YtecfdemglbfnoaaW.PrintMore
attribute [local go_sem] max2_int min2_int max_two min_two max_three min_three max_four min_four   -- for this text's walks alone
set_option linter.unusedVariables false
set_option linter.unusedSimpArgs false
end Go.Proofs.Ytecfdemglbfnoaa.PT
end
section
namespace Go.Proofs.Ytecfdemglbfnoaa.PT
open Go.RowKit Go.Proofs.YtecfdemglbfnoaaW.PrintWords Go.Proofs.YtecfdemglbfnoaaW.PrintLast Go.Proofs.YtecfdemglbfnoaaW.PrintMore
attribute [local go_sem] max2_int min2_int max_two min_two max_three min_three max_four min_four   -- for this text's walks alone
set_option linter.unusedVariables false
set_option linter.unusedSimpArgs false
end Go.Proofs.Ytecfdemglbfnoaa.PT
end
section
namespace Go.Proofs.Ytecfdemglbfnoaa.PT
open Go.RowKit Go.Proofs.YtecfdemglbfnoaaW.PrintWords Go.Proofs.YtecfdemglbfnoaaW.PrintLast Go.Proofs.YtecfdemglbfnoaaW.PrintMore
attribute [local go_sem] max2_int min2_int max_two min_two max_three min_three max_four min_four   -- for this text's walks alone
set_option linter.unusedVariables false
set_option linter.unusedSimpArgs false
end Go.Proofs.Ytecfdemglbfnoaa.PT
end
section
namespace Go.Proofs.Ytecfdemglbfnoaa.PT
open Go.RowKit Go.Proofs.YtecfdemglbfnoaaW.PrintWords Go.Proofs.YtecfdemglbfnoaaW.PrintLast Go.Proofs.YtecfdemglbfnoaaW.PrintMore
attribute [local go_sem] max2_int min2_int max_two min_two max_three min_three max_four min_four   -- for this text's walks alone
set_option linter.unusedVariables false
set_option linter.unusedSimpArgs false
end Go.Proofs.Ytecfdemglbfnoaa.PT
end
section
namespace Go.Proofs.Ytecfdemglbfnoaa.Num
open Go.RowKit Go.Proofs.Ytecfdemglbfnoaa.PT Go.Proofs.YtecfdemglbfnoaaW.PrintWords Go.Proofs.YtecfdemglbfnoaaW.PrintLast Go.Proofs.YtecfdemglbfnoaaW.PrintMore
/-- The sign of a fraction as a number. -/
def sgq (q : Rat) : Int := if q.num = 0 then 0 else if q.num < 0 then -1 else 1
theorem sgq_zero {q : Rat} : sgq q = 0 ↔ q = 0 := by
  unfold sgq
  rw [← Rat.num_eq_zero]
  by_cases h : q.num = 0
  · simp [h]
  · rw [if_neg h]; constructor
    · intro h1; split at h1 <;> omega
    · intro h1; exact absurd h1 h
theorem same02_f {x y : Bool} {a b c d : List Int} (la : a.length ≤ 100000000) (lc : b.length ≤ 100000000) : Ev (fun k => codewrightlaw02_same.f k x a b y c d) (decide ((x, a, b) = (y, c, d))) := by
  have h1 := Same_f (a := a) (b := c) (by omega)
  have h2 := Same_f (a := b) (b := d) (by omega)
  refine Ev.bind (a := decide ((x, a, b) = (y, c, d))) ?_ (Ev.now _)
  by_cases c1 : x = y
  · by_cases c2 : a = c
    · refine Ev_pos (by rw [c1]; simp) (Ev.bind h1 (Ev_pos (decide_eq_true c2) (Ev.bind h2 (Ev_as (Ev.now _) ?_))))
      rw [c1, c2]; simp
    · refine Ev_pos (by rw [c1]; simp) (Ev.bind h1 (Ev_neg (by rw [decide_eq_false c2]; decide) (Ev_as (Ev.now _) ?_)))
      rw [decide_eq_false]; intro h; injection h with _ h; injection h with h _; exact c2 h
  · refine Ev_neg (by simp [c1]) (Ev_as (Ev.now _) ?_)
    rw [decide_eq_false]; intro h; injection h with h _; exact c1 h
theorem rep_len {q : Rat} {m : Nat} (h : Sz m q) : (rep q).2.1.length ≤ m ∧ (rep q).2.2.length ≤ m := ⟨lb_len_le h.1, lb_len_le h.2⟩
/-- Two fractions' data are the same. -/
theorem same_rep {p q : Rat} {m : Nat} (h : Sz m p) (hm : m ≤ 100000000) : Ev (fun k => codewrightlaw02_same.f k (rep p).1 (rep p).2.1 (rep p).2.2 (rep q).1 (rep q).2.1 (rep q).2.2) (decide (p = q)) := by
  have hl := rep_len h
  refine Ev_as (same02_f (by omega) (by omega)) ?_
  have : ((rep p).1, (rep p).2.1, (rep p).2.2) = ((rep q).1, (rep q).2.1, (rep q).2.2) ↔ p = q := ⟨fun h => rep_inj h, fun h => by rw [h]⟩
  exact decide_eq_decide.mpr this
theorem same_self {q : Rat} {m : Nat} (h : Sz m q) (hm : m ≤ 100000000) : Ev (fun k => codewrightlaw02_same.f k (rep q).1 (rep q).2.1 (rep q).2.2 (rep q).1 (rep q).2.1 (rep q).2.2) true :=
  Ev_as (same_rep h hm) (decide_eq_true rfl)
/-- An int in the machine's range. -/
def I64 (x : Int) : Prop := -9223372036854775808 ≤ x ∧ x ≤ 9223372036854775807
end Go.Proofs.Ytecfdemglbfnoaa.Num
end
section
namespace Go.Proofs.Ytecfdemglbfnoaa.PT
open Go.RowKit Go.Proofs.YtecfdemglbfnoaaW.PrintWords Go.Proofs.YtecfdemglbfnoaaW.PrintLast Go.Proofs.YtecfdemglbfnoaaW.PrintMore
attribute [local go_sem] max2_int min2_int max_two min_two max_three min_three max_four min_four   -- for this text's walks alone
set_option linter.unusedVariables false
set_option linter.unusedSimpArgs false
end Go.Proofs.Ytecfdemglbfnoaa.PT
end
section
namespace Go.Proofs.Ytecfdemglbfnoaa.PT
open Go.RowKit Go.Proofs.YtecfdemglbfnoaaW.PrintWords Go.Proofs.YtecfdemglbfnoaaW.PrintLast Go.Proofs.YtecfdemglbfnoaaW.PrintMore
attribute [local go_sem] max2_int min2_int max_two min_two max_three min_three max_four min_four   -- for this text's walks alone
set_option linter.unusedVariables false
set_option linter.unusedSimpArgs false
end Go.Proofs.Ytecfdemglbfnoaa.PT
end
section
namespace Go.Proofs.Ytecfdemglbfnoaa.PT
open Go.RowKit Go.Proofs.YtecfdemglbfnoaaW.PrintWords Go.Proofs.YtecfdemglbfnoaaW.PrintLast Go.Proofs.YtecfdemglbfnoaaW.PrintMore
attribute [local go_sem] max2_int min2_int max_two min_two max_three min_three max_four min_four   -- for this text's walks alone
set_option linter.unusedVariables false
set_option linter.unusedSimpArgs false
end Go.Proofs.Ytecfdemglbfnoaa.PT
end
section
namespace Go.Proofs.Ytecfdemglbfnoaa.PT
open Go.RowKit Go.Proofs.YtecfdemglbfnoaaW.PrintWords Go.Proofs.YtecfdemglbfnoaaW.PrintLast Go.Proofs.YtecfdemglbfnoaaW.PrintMore
attribute [local go_sem] max2_int min2_int max_two min_two max_three min_three max_four min_four   -- for this text's walks alone
set_option linter.unusedVariables false
set_option linter.unusedSimpArgs false
end Go.Proofs.Ytecfdemglbfnoaa.PT
end
section
namespace Go.Proofs.Ytecfdemglbfnoaa.PT
open Go.RowKit Go.Proofs.YtecfdemglbfnoaaW.PrintWords Go.Proofs.YtecfdemglbfnoaaW.PrintLast Go.Proofs.YtecfdemglbfnoaaW.PrintMore
attribute [local go_sem] max2_int min2_int max_two min_two max_three min_three max_four min_four   -- for this text's walks alone
set_option linter.unusedVariables false
set_option linter.unusedSimpArgs false
end Go.Proofs.Ytecfdemglbfnoaa.PT
end
section
namespace Go.Proofs.Ytecfdemglbfnoaa.Num
open Go.RowKit Go.Proofs.Ytecfdemglbfnoaa.PT Go.Proofs.YtecfdemglbfnoaaW.PrintWords Go.Proofs.YtecfdemglbfnoaaW.PrintLast Go.Proofs.YtecfdemglbfnoaaW.PrintMore
theorem Trim02_f {neg : Bool} {n d : List Int} (un : U n) (ud : U d) (ln : n.length ≤ 1000000) (ld : d.length ≤ 1000000) :
    Ev (fun k => rational_Trim.f k neg n d) (rep (rv neg n d)) := Ev.bind (canonical_f un ud ln ld) (Ev.now _)
theorem sgq_rv0 {neg : Bool} {n d : List Int} (h : valn n = 0 ∨ valn d = 0) : sgq (rv neg n d) = 0 := by
  rcases h with h | h
  · rw [rv_zero_num neg h]; rfl
  · rw [rv_zero_den neg h]; rfl
theorem sgq_rep {q : Rat} (h : q ≠ 0) : sgq q = if (rep q).1 = true then -1 else 1 := by
  have h0 : q.num ≠ 0 := fun e => h (Rat.num_eq_zero.mp e)
  unfold sgq
  rw [if_neg h0]
  simp only [rep, decide_eq_true_iff]
theorem rv_ne {neg : Bool} {n d : List Int} (hn : valn n ≠ 0) (hd : valn d ≠ 0) : rv neg n d ≠ 0 := by
  unfold rv
  rw [Rat.mkRat_ne_zero hd]
  exact sg_ne hn
theorem Sign_j {neg : Bool} {n d : List Int} (b : Bool) (hb : b = true ↔ valn n = 0 ∨ valn d = 0) : Ev (fun k => rational_Sign.j0 k b neg n d) (sgq (rv neg n d)) := by
  refine Ev_succ ?_
  simp only [rational_Sign.j0]
  cases b with
  | true => rw [sgq_rv0 (hb.mp rfl)]; exact Ev_pos rfl (Ev.now _)
  | false =>
    have hn : valn n ≠ 0 := fun h => absurd (hb.mpr (.inl h)) (by decide)
    have hd : valn d ≠ 0 := fun h => absurd (hb.mpr (.inr h)) (by decide)
    rw [sgq_rep (rv_ne hn hd), rep_rv hn hd]
    refine Ev_neg (by decide) ?_
    cases neg
    · exact Ev_neg (by decide) (Ev.now _)
    · exact Ev_pos rfl (Ev.now _)
theorem Sign_f {neg : Bool} {n d : List Int} (un : U n) (ud : U d) (ln : n.length ≤ 1000000) (ld : d.length ≤ 1000000) :
    Ev (fun k => rational_Sign.f k neg n d) (sgq (rv neg n d)) := by
  have b1 := Bits_f un (by omega)
  have b2 := Bits_f ud (by omega)
  refine Ev.bind b1 ?_
  by_cases h1 : valn n = 0
  · exact Ev_pos (by rw [h1]; rfl) (Sign_j true ⟨fun _ => .inl h1, fun _ => rfl⟩)
  · have hz : ((sz (valn n) : Nat) : Int) ≠ 0 := fun h => h1 (sz_eq_zero.mp (Int.ofNat_eq_zero.mp h))
    refine Ev_neg hz (Ev.bind b2 (Sign_j _ ?_))
    constructor
    · intro h
      exact .inr (sz_eq_zero.mp (Int.ofNat_eq_zero.mp (beq_iff_eq.mp h)))
    · intro h
      rcases h with h | h
      · exact absurd h h1
      · rw [h]; rfl
/-- The guard: has a fraction of the list more limbs than m? -/
theorem long02_l0 (m : Nat) (l : List S67) (hl : l.length < 4611686018427387904) (hs : ∀ x ∈ l, x.f1.length < 2305843009213693952 ∧ x.f2.length < 2305843009213693952) (n : Nat) : ∀ i : Nat, i + n = l.length →
    Ev (fun k => codewrightlaw02_long.l0 k (m : Int) l (i : Int)) ((l.drop i).any fun x => decide (m < x.f1.length + x.f2.length)) := by
  induction n with
  | zero =>
    intro i hi
    rw [List.drop_eq_nil_of_le (by omega)]
    refine Ev_succ ?_
    simp only [codewrightlaw02_long.l0]
    exact Ev_neg (by omega) (Ev.now _)
  | succ n ih =>
    intro i hi
    have e : rd_T67 l (i : Int) = l[i]'(by omega) := by simp [rd_T67, show i < l.length from by omega]
    have hm : l[i]'(by omega) ∈ l := List.getElem_mem _
    have hx := hs _ hm
    have hd : l.drop i = l[i]'(by omega) :: l.drop (i + 1) := by rw [List.drop_eq_getElem_cons]
    rw [hd, List.any_cons]
    generalize l[i]'(by omega) = x at *
    have c : (i : Int) < (l.length : Int) ∧ (0 : Int) ≤ (i : Int) := by omega
    have step := ih (i + 1) (by omega)
    have wi : wrap64 ((i : Int) + 1) = ((i + 1 : Nat) : Int) := up i (by omega)
    have ws : wrap64 ((x.f1.length : Int) + (x.f2.length : Int)) = ((x.f1.length + x.f2.length : Nat) : Int) := by rw [w64 (by omega) (by omega)]; rfl
    refine Ev_succ ?_
    simp only [codewrightlaw02_long.l0]
    refine Ev_pos c.1 (Ev_pos c.2 ?_)
    rw [e, ws, wi]
    clear ws wi
    by_cases h : m < x.f1.length + x.f2.length
    · rw [decide_eq_true h]
      exact Ev_pos (by omega) (Ev.now _)
    · rw [decide_eq_false h, Bool.false_or]
      exact Ev_neg (by omega) step
theorem long02_f (m : Nat) (l : List S67) (hl : l.length < 4611686018427387904) (hs : ∀ x ∈ l, x.f1.length < 2305843009213693952 ∧ x.f2.length < 2305843009213693952) :
    Ev (fun k => codewrightlaw02_long.f k (m : Int) l) (l.any fun x => decide (m < x.f1.length + x.f2.length)) := long02_l0 m l hl hs l.length 0 (by omega)
end Go.Proofs.Ytecfdemglbfnoaa.Num
end
section
namespace Go.Proofs.Ytecfdemglbfnoaa.PT
open Go.RowKit Go.Proofs.YtecfdemglbfnoaaW.PrintWords Go.Proofs.YtecfdemglbfnoaaW.PrintLast Go.Proofs.YtecfdemglbfnoaaW.PrintMore
attribute [local go_sem] max2_int min2_int max_two min_two max_three min_three max_four min_four   -- for this text's walks alone
set_option linter.unusedVariables false
set_option linter.unusedSimpArgs false
end Go.Proofs.Ytecfdemglbfnoaa.PT
end
section
namespace Go.Proofs.Ytecfdemglbfnoaa.Num
open Go.RowKit Go.Proofs.Ytecfdemglbfnoaa.PT Go.Proofs.YtecfdemglbfnoaaW.PrintWords Go.Proofs.YtecfdemglbfnoaaW.PrintLast Go.Proofs.YtecfdemglbfnoaaW.PrintMore
/-- The value of a fraction's data. -/
def v67 (x : S67) : Rat := rv x.f0 x.f1 x.f2
/-- Data of fractions with at most m limbs in each part. -/
def Ok67 (m : Nat) (l : List S67) : Prop := ∀ x ∈ l, U x.f1 ∧ U x.f2 ∧ x.f1.length ≤ m ∧ x.f2.length ≤ m
/-- The product of a list of fractions. -/
def prodq : List S67 → Rat
  | [] => 1
  | x :: l => v67 x * prodq l
theorem rep_one : rep 1 = (false, [1], [1]) := by
  have e : rep 1 = (false, lb 1, lb 1) := rfl
  rw [e, lb_one]
theorem mul_rv (p q : Rat) : rv ((rep p).1 != (rep q).1) (lb (p.num.natAbs * q.num.natAbs)) (lb (p.den * q.den)) = p * q := by
  rw [rv, valn_lb, valn_lb]; exact (mul_parts p q).symm
theorem inv_rv (neg : Bool) (n d : List Int) : rv neg d n = (rv neg n d)⁻¹ := by
  unfold rv
  rw [← Rat.divInt_ofNat, ← Rat.divInt_ofNat, Rat.inv_divInt]
  cases neg
  · rfl
  · show Rat.divInt (-(valn d : Int)) ((valn n : Nat) : Int) = Rat.divInt ((valn d : Nat) : Int) (-(valn n : Int))
    rw [Rat.divInt_neg']
theorem lb_sz {m : Nat} {q : Rat} (h : Sz m q) : (lb q.num.natAbs).length ≤ m ∧ (lb q.den).length ≤ m := ⟨lb_len_le h.1, lb_len_le h.2⟩
theorem rd67 {l : List S67} {i : Nat} (h : i < l.length) : rd_T67 l (i : Int) = l[i] := by simp [rd_T67, h]
theorem Mul02_l0 {m : Nat} {l : List S67} (hl : Ok67 m l) (hm : 1 ≤ m) (hn : l.length < 4611686018427387904) (n : Nat) : ∀ (i s : Nat) (p : Rat), i + n = l.length → Sz s p → 1 ≤ s → s + m * n ≤ 1000000 →
    Ev (fun k => rational_Mul.l0 k (rep p).1 (rep p).2.1 (rep p).2.2 l (l.length : Int) (i : Int)) (rep (p * prodq (l.drop i))) := by
  induction n with
  | zero =>
    intro i s p hi hp h1 hs
    rw [List.drop_eq_nil_of_le (by omega)]
    refine Ev_succ ?_
    simp only [rational_Mul.l0]
    exact Ev_neg (by omega) (Ev_as (Ev.now _) (by rw [prodq, Rat.mul_one]))
  | succ n ih =>
    intro i s p hi hp h1 hs
    have hs' : s + m + m * n ≤ 1000000 := by rw [Nat.mul_succ] at hs; omega
    have hi' : i < l.length := by omega
    have c1 : (i : Int) < (l.length : Int) := by omega
    have c0 : (0 : Int) ≤ (i : Int) := by omega
    obtain ⟨u1, u2, l1, l2⟩ := hl _ (List.getElem_mem hi')
    have hq : Sz m (v67 l[i]) := Sz_rv u1 u2 l1 l2 hm
    have hd : l.drop i = l[i] :: l.drop (i + 1) := by rw [List.drop_eq_getElem_cons]
    have ht : Ev (fun k => rational_Trim.f k l[i].f0 l[i].f1 l[i].f2) (rep (v67 l[i])) := Trim02_f u1 u2 (by omega) (by omega)
    have hrd := rd67 hi'
    have lp := lb_sz hp
    have lq := lb_sz hq
    have m1 : Ev (fun k => nat_Mul.f k [(rep p).2.1, (rep (v67 l[i])).2.1]) (lb (p.num.natAbs * (v67 l[i]).num.natAbs)) := by
      have m1 := Mul_two (U_lb p.num.natAbs) (U_lb (v67 l[i]).num.natAbs) (by omega)
      rw [valn_lb, valn_lb] at m1; exact m1
    have m2 : Ev (fun k => nat_Mul.f k [(rep p).2.2, (rep (v67 l[i])).2.2]) (lb (p.den * (v67 l[i]).den)) := by
      have m2 := Mul_two (U_lb p.den) (U_lb (v67 l[i]).den) (by omega)
      rw [valn_lb, valn_lb] at m2; exact m2
    have hpq : Sz (s + m) (p * v67 l[i]) := Sz_mul hp hq h1
    have b1 : (lb (p.num.natAbs * (v67 l[i]).num.natAbs)).length ≤ 1000000 := Nat.le_trans (lb_len_le (mul_pw' hp.1 hq.1)) (by omega)
    have b2 : (lb (p.den * (v67 l[i]).den)).length ≤ 1000000 := Nat.le_trans (lb_len_le (mul_pw' hp.2 hq.2)) (by omega)
    have hc := canonical_f (neg := (rep p).1 != (rep (v67 l[i])).1) (U_lb (p.num.natAbs * (v67 l[i]).num.natAbs)) (U_lb (p.den * (v67 l[i]).den)) b1 b2
    rw [mul_rv] at hc
    have step := ih (i + 1) (s + m) (p * v67 l[i]) (by omega) hpq (by omega) (by omega)
    rw [hd, prodq, ← Rat.mul_assoc]
    have wi : wrap64 ((i : Int) + 1) = ((i + 1 : Nat) : Int) := up i (by omega)
    refine Ev_succ ?_
    simp only [rational_Mul.l0]
    refine Ev_pos c1 (Ev_pos c0 (Ev_pos c1 ?_))
    rw [hrd, wi]
    clear wi hrd hd hi hs hs' lp lq b1 b2 hpq hp hq ih
    generalize v67 l[i] = q at *
    generalize p * q = pq at *
    exact Ev.bind ht (Ev.bind m1 (Ev.bind m2 (Ev.bind hc step)))
theorem Sz_one : Sz 1 1 := by
  have h1 : 1 < pw 1 := by rw [pw_succ, pw_zero]; decide
  exact ⟨h1, h1⟩
theorem Mul02_f {m : Nat} {l : List S67} (hl : Ok67 m l) (hm : 1 ≤ m) (hs : m * l.length ≤ 999999) : Ev (fun k => rational_Mul.f k l) (rep (prodq l)) := by
  have hn : l.length ≤ m * l.length := Nat.le_mul_of_pos_left _ hm
  have h := Mul02_l0 hl hm (by omega) l.length 0 1 1 (by omega) Sz_one (by omega) (by omega)
  rw [rep_one, Rat.one_mul] at h
  exact Ev.bind (Ev.now _) (Ev.bind (Ev.now _) h)
theorem prodq_two (x y : S67) : prodq [x, y] = v67 x * v67 y := by rw [prodq, prodq, prodq, Rat.mul_one]
theorem Ok67_two {m : Nat} {x y : S67} (hx : U x.f1 ∧ U x.f2 ∧ x.f1.length ≤ m ∧ x.f2.length ≤ m) (hy : U y.f1 ∧ U y.f2 ∧ y.f1.length ≤ m ∧ y.f2.length ≤ m) : Ok67 m [x, y] := by
  intro z hz
  simp only [List.mem_cons, List.not_mem_nil, or_false] at hz
  rcases hz with rfl | rfl
  · exact hx
  · exact hy
theorem Mul02_two {x y : S67} {m : Nat} (hx : U x.f1 ∧ U x.f2 ∧ x.f1.length ≤ m ∧ x.f2.length ≤ m) (hy : U y.f1 ∧ U y.f2 ∧ y.f1.length ≤ m ∧ y.f2.length ≤ m) (hm : 1 ≤ m) (hs : m ≤ 400000) :
    Ev (fun k => rational_Mul.f k [x, y]) (rep (v67 x * v67 y)) := by
  have h := Mul02_f (Ok67_two hx hy) hm (by simp only [List.length_cons, List.length_nil]; omega)
  rw [prodq_two] at h; exact h
/-- The data of a fraction, as an element. -/
theorem ok_rep {m : Nat} {q : Rat} (h : Sz m q) : U (rep q).2.1 ∧ U (rep q).2.2 ∧ (rep q).2.1.length ≤ m ∧ (rep q).2.2.length ≤ m := ⟨U_lb _, U_lb _, (rep_len h).1, (rep_len h).2⟩
theorem v67_rep (q : Rat) : v67 ⟨(rep q).1, (rep q).2.1, (rep q).2.2⟩ = q := rv_rep q
end Go.Proofs.Ytecfdemglbfnoaa.Num
end
section
namespace Go.Proofs.Ytecfdemglbfnoaa.PT
open Go.RowKit Go.Proofs.YtecfdemglbfnoaaW.PrintWords Go.Proofs.YtecfdemglbfnoaaW.PrintLast Go.Proofs.YtecfdemglbfnoaaW.PrintMore
attribute [local go_sem] max2_int min2_int max_two min_two max_three min_three max_four min_four   -- for this text's walks alone
set_option linter.unusedVariables false
set_option linter.unusedSimpArgs false
end Go.Proofs.Ytecfdemglbfnoaa.PT
end
section
namespace Go.Proofs.Ytecfdemglbfnoaa.Num
open Go.RowKit Go.Proofs.Ytecfdemglbfnoaa.PT Go.Proofs.YtecfdemglbfnoaaW.PrintWords Go.Proofs.YtecfdemglbfnoaaW.PrintLast Go.Proofs.YtecfdemglbfnoaaW.PrintMore
/-- What both powers answer. -/
def powr (v m : Nat) : List Int × Int := if m = 0 then ([1], 0) else if v ≤ 1 then (lb v, 0) else if 131072 < m then ([], 8) else (lb (v ^ m), 0)
/-- The power is small where it is told. -/
def Fit (v m : Nat) : Prop := 2 ≤ v → m ≤ 131072 → v ^ m < pw 1000 ∧ sz v * m ≤ 32000
theorem and_one (m : Nat) (h : m < 9223372036854775808) : Go.bits .and .i64 (m : Int) 1 = ((m % 2 : Nat) : Int) := by
  have hw : ∀ n : Int, 0 ≤ n → n < 2 ^ 63 → IntKind.i64.wrap n = n := fun n h0 h1 => by rw [i64_w]; exact w64 (by omega) (by omega)
  have := (bits_nat .i64 63 (by decide) hw m 1 h (by decide)).1
  have e : ((1 : Nat) : Int) = (1 : Int) := rfl
  rw [e] at this
  rw [this, Nat.and_one_is_mod]
theorem one_lb : ([1] : List Int) = lb 1 := by rw [lb_pos (by decide), show (1 : Nat) / 4294967296 = 0 from rfl, lb_zero]; rfl
theorem pow_l0 (R : Nat) (hR : R < pw 1000) : ∀ (m : Nat), m ≠ 0 → m ≤ 131072 → ∀ (o s : Nat), 1 ≤ o → 1 ≤ s → o * s ^ m = R → Ev (fun k => nat_Pow.l0 k (m : Int) (lb o) (lb s)) (lb R, 0) := by
  intro m
  induction m using Nat.strongRecOn with
  | _ m ih =>
    intro hm0 hm o s ho hs hv
    have hp : 1 ≤ s ^ m := Nat.one_le_pow _ _ hs
    have hoR : o ≤ R := by rw [← hv]; exact Nat.le_mul_of_pos_right _ hp
    have hsm : s ≤ s ^ m := Nat.le_self_pow hm0 s
    have hsR : s ≤ R := by rw [← hv]; exact Nat.le_trans hsm (Nat.le_mul_of_pos_left _ ho)
    have lo := lb_len_le (Nat.lt_of_le_of_lt hoR hR)
    have ls := lb_len_le (Nat.lt_of_le_of_lt hsR hR)
    have lR := lb_len_le hR
    have hsq := times_f (U_lb s) (U_lb s) (by omega)
    have hos := times_f (U_lb o) (U_lb s) (by omega)
    rw [valn_lb] at hsq
    rw [valn_lb, valn_lb] at hos
    have htR := Trim_f (U_lb R) (by omega)
    rw [valn_lb] at htR
    have ha := and_one m (by omega)
    have hd : (m : Int) / 2 = ((m / 2 : Nat) : Int) := rfl
    have hmod : m = 2 * (m / 2) + m % 2 := by omega
    have hsp : s ^ m = (s * s) ^ (m / 2) * s ^ (m % 2) := by
      conv => lhs; rw [hmod]
      rw [Nat.pow_add, Nat.pow_mul, Nat.pow_two]
    have c4 : ¬ (((lb R).length : Int) > 4096) := by omega
    refine Ev_succ ?_
    simp only [nat_Pow.l0]
    rw [ha, hd]
    by_cases hodd : m % 2 = 1
    · refine Ev_pos (by rw [hodd]; rfl) (Ev.bind hos ?_)
      rw [hodd, Nat.pow_one] at hsp
      by_cases h2 : m / 2 = 0
      · have e : o * s = R := by rw [← hv, hsp, h2, Nat.pow_zero, Nat.one_mul]
        rw [e]
        exact Ev_pos (by rw [h2]; rfl) (Ev_neg c4 (Ev.bind htR (Ev.now _)))
      · have e : o * s * (s * s) ^ (m / 2) = R := by rw [← hv, hsp]; ac_rfl
        exact Ev_neg (fun h => h2 (Int.ofNat_eq_zero.mp h)) (Ev.bind hsq (ih (m / 2) (by omega) h2 (by omega) (o * s) (s * s) (Nat.mul_pos ho hs) (Nat.mul_pos hs hs) e))
    · have h0 : m % 2 = 0 := by omega
      rw [h0, Nat.pow_zero, Nat.mul_one] at hsp
      have h2 : m / 2 ≠ 0 := by omega
      refine Ev_neg (by rw [h0]; decide) (Ev_neg (fun h => h2 (Int.ofNat_eq_zero.mp h)) (Ev.bind hsq (ih (m / 2) (by omega) h2 (by omega) o (s * s) ho (Nat.mul_pos hs hs) ?_)))
      rw [← hv, hsp]
theorem sz_one {v : Nat} : sz v = 1 ↔ v = 1 := by
  constructor
  · intro h
    have h0 : v ≠ 0 := fun e => by rw [e] at h; exact absurd h (by decide)
    have := sz_spec h0
    rw [h] at this
    omega
  · intro h; subst h; rfl
theorem natPow_j {a : List Int} (ua : U a) (la : a.length ≤ 1000000) {m : Nat} (hm : m < 9223372036854775808) (hf : Fit (valn a) m) (b : Bool) (hb : b = true ↔ m = 0 ∨ valn a = 1) :
    Ev (fun k => nat_Pow.j0 k a (m : Int) ((sz (valn a) : Nat) : Int) b) (powr (valn a) m) := by
  have hsh := short_f ua (by omega)
  have hszb := sz_le_pw (Nat.lt_of_lt_of_le (valn_lt ua) (pw_mono la))
  generalize valn a = v at *
  refine Ev_succ ?_
  simp only [nat_Pow.j0]
  cases b with
  | true =>
    refine Ev_pos rfl (Ev_as (Ev.now _) ?_)
    unfold powr
    rcases hb.mp rfl with h | h
    · rw [if_pos h]
    · by_cases h0 : m = 0
      · rw [if_pos h0]
      · rw [if_neg h0, h, if_pos (Nat.le_refl 1), one_lb]
  | false =>
    have h0 : m ≠ 0 := fun h => absurd (hb.mpr (.inl h)) (by decide)
    have h1 : v ≠ 1 := fun h => absurd (hb.mpr (.inr h)) (by decide)
    unfold powr
    rw [if_neg h0]
    refine Ev_neg (by decide) ?_
    by_cases hz : v = 0
    · subst hz
      rw [if_pos (by omega), lb_zero]
      exact Ev_pos rfl (Ev.now _)
    · rw [if_neg (by omega)]
      refine Ev_neg (fun h => hz (sz_eq_zero.mp (Int.ofNat_eq_zero.mp h))) ?_
      by_cases hbig : 131072 < m
      · rw [if_pos hbig]; exact Ev_pos (by omega) (Ev.now _)
      · rw [if_neg hbig]
        obtain ⟨f1, f2⟩ := hf (by omega) (by omega)
        have hs1 := sz_pos hz
        obtain ⟨z, hzz⟩ : ∃ z, sz v = z + 1 := ⟨sz v - 1, by omega⟩
        have hzm : z * m ≤ 32000 := by
          rw [hzz, Nat.add_mul] at f2; omega
        have e1 : wrap64 (((sz v : Nat) : Int) - 1) = (z : Int) := by rw [hzz]; exact dn z (by omega)
        have e2 : (z : Int) * (m : Int) = ((z * m : Nat) : Int) := (Int.natCast_mul z m).symm
        have e3 : wrap64 ((z * m : Nat) : Int) = ((z * m : Nat) : Int) := w64 (by omega) (by omega)
        have c : ¬ (((z * m : Nat) : Int) ≥ 131072) ∧ ¬ ((m : Int) > 131072) := by clear e1 e2 e3; omega
        rw [e1, e2, e3]
        refine Ev_neg c.2 (Ev_neg c.1 (Ev.bind hsh ?_))
        rw [one_lb]
        exact pow_l0 (v ^ m) f1 m h0 (by clear e1 e2 e3; omega) 1 v (Nat.le_refl 1) (by clear e1 e2 e3; omega) (Nat.one_mul _)
theorem natPow_f {a : List Int} (ua : U a) (la : a.length ≤ 1000000) {m : Nat} (hm : m < 9223372036854775808) (hf : Fit (valn a) m) : Ev (fun k => nat_Pow.f k a (m : Int)) (powr (valn a) m) := by
  have hb := Bits_f ua (by omega)
  refine Ev_neg (by omega) (Ev.bind hb ?_)
  by_cases h0 : m = 0
  · exact Ev_pos (by omega) (natPow_j ua la hm hf true ⟨fun _ => .inl h0, fun _ => rfl⟩)
  · refine Ev_neg (by omega) (natPow_j ua la hm hf _ ?_)
    rw [beq_iff_eq]
    constructor
    · intro h; exact .inr (sz_one.mp (by omega))
    · intro h; rcases h with h | h
      · exact absurd h h0
      · rw [h]; rfl
end Go.Proofs.Ytecfdemglbfnoaa.Num
end
section
namespace Go.Proofs.Ytecfdemglbfnoaa.PT
open Go.RowKit Go.Proofs.YtecfdemglbfnoaaW.PrintWords Go.Proofs.YtecfdemglbfnoaaW.PrintLast Go.Proofs.YtecfdemglbfnoaaW.PrintMore
attribute [local go_sem] max2_int min2_int max_two min_two max_three min_three max_four min_four   -- for this text's walks alone
set_option linter.unusedVariables false
set_option linter.unusedSimpArgs false
end Go.Proofs.Ytecfdemglbfnoaa.PT
end
section
namespace Go.Proofs.Ytecfdemglbfnoaa.PT
open Go.RowKit Go.Proofs.YtecfdemglbfnoaaW.PrintWords Go.Proofs.YtecfdemglbfnoaaW.PrintLast Go.Proofs.YtecfdemglbfnoaaW.PrintMore
attribute [local go_sem] max2_int min2_int max_two min_two max_three min_three max_four min_four   -- for this text's walks alone
set_option linter.unusedVariables false
set_option linter.unusedSimpArgs false
end Go.Proofs.Ytecfdemglbfnoaa.PT
end
section
namespace Go.Proofs.Ytecfdemglbfnoaa.Num
open Go.RowKit Go.Proofs.Ytecfdemglbfnoaa.PT Go.Proofs.YtecfdemglbfnoaaW.PrintWords Go.Proofs.YtecfdemglbfnoaaW.PrintLast Go.Proofs.YtecfdemglbfnoaaW.PrintMore
theorem powr_err (v m : Nat) : (powr v m).2 = 0 ∨ (powr v m).2 = 8 := by
  unfold powr
  split
  · exact .inl rfl
  · split
    · exact .inl rfl
    · split
      · exact .inr rfl
      · exact .inl rfl
theorem powr_big {v m n : Nat} (hm : 131072 < m) (hn : 131072 < n) : powr v m = powr v n := by
  unfold powr
  rw [if_neg (show ¬ m = 0 by omega), if_neg (show ¬ n = 0 by omega), if_pos hm, if_pos hn]
theorem powr_ok {v m : Nat} (hv : v < pw 1000) (hf : Fit v m) : U (powr v m).1 ∧ (powr v m).1.length ≤ 1000000 := by
  unfold powr
  split
  · exact ⟨U_cons (by decide) U_nil, by simp⟩
  · split
    · exact ⟨U_lb v, Nat.le_trans (lb_len_le hv) (by decide)⟩
    · split
      · exact ⟨U_nil, by simp⟩
      · exact ⟨U_lb _, Nat.le_trans (lb_len_le (hf (by omega) (by omega)).1) (by decide)⟩
/-- The power's data, or the error. -/
def powq (neg odd : Bool) (x y m : Nat) : Bool × List Int × List Int × Int :=
  if (powr x m).2 = 0 ∧ (powr y m).2 = 0 then ((rep (rv (neg && odd) (powr x m).1 (powr y m).1)).1, (rep (rv (neg && odd) (powr x m).1 (powr y m).1)).2.1, (rep (rv (neg && odd) (powr x m).1 (powr y m).1)).2.2, 0) else (false, [], [], 8)
theorem pow_j3 {neg odd : Bool} {x y m : Nat} (hx : x < pw 1000) (hy : y < pw 1000) (hm : m < 9223372036854775808) (fx : Fit x m) (fy : Fit y m) :
    Ev (fun k => rational_Pow.j3 k (m : Int) odd neg (lb x) (lb y)) (powq neg odd x y m) := by
  have px := natPow_f (U_lb x) (Nat.le_trans (lb_len_le hx) (by decide)) hm (by rw [valn_lb]; exact fx)
  have py := natPow_f (U_lb y) (Nat.le_trans (lb_len_le hy) (by decide)) hm (by rw [valn_lb]; exact fy)
  rw [valn_lb] at px py
  obtain ⟨ux, lx⟩ := powr_ok hx fx
  obtain ⟨uy, ly⟩ := powr_ok hy fy
  have hc : ∀ b, Ev (fun k => rational_canonical.f k b (powr x m).1 (powr y m).1) (rep (rv b (powr x m).1 (powr y m).1)) := fun b => canonical_f ux uy lx ly
  refine Ev_succ ?_
  simp only [rational_Pow.j3]
  unfold powq
  refine Ev.bind px ?_
  by_cases h1 : (powr x m).2 = 0
  · refine Ev_pos h1 (Ev.bind py ?_)
    by_cases h2 : (powr y m).2 = 0
    · rw [if_pos ⟨h1, h2⟩]
      refine Ev_pos h2 ?_
      cases neg
      · exact Ev_neg (by decide) (Ev.bind (hc false) (Ev.now _))
      · exact Ev_pos rfl (Ev.bind (hc odd) (Ev.now _))
    · rw [if_neg (fun h => h2 h.2)]
      refine Ev_neg h2 (Ev_as (Ev.now _) ?_)
      rcases powr_err y m with h | h
      · exact absurd h h2
      · rw [h]
  · rw [if_neg (fun h => h1 h.1)]
    refine Ev_neg h1 (Ev_as (Ev.now _) ?_)
    rcases powr_err x m with h | h
    · exact absurd h h1
    · rw [h]
theorem powq_big {neg odd : Bool} {x y m n : Nat} (hm : 131072 < m) (hn : 131072 < n) : powq neg odd x y m = powq neg odd x y n := by
  unfold powq
  rw [powr_big (v := x) hm hn, powr_big (v := y) hm hn]
theorem powq_one {neg : Bool} {m : Nat} : powq neg false 1 1 m = (false, [1], [1], 0) := by
  have h : powr 1 m = ([1], 0) := by
    unfold powr
    split
    · rfl
    · rw [if_pos (Nat.le_refl 1), ← one_lb]
  unfold powq
  rw [h, if_pos ⟨rfl, rfl⟩, Bool.and_false]
  have e : rep (rv false [1] [1]) = (false, [1], [1]) := by
    have := rep_rv (neg := false) (n := [1]) (d := [1]) (by decide) (by decide)
    rw [this, show valn [1] / Nat.gcd (valn [1]) (valn [1]) = 1 from by decide, ← one_lb]
  rw [e]
theorem Fit_big {v m : Nat} (h : 131072 < m) : Fit v m := fun _ h' => absurd h' (by omega)
theorem pow_j2 {neg odd : Bool} {x y : Nat} (hx : x < pw 1000) (hy : y < pw 1000) {n : Int} (h1 : -9223372036854775808 < n) (h2 : n ≤ 9223372036854775807) (fx : Fit x n.natAbs) (fy : Fit y n.natAbs) :
    Ev (fun k => rational_Pow.j2 k n odd neg (lb x) (lb y)) (powq neg odd x y n.natAbs) := by
  have hj := pow_j3 (neg := neg) (odd := odd) hx hy (m := n.natAbs) (by omega) fx fy
  refine Ev_succ ?_
  simp only [rational_Pow.j2]
  by_cases c : n < 0
  · have e : wrap64 (-n) = ((n.natAbs : Nat) : Int) := by rw [w64 (by omega) (by omega)]; omega
    refine Ev_pos c ?_
    rw [e]; exact hj
  · have e : ((n.natAbs : Nat) : Int) = n := by omega
    rw [e] at hj
    exact Ev_neg c hj
theorem pow_j0 {neg : Bool} {x y : Nat} (hx : x < pw 1000) (hy : y < pw 1000) {n : Int} (hn : I64 n) (fx : Fit x n.natAbs) (fy : Fit y n.natAbs) :
    Ev (fun k => rational_Pow.j0 k n neg (lb x) (lb y)) (powq neg ((Int.tmod n 2) != 0) x y n.natAbs) := by
  have lx := lb_len_le hx
  have ly := lb_len_le hy
  have bx := Bits_f (U_lb x) (by omega)
  have by' := Bits_f (U_lb y) (by omega)
  rw [valn_lb] at bx by'
  refine Ev_succ ?_
  simp only [rational_Pow.j0]
  by_cases c : n = -9223372036854775808
  · subst c
    have ho : ((Int.tmod (-9223372036854775808) 2) != 0) = false := by decide
    have e1 : wrap64 ((-9223372036854775808 : Int) + 1) = -9223372036854775807 := by rw [w64 (by omega) (by omega)]; rfl
    rw [ho, e1]
    have hj := pow_j2 (neg := neg) (odd := false) hx hy (n := -9223372036854775807) (by decide) (by decide) (Fit_big (by decide)) (Fit_big (by decide))
    have hbig : powq neg false x y (-9223372036854775807 : Int).natAbs = powq neg false x y (-9223372036854775808 : Int).natAbs := powq_big (by decide) (by decide)
    rw [hbig] at hj
    have hj1 : ∀ b : Bool, (b = true → x = 1 ∧ y = 1) → Ev (fun k => rational_Pow.j1 k (-9223372036854775807) false b neg (lb x) (lb y)) (powq neg false x y (-9223372036854775808 : Int).natAbs) := by
      intro b hb
      refine Ev_succ ?_
      simp only [rational_Pow.j1]
      cases b with
      | true =>
        obtain ⟨rfl, rfl⟩ := hb rfl
        rw [powq_one]
        exact Ev_pos rfl (Ev.bind (Ev.now _) (Ev.bind (Ev.now _) (Ev.now _)))
      | false => exact Ev_neg (by decide) hj
    refine Ev_pos rfl (Ev.bind bx ?_)
    by_cases h1 : x = 1
    · refine Ev_pos (by rw [h1]; rfl) (Ev.bind by' (hj1 _ ?_))
      intro h
      exact ⟨h1, sz_one.mp (Int.ofNat_inj.mp (beq_iff_eq.mp h))⟩
    · exact Ev_neg (fun h => h1 (sz_one.mp (Int.ofNat_inj.mp h))) (hj1 false (fun h => absurd h (by decide)))
  · unfold I64 at hn
    exact Ev_neg c (pow_j2 hx hy (by omega) (by omega) fx fy)
/-- The power of a fraction. -/
def qpow (q : Rat) (n : Int) : Bool × List Int × List Int × Int :=
  if n < 0 then (if q.num = 0 then (false, [], [], 7) else powq (decide (q.num < 0)) ((Int.tmod n 2) != 0) q.den q.num.natAbs n.natAbs) else powq (decide (q.num < 0)) ((Int.tmod n 2) != 0) q.num.natAbs q.den n.natAbs
theorem sgq_zero' {q : Rat} : sgq q = 0 ↔ q.num = 0 := by rw [sgq_zero, Rat.num_eq_zero]
theorem Pow_f {neg : Bool} {a d : List Int} (un : U a) (ud : U d) (ln : a.length ≤ 1000) (ld : d.length ≤ 1000) {n : Int} (hn : I64 n) (fx : Fit (rv neg a d).num.natAbs n.natAbs) (fy : Fit (rv neg a d).den n.natAbs) :
    Ev (fun k => rational_Pow.f k neg a d n) (qpow (rv neg a d) n) := by
  have hs : Sz 1000 (rv neg a d) := Sz_rv un ud ln ld (by omega)
  have ht := Trim02_f (neg := neg) un ud (by omega) (by omega)
  have hrl := rep_len hs
  have hsg := Sign_f (neg := (rep (rv neg a d)).1) (n := (rep (rv neg a d)).2.1) (d := (rep (rv neg a d)).2.2) (U_lb _) (U_lb _) (by omega) (by omega)
  rw [rv_rep] at hsg
  generalize rv neg a d = q at *
  refine Ev.bind ht ?_
  unfold qpow
  by_cases c : n < 0
  · rw [if_pos c]
    refine Ev_pos c (Ev.bind hsg ?_)
    by_cases h0 : q.num = 0
    · rw [if_pos h0]; exact Ev_pos (sgq_zero'.mpr h0) (Ev.now _)
    · rw [if_neg h0]; exact Ev_neg (fun h => h0 (sgq_zero'.mp h)) (pow_j0 hs.2 hs.1 hn fy fx)
  · rw [if_neg c]; exact Ev_neg c (pow_j0 hs.1 hs.2 hn fx fy)
end Go.Proofs.Ytecfdemglbfnoaa.Num
end
section
namespace Go.Proofs.Ytecfdemglbfnoaa.Num
open Go.RowKit Go.Proofs.Ytecfdemglbfnoaa.PT Go.Proofs.YtecfdemglbfnoaaW.PrintWords Go.Proofs.YtecfdemglbfnoaaW.PrintLast Go.Proofs.YtecfdemglbfnoaaW.PrintMore
theorem sg_pow (neg : Bool) (x m : Nat) : sg neg x ^ m = sg (neg && (m % 2 != 0)) (x ^ m) := by
  induction m with
  | zero => rw [Int.pow_zero, Nat.pow_zero]; cases neg <;> rfl
  | succ m ih =>
    have e : (neg && ((m + 1) % 2 != 0)) = ((neg && (m % 2 != 0)) != neg) := by
      cases neg
      · rfl
      · rcases Nat.mod_two_eq_zero_or_one m with h | h
        · rw [h, show (m + 1) % 2 = 1 from by omega]; rfl
        · rw [h, show (m + 1) % 2 = 0 from by omega]; rfl
    rw [Int.pow_succ, ih, e, Nat.pow_succ, sg_mul]
theorem odd_abs (n : Int) : (Int.tmod n 2 != 0) = (n.natAbs % 2 != 0) := by
  rcases Int.natAbs_eq n with h | h
  · rw [h, Int.natAbs_natCast]
    show (((n.natAbs % 2 : Nat) : Int) != 0) = _
    rcases Nat.mod_two_eq_zero_or_one n.natAbs with e | e <;> rw [e] <;> rfl
  · rw [h, Int.natAbs_neg, Int.natAbs_natCast, Int.neg_tmod]
    show (-((n.natAbs % 2 : Nat) : Int) != 0) = _
    rcases Nat.mod_two_eq_zero_or_one n.natAbs with e | e <;> rw [e] <;> rfl
theorem powr_val {v m : Nat} (hv : v ≠ 0) (hm : m ≤ 131072) : powr v m = (lb (v ^ m), 0) := by
  unfold powr
  split
  · next h => subst h; rw [Nat.pow_zero, one_lb]
  · split
    · next h => rw [show v = 1 from by omega, Nat.one_pow]
    · rw [if_neg (by omega)]
theorem rv_pow {q : Rat} (m : Nat) : rv (decide (q.num < 0) && (m % 2 != 0)) (lb (q.num.natAbs ^ m)) (lb (q.den ^ m)) = q ^ m := by
  rw [rv, valn_lb, valn_lb, ← sg_pow, sg_self, ← Rat.num_pow, ← Rat.den_pow]; exact Rat.mkRat_self _
theorem qpow_val {q : Rat} (hq : q ≠ 0) {n : Int} (hn : n.natAbs ≤ 131072) : qpow q n = ((rep (q ^ n)).1, (rep (q ^ n)).2.1, (rep (q ^ n)).2.2, 0) := by
  have h0 : q.num ≠ 0 := fun e => hq (Rat.num_eq_zero.mp e)
  have h1 : q.num.natAbs ≠ 0 := fun e => h0 (Int.natAbs_eq_zero.mp e)
  unfold qpow
  by_cases c : n < 0
  · have e : q ^ n = (q ^ n.natAbs)⁻¹ := by
      have : n = -((n.natAbs : Nat) : Int) := by omega
      rw [← Rat.zpow_natCast, ← Rat.zpow_neg, ← this]
    rw [if_pos c, if_neg h0]
    unfold powq
    rw [powr_val q.den_nz hn, powr_val h1 hn, if_pos ⟨rfl, rfl⟩, odd_abs, inv_rv, rv_pow, e]
  · have e : q ^ n = q ^ n.natAbs := by
      have : n = ((n.natAbs : Nat) : Int) := by omega
      rw [← Rat.zpow_natCast, ← this]
    rw [if_neg c]
    unfold powq
    rw [powr_val q.den_nz hn, powr_val h1 hn, if_pos ⟨rfl, rfl⟩, odd_abs, rv_pow, e]
theorem pw_one_pow (m : Nat) : pw 1 ^ m = pw m := by rw [pw_eq, pw_eq, Nat.pow_one]
theorem fit_limb {v m : Nat} (hv : v < pw 1) (hm : m ≤ 256) : Fit v m := by
  intro h2 _
  have hz : sz v ≤ 32 := by have := sz_le_pw hv; omega
  refine ⟨?_, Nat.le_trans (Nat.mul_le_mul hz hm) (by decide)⟩
  by_cases h0 : m = 0
  · subst h0; rw [Nat.pow_zero, ← pw_zero]; rw [show pw 1000 = pw 999 * 4294967296 from pw_succ 999]; have := pw_pos 999; rw [pw_zero]; omega
  · refine Nat.lt_of_lt_of_le (Nat.pow_lt_pow_left hv h0) ?_
    rw [pw_one_pow]; exact pw_mono (by omega)
theorem Sz_npow {q : Rat} (h : Sz 1 q) {m : Nat} (hm : m ≤ 256) : Sz 256 (q ^ m) := by
  have aux : ∀ v : Nat, v < pw 1 → v ^ m < pw 256 := by
    intro v hv
    by_cases h0 : m = 0
    · subst h0; rw [Nat.pow_zero]; rw [show pw 256 = pw 255 * 4294967296 from pw_succ 255]; have := pw_pos 255; omega
    · refine Nat.lt_of_lt_of_le (Nat.pow_lt_pow_left hv h0) ?_
      rw [pw_one_pow]; exact pw_mono hm
  exact ⟨by rw [Rat.num_pow, Int.natAbs_pow]; exact aux _ h.1, by rw [Rat.den_pow]; exact aux _ h.2⟩
theorem Sz_zpow {q : Rat} (h : Sz 1 q) {n : Int} (hn : n.natAbs ≤ 256) : Sz 256 (q ^ n) := by
  by_cases c : n < 0
  · have e : q ^ n = (q ^ n.natAbs)⁻¹ := by
      have : n = -((n.natAbs : Nat) : Int) := by omega
      rw [← Rat.zpow_natCast, ← Rat.zpow_neg, ← this]
    rw [e]; exact Sz_inv (Sz_npow h hn) (by omega)
  · have e : q ^ n = q ^ n.natAbs := by
      have : n = ((n.natAbs : Nat) : Int) := by omega
      rw [← Rat.zpow_natCast, ← this]
    rw [e]; exact Sz_npow h hn
theorem exponents_f {neg : Bool} {a d : List Int} (ua : U a) (ud : U d) (la : a.length < 2305843009213693952) (ld : d.length < 2305843009213693952) {m n : Int} (hm : -128 ≤ m ∧ m ≤ 127) (hn : -128 ≤ n ∧ n ≤ 127) :
    Ev (fun k => codewrightlaw02_RationalExponents.f k neg a d m n) true := by
  have hg := long02_f 2 [(⟨neg, a, d⟩ : S67)] (by simp) (by intro x hx; simp only [List.mem_singleton] at hx; subst hx; exact ⟨la, ld⟩)
  simp only [List.any_cons, List.any_nil, Bool.or_false] at hg
  refine Ev.bind hg ?_
  by_cases c : 2 < a.length + d.length
  · exact Ev_pos (decide_eq_true c) (Ev.now _)
  · refine Ev_neg (by rw [decide_eq_false c]; decide) ?_
    have hsg := Sign_f (neg := neg) ua ud (by omega) (by omega)
    by_cases h0 : rv neg a d = 0
    · rw [h0, sgq_zero.mpr rfl] at hsg
      have h23 := Sign_f (neg := false) (n := [2]) (d := [3]) (U_cons (by decide) U_nil) (U_cons (by decide) U_nil) (by decide) (by decide)
      have e : sgq (rv false [2] [3]) = 1 := by
        have hne : rv false [2] [3] ≠ 0 := rv_ne (by decide) (by decide)
        rw [sgq_rep hne, rep_rv (by decide) (by decide)]; rfl
      rw [e] at h23
      exact Ev.bind hsg (Ev_pos rfl (Ev.bind h23 (Ev.now _)))
    · have hva : valn a ≠ 0 := fun e => h0 (rv_zero_num neg e)
      have hvd : valn d ≠ 0 := fun e => h0 (rv_zero_den neg e)
      have l1 : a.length ≠ 0 := fun e => hva (by rw [List.length_eq_zero_iff.mp e]; rfl)
      have l2 : d.length ≠ 0 := fun e => hvd (by rw [List.length_eq_zero_iff.mp e]; rfl)
      have hs : Sz 1 (rv neg a d) := Sz_rv ua ud (by omega) (by omega) (by omega)
      have P : ∀ x : Int, -256 ≤ x → x ≤ 256 → Ev (fun k => rational_Pow.f k neg a d x) ((rep (rv neg a d ^ x)).1, (rep (rv neg a d ^ x)).2.1, (rep (rv neg a d ^ x)).2.2, 0) := by
        intro x h1 h2
        rw [← qpow_val h0 (by omega)]
        exact Pow_f ua ud (by omega) (by omega) ⟨by omega, by omega⟩ (fit_limb hs.1 (by omega)) (fit_limb hs.2 (by omega))
      have p1 := P (m + n) (by omega) (by omega)
      have p2 := P m (by omega) (by omega)
      have p3 := P n (by omega) (by omega)
      have s2 := Sz_zpow hs (n := m) (by omega)
      have s3 := Sz_zpow hs (n := n) (by omega)
      have s1 := Sz_zpow hs (n := m + n) (by omega)
      have hmul := Mul02_two (x := ⟨(rep (rv neg a d ^ m)).1, (rep (rv neg a d ^ m)).2.1, (rep (rv neg a d ^ m)).2.2⟩) (y := ⟨(rep (rv neg a d ^ n)).1, (rep (rv neg a d ^ n)).2.1, (rep (rv neg a d ^ n)).2.2⟩) (ok_rep s2) (ok_rep s3) (by omega) (by omega)
      rw [v67_rep, v67_rep, ← Rat.zpow_add h0] at hmul
      have hsame := same_self s1 (by omega)
      have hne : sgq (rv neg a d) ≠ 0 := fun e => h0 (sgq_zero.mp e)
      have e1 : wrap64 m = m := w64 (by omega) (by omega)
      have e2 : wrap64 n = n := w64 (by omega) (by omega)
      have e3 : wrap64 (m + n) = m + n := w64 (by omega) (by omega)
      refine Ev.bind hsg (Ev_neg hne ?_)
      rw [e1, e2, e3]
      exact Ev.bind p1 (Ev.bind p2 (Ev.bind p3 (Ev_pos rfl (Ev_pos rfl (Ev_pos rfl (Ev.bind hmul (Ev.bind hsame (Ev.now _))))))))
end Go.Proofs.Ytecfdemglbfnoaa.Num
namespace Go.Proofs.Ytecfdemglbfnoaa.Pure
open Go.RowKit Go.Proofs.Ytecfdemglbfnoaa.PT Go.Proofs.Ytecfdemglbfnoaa.Num
theorem u32_U {l : List Int} (h : ∀ x ∈ l, IntKind.u32.min ≤ x ∧ x ≤ IntKind.u32.max) : U l := by
  intro x hx
  have h1 := h x hx
  have e1 : IntKind.u32.min = 0 := rfl
  have e2 : IntKind.u32.max = 4294967295 := rfl
  omega
theorem i8_I {x : Int} (h : (Lit.int .i8 x).wf = true) : -128 ≤ x ∧ x ≤ 127 := by
  simp [Lit.wf, IntKind.min, IntKind.max, IntKind.signed, IntKind.bits] at h
  omega
theorem RationalExponents (b : Bool) (l0 l1 : List Int) (h : True ∧ (l0.length * 4 ≤ reachBytes ∧ ∀ x ∈ l0, IntKind.u32.min ≤ x ∧ x ≤ IntKind.u32.max) ∧ (l1.length * 4 ≤ reachBytes ∧ ∀ x ∈ l1, IntKind.u32.min ≤ x ∧ x ≤ IntKind.u32.max)) (m : Int) (wm : (Lit.int .i8 m).wf = true) (n : Int) (wn : (Lit.int .i8 n).wf = true) : ∃ k, codewrightlaw02_RationalExponents.f k b l0 l1 m n = some true := by
  have hR : reachBytes = 140737488351232 := rfl
  obtain ⟨_, h0, h1⟩ := h
  exact (exponents_f (u32_U h0.2) (u32_U h1.2) (by have := h0.1; omega) (by have := h1.1; omega) (i8_I wm) (i8_I wn)).rounds
end Go.Proofs.Ytecfdemglbfnoaa.Pure
end
