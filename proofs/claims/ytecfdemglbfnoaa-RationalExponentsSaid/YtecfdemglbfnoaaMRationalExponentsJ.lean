/- Walks and plain facts for the law RationalExponents, several texts in one: each theorem says what it shows; no condition beyond those that it names. -/
import Derived.Test.YtecfdemglbfnoaaMRationalExponentsI
section
namespace Go.Proofs.Ytecfdemglbfnoaa.PT
open Go.RowKit Go.Proofs.YtecfdemglbfnoaaW.PrintWords Go.Proofs.YtecfdemglbfnoaaW.PrintLast Go.Proofs.YtecfdemglbfnoaaW.PrintMore
attribute [local go_sem] max2_int min2_int max_two min_two max_three min_three max_four min_four   -- for this text's walks alone
set_option linter.unusedVariables false
set_option linter.unusedSimpArgs false
def rational_Mul.l0 : Nat → Bool → List Int → List Int → List (S67) → Int → Int → Option (Bool × List Int × List Int)
 | 0, _, _, _, _, _, _ => none
 | k + 1, x3, x4, x5, x11, x12, x13 => if x13 < x12 then (if 0 ≤ x13 then (if x13 < (x11.length : Int) then ((rational_Trim.f k ((rd_T67 x11 x13).f0) ((rd_T67 x11 x13).f1) ((rd_T67 x11 x13).f2)).bind fun bt1360 => ((nat_Mul.f k (([x4, bt1360.2.1] : List (List Int)))).bind fun t1370 => ((nat_Mul.f k (([x5, bt1360.2.2] : List (List Int)))).bind fun t1376 => ((rational_canonical.f k (x3 != bt1360.1) t1370 t1376).bind fun bt1379 => (rational_Mul.l0 k bt1379.1 bt1379.2.1 bt1379.2.2 x11 x12 (wrap64 (x13 + 1))))))) else (none)) else (none)) else (some (x3, x4, x5))
def rational_Mul.f (k : Nat) (l0 : List (S67)) : Option (Bool × List Int × List Int) := (rational_one.f).bind fun t1352 => ((rational_one.f).bind fun t1355 => (rational_Mul.l0 k false t1352 t1355 l0 (l0.length : Int) 0))
def rational_Mul.T6 : Bool × List (List Nat × List Nat) := (true, [([], []), ([], []), ([1], [1]), ([0, 2], [0, 2]), ([], []), ([], []), ([5], [5]), ([4, 6], [4, 6]), ([7], [7]), ([], []), ([], []), ([10], [10]), ([9, 11], [9, 11]), ([12, 8], [12]), ([3, 8, 13, 13], [3, 8, 13]), ([], []), ([15, 14, 14, 0, 1, 2, 3, 4, 5, 6, 7, 8, 9, 10, 11, 12, 13, 14, 15], [14, 15])])
def rational_Mul.B6 : List Nat := [0, 0, 2, 7, 0, 0, 32, 112, 240, 0, 0, 1024, 3584, 8176, 16383, 0, 65535]
theorem rational_Mul.tab6 : rtab .any (opsOf Try.f95 6) = rational_Mul.T6 := by kernel_rfl
theorem rational_Mul.bits6 : waitsOk rational_Mul.T6.2 rational_Mul.B6 = true := by kernel_rfl
def rational_Mul.T7 : Bool × List (List Nat × List Nat) := (true, [([], []), ([0], [0]), ([], []), ([2], [2]), ([], []), ([4], [4]), ([1, 0, 1], [1]), ([3, 6, 0, 1, 2, 3, 6], [3]), ([5, 7, 0, 1, 2, 3, 4, 5, 6, 7], [5])])
def rational_Mul.B7 : List Nat := [0, 1, 0, 4, 0, 16, 3, 79, 255]
theorem rational_Mul.tab7 : rtab .any (opsOf Try.f95 7) = rational_Mul.T7 := by kernel_rfl
theorem rational_Mul.bits7 : waitsOk rational_Mul.T7.2 rational_Mul.B7 = true := by kernel_rfl
set_option maxHeartbeats 8000000 in
set_option maxRecDepth 100000 in
theorem rational_Mul.calls (k : Nat) (P0_ : Nat → Prop) (A0 : Option Addr) (c0 : Nat) (l0 : List (S67)) (r1 : Bool) (r2 : List Int) (r3 : List Int) (w : World) (hs0 : Kd.V k67 67 w w.heap.size (fun k_ => P0_ k_) (.slice A0 l0.length c0) l0) (h : rational_Mul.f k l0 = some (r1, r2, r3)) :
 Calls Try.prog 95 #[.slice A0 l0.length c0] w fun e w' => ∃ v1_ v2_ : Value, e = .returned (.agg #[.bool r1, v1_, v2_]) ∧ Kd.V (Kd.int .u32) 48 w' w.heap.size (fun k_ => (P0_ k_ ∨ w.heap.size ≤ k_)) v1_ r2 ∧ Kd.V (Kd.int .u32) 48 w' w.heap.size (fun k_ => (P0_ k_ ∨ w.heap.size ≤ k_)) v2_ r3 ∧ Below w.heap.size w w' := by
 have hu67 := Try.underlying67
 have HO0 := Aside0.mk (show Kd.V k67 67 w w.heap.size (fun k_ => (P0_ k_ ∨ w.heap.size ≤ k_)) (.slice A0 l0.length c0) l0 from Kd.V_mono hs0 (fun k_ hk => .inl hk))
 have HB := Aside0.mk (Below.refl w.heap.size w)
 have H : ((rational_one.f).bind fun t1352 => ((rational_one.f).bind fun t1355 => (rational_Mul.l0 k false t1352 t1355 l0 (l0.length : Int) 0))) = some (r1, r2, r3) := h
 clear h
 replace H := Option.bind_eq_some_iff.mp H
 obtain ⟨t1352, A20, H⟩ := H
 replace H : ((rational_one.f).bind fun t1355 => (rational_Mul.l0 k false t1352 t1355 l0 (l0.length : Int) 0)) = some (r1, r2, r3) := H
 have A2 := Aside0.mk A20
 clear A20
 replace H := Option.bind_eq_some_iff.mp H
 obtain ⟨t1355, A30, H⟩ := H
 replace H : (rational_Mul.l0 k false t1352 t1355 l0 (l0.length : Int) 0) = some (r1, r2, r3) := H
 have A3 := Aside0.mk A30
 clear A30
 have H' := Aside0.mk H
 clear H
 go_enter Try.func95, Try.ntmps95
 go_wp2_with (first | ((with_reducible refine gate_dst (N := 2) rfl ?_); refine box_event ?hg (N := 2) ?hd (cs := #[.bool false, .slice none 0 0, .slice none 0 0]) (t := 67) ?hr ?_; (case hd => rfl); (case hg => rfl); (case hr => first | (go_simp; done) | (go_simp; rfl)); intro gb1351 hg w4 hbox hb; replace HO0 := ke HO0 hg hb; have BK1351 := Aside0.mk (hbox); have GW1351 := ng hg (bu HB.out); have GE1351 := ng hg (bu HB.out); replace HB := Aside0.mk (below_step (bu HB.out) hb); clear hb hbox hg) | ((with_reducible refine gate_callee (f := 161) rfl ?_); refine goesL_ (some 9) rfl rfl Try.func161 (by kernel_rfl) rfl #[] rfl lu ?_; (with_reducible refine (rational_one.calls  t1352 _ A2.out).mono ?_); rintro e w5 ⟨v1353, rfl, ho0, hb⟩; refine ⟨_, rfl, ?_⟩; replace ho0 := R_V_base rfl ho0; replace HO0 := kv HO0 hb; have HO1354 := ar0 w.heap.size (ok' := fun k_ => (P0_ k_ ∨ w.heap.size ≤ k_) ∧ k_ ≠ gb1351) ho0 (fa (f0 (below_size (bu1 HB.out GE1351.out))) (fb BK1351)); replace BK1351 := kb BK1351 hb; replace HB := Aside0.mk (below_step (bu1 HB.out GE1351.out) hb); (try clear hb); (try clear hb2); (try clear hk); (try clear hi); (try clear ho0)) | ((with_reducible refine gate_callee (f := 161) rfl ?_); refine goesL_ (some 10) rfl rfl Try.func161 (by kernel_rfl) rfl #[] rfl lu ?_; (with_reducible refine (rational_one.calls  t1355 _ A3.out).mono ?_); rintro e w6 ⟨v1356, rfl, ho0, hb⟩; refine ⟨_, rfl, ?_⟩; replace ho0 := R_V_base rfl ho0; replace HO0 := kv HO0 hb; replace HO1354 := kv HO1354 hb; have HO1357 := ar0 w.heap.size (ok' := fun k_ => (P0_ k_ ∨ w.heap.size ≤ k_) ∧ k_ ≠ gb1351) ho0 (fa (f0 (below_size (bu1 HB.out GE1351.out))) (fb BK1351)); replace BK1351 := kb BK1351 hb; replace HB := Aside0.mk (below_step (bu1 HB.out GE1351.out) hb); (try clear hb); (try clear hb2); (try clear hk); (try clear hi); (try clear ho0)))
 go_loopg [3, 4, 5, 13] k (fun kq v3 v4 v5 v13 w' => ∃ (x3_1 : Bool) (x4_1 : List Int) (x5_1 : List Int) (x13_1 : Int), v3 = .bool x3_1 ∧ v13 = .int .i64 x13_1 ∧ Aside0 (rational_Mul.l0 kq x3_1 x4_1 x5_1 l0 (l0.length : Int) x13_1 = some (r1, r2, r3)) ∧ Aside0 (kq ≤ k) ∧ Aside0 (Kd.V (Kd.int .u32) 48 w' w.heap.size (fun k_ => (P0_ k_ ∨ w.heap.size ≤ k_) ∧ k_ ≠ gb1351) v4 x4_1) ∧ Aside0 (Kd.V (Kd.int .u32) 48 w' w.heap.size (fun k_ => (P0_ k_ ∨ w.heap.size ≤ k_) ∧ k_ ≠ gb1351) v5 x5_1) ∧ Aside0 (Kd.V k67 67 w' w.heap.size (fun k_ => (P0_ k_ ∨ w.heap.size ≤ k_) ∧ k_ ≠ gb1351) (.slice A0 l0.length c0) l0) ∧ Aside0 (w'.heap[gb1351]? = some (.cells #[.bool false, (.slice none 0 0), (.slice none 0 0)] 67 (0, 0))) ∧ Aside0 (Below w.heap.size w w'))
 case atStart => exact ⟨(false), (t1352), (t1355), (0), (by first | rfl | (simp; done) | (simp [*]; done)), (by first | rfl | (simp; done) | (simp [*]; done)), H', ⟨Nat.le_refl _⟩, ⟨by (with_reducible repeat (first | apply Kd.V_alloc | apply Kd.V_drewN | apply Kd.V_drew)); exact HO1354.out⟩, ⟨by (with_reducible repeat (first | apply Kd.V_alloc | apply Kd.V_drewN | apply Kd.V_drew)); exact HO1357.out⟩, ⟨by (with_reducible repeat (first | apply Kd.V_alloc | apply Kd.V_drewN | apply Kd.V_drew)); exact HO0.out⟩, ⟨by (with_reducible repeat (first | refine blk_drewN ?_ _ | refine blk_drew ?_ | refine blk_alloc ?_ _)); exact BK1351.out⟩, ⟨by repeat (first | (with_reducible first | exact HB.out | apply below_alloc | apply pw_below_drewN | apply below_drew1 | refine below_set ?_ GE1351.out) | exact HB.out)⟩⟩
 case round =>
  clear H'
  try clear c1
  try clear p2
  obtain ⟨x3_1, x4_1, x5_1, x13_1, rfl, rfl, HA, HK1, HO_4, HO_5, HO_11, BK1351, HB⟩ := hrel
  cases gk with
  | zero => exact absurd HA.out (by simp [rational_Mul.l0])
  | succ k1 =>
   have H := HA.out
   clear HA
   simp only [rational_Mul.l0] at H
   by_cases c7 : x13_1 < (l0.length : Int)
   ·
    rw [if_pos c7] at H
    have c7b0 : decide (x13_1 < (l0.length : Int)) = true := decide_eq_true c7
    clear c7
    by_cases c8 : 0 ≤ x13_1
    ·
     rw [if_pos c8] at H
     have c8b0 : decide (0 ≤ x13_1) = true := decide_eq_true c8
     clear c8
     by_cases c9 : x13_1 < (l0.length : Int)
     ·
      rw [if_pos c9] at H
      have c9b0 : decide (x13_1 < (l0.length : Int)) = true := decide_eq_true c9
      clear c9
      replace H := Option.bind_eq_some_iff.mp H
      obtain ⟨⟨t1360, t1361, t1364⟩, A100, H⟩ := H
      replace H : ((nat_Mul.f k1 (([x4_1, t1361] : List (List Int)))).bind fun t1370 => ((nat_Mul.f k1 (([x5_1, t1364] : List (List Int)))).bind fun t1376 => ((rational_canonical.f k1 (x3_1 != t1360) t1370 t1376).bind fun bt1379 => (rational_Mul.l0 k1 bt1379.1 bt1379.2.1 bt1379.2.2 l0 (l0.length : Int) (wrap64 (x13_1 + 1)))))) = some (r1, r2, r3) := H
      have A10 := Aside0.mk A100
      clear A100
      obtain ⟨y1367, hy1367⟩ : ∃ y_ : List (List Int), y_ = (([x4_1, t1361] : List (List Int))) := ⟨_, rfl⟩
      replace H : ((nat_Mul.f k1 y1367).bind fun t1370 => ((nat_Mul.f k1 (([x5_1, t1364] : List (List Int)))).bind fun t1376 => ((rational_canonical.f k1 (x3_1 != t1360) t1370 t1376).bind fun bt1379 => (rational_Mul.l0 k1 bt1379.1 bt1379.2.1 bt1379.2.2 l0 (l0.length : Int) (wrap64 (x13_1 + 1)))))) = some (r1, r2, r3) := by first | (rw [hy1367]; with_reducible exact H) | (have H2_ := (Option.bind_some _ _).symm.trans H; rw [hy1367]; with_reducible exact H2_) | (have H2_ := (Option.bind_some _ _).symm.trans H; with_reducible exact H2_) | with_reducible exact H | (rw [hy1367]; exact H) | exact H
      have Ny1367 := Aside0.mk hy1367
      clear hy1367
      replace H := Option.bind_eq_some_iff.mp H
      obtain ⟨t1370, A110, H⟩ := H
      replace H : ((nat_Mul.f k1 (([x5_1, t1364] : List (List Int)))).bind fun t1376 => ((rational_canonical.f k1 (x3_1 != t1360) t1370 t1376).bind fun bt1379 => (rational_Mul.l0 k1 bt1379.1 bt1379.2.1 bt1379.2.2 l0 (l0.length : Int) (wrap64 (x13_1 + 1))))) = some (r1, r2, r3) := H
      have A11 := Aside0.mk A110
      clear A110
      obtain ⟨y1373, hy1373⟩ : ∃ y_ : List (List Int), y_ = (([x5_1, t1364] : List (List Int))) := ⟨_, rfl⟩
      replace H : ((nat_Mul.f k1 y1373).bind fun t1376 => ((rational_canonical.f k1 (x3_1 != t1360) t1370 t1376).bind fun bt1379 => (rational_Mul.l0 k1 bt1379.1 bt1379.2.1 bt1379.2.2 l0 (l0.length : Int) (wrap64 (x13_1 + 1))))) = some (r1, r2, r3) := by first | (rw [hy1373]; with_reducible exact H) | (have H2_ := (Option.bind_some _ _).symm.trans H; rw [hy1373]; with_reducible exact H2_) | (have H2_ := (Option.bind_some _ _).symm.trans H; with_reducible exact H2_) | with_reducible exact H | (rw [hy1373]; exact H) | exact H
      have Ny1373 := Aside0.mk hy1373
      clear hy1373
      replace H := Option.bind_eq_some_iff.mp H
      obtain ⟨t1376, A120, H⟩ := H
      replace H : ((rational_canonical.f k1 (x3_1 != t1360) t1370 t1376).bind fun bt1379 => (rational_Mul.l0 k1 bt1379.1 bt1379.2.1 bt1379.2.2 l0 (l0.length : Int) (wrap64 (x13_1 + 1)))) = some (r1, r2, r3) := H
      have A12 := Aside0.mk A120
      clear A120
      replace H := Option.bind_eq_some_iff.mp H
      obtain ⟨⟨t1379, t1380, t1383⟩, A130, H⟩ := H
      replace H : (rational_Mul.l0 k1 t1379 t1380 t1383 l0 (l0.length : Int) (wrap64 (x13_1 + 1))) = some (r1, r2, r3) := H
      have A13 := Aside0.mk A130
      clear A130
      have H' := Aside0.mk H
      clear H
      have p1358 : 0 ≤ (x13_1 : Int) := of_decide_eq_true (by first | (with_reducible assumption) | assumption)
      have q1358 : x13_1 < (l0.length : Int) := of_decide_eq_true (by first | (with_reducible assumption) | assumption)
      obtain ⟨ad1358, A1358_1, c1358_1, A1358_2, c1358_2, e1358, hx1358_0, hx1358_1, hx1358_2, hl1358_1, hi1358_1, hl1358_2, hi1358_2⟩ := at_T67 (Kd.V_reads' HO_11.out).2.2 x13_1 p1358 q1358
      cases e1358
      obtain ⟨ce1358, hce1358, hMe1358, hcc1358⟩ := Kd.V_get HO_11.out z67 x13_1 p1358 (by first | exact q1358 | exact of_decide_eq_true (by first | (with_reducible assumption) | assumption) | (have e_ := (Kd.V_reads' HO_11.out).1; omega))
      obtain ⟨ua1358_1, uc1358_1, ua1358_2, uc1358_2, rfl, ul1358_1, ge1358_1, ul1358_2, ge1358_2⟩ := k67_openF hMe1358
      have hv1358_1 := hcc1358 1 _ rfl
      rw [add_field _ _ 1 (by omega)] at hv1358_1
      replace hv1358_1 := Option.some.inj (hv1358_1.symm.trans hx1358_1)
      injection hv1358_1 with hva_ hvn_ hvc_
      rw [hva_] at ge1358_1
      rw [hvc_] at ul1358_1
      have HL1358_1 := Aside0.mk (show Kd.V (Kd.int .u32) 48 _ w.heap.size _ _ ((rd_T67 l0 x13_1).f1) from Kd.V_mk ul1358_1 ge1358_1)
      clear hva_ hvn_ hvc_ ge1358_1 ul1358_1
      have hv1358_2 := hcc1358 2 _ rfl
      rw [add_field _ _ 2 (by omega)] at hv1358_2
      replace hv1358_2 := Option.some.inj (hv1358_2.symm.trans hx1358_2)
      injection hv1358_2 with hva_ hvn_ hvc_
      rw [hva_] at ge1358_2
      rw [hvc_] at ul1358_2
      have HL1358_2 := Aside0.mk (show Kd.V (Kd.int .u32) 48 _ w.heap.size _ _ ((rd_T67 l0 x13_1).f2) from Kd.V_mk ul1358_2 ge1358_2)
      clear hva_ hvn_ hvc_ ge1358_2 ul1358_2
      clear hcc1358 hce1358
      have HR1358_1 := Aside0.mk hi1358_1
      have HC1358_1 := Aside0.mk hl1358_1
      clear hi1358_1 hl1358_1
      have HR1358_2 := Aside0.mk hi1358_2
      have HC1358_2 := Aside0.mk hl1358_2
      clear hi1358_2 hl1358_2
      replace p1358 := eq_true p1358
      replace q1358 := eq_true q1358
      try go_wp2_with (first | ((with_reducible refine gate_dst (N := 7) rfl ?_); refine box_event ?hg (N := 7) ?hd (cs := #[.bool false, .slice none 0 0, .slice none 0 0]) (t := 67) ?hr ?_; (case hd => rfl); (case hg => rfl); (case hr => first | (go_simp; done) | (go_simp; rfl)); intro gb1359 hg w14 hbox hb; replace HO_4 := ke HO_4 hg hb; replace HO_5 := ke HO_5 hg hb; replace HO_11 := ke HO_11 hg hb; replace HL1358_1 := ke HL1358_1 hg hb; replace HL1358_2 := ke HL1358_2 hg hb; have BK1359 := Aside0.mk (hbox); have GW1359 := ng hg (bu1 HB.out GE1351.out); have GE1359 := ng hg (bu1 HB.out GE1351.out); replace HB := Aside0.mk (below_step (bu1 HB.out GE1351.out) hb); have NB1351_1359 := nl hg BK1351; have NB1359_1351 := nr hg BK1351; replace BK1351 := kb BK1351 hb; clear hb hbox hg; have hnb15 := NB1359_1351.out; have hnc15 := NB1351_1359.out; have hcz16_0 : w14.cell? ⟨gb1359, 0, none⟩ = some (.bool false) := bc BK1359 0; have hcz16_1 : w14.cell? ⟨gb1359, 1, none⟩ = some (.slice none 0 0) := bc BK1359 1; have hcz16_2 : w14.cell? ⟨gb1359, 2, none⟩ = some (.slice none 0 0) := bc BK1359 2; have hfz16_0 := blk_frozen BK1359.out 0; have hfz16_1 := blk_frozen BK1359.out 1; have hfz16_2 := blk_frozen BK1359.out 2) | ((with_reducible refine gate_store (t := 67) (p := 7) rfl ?_); refine store_event (t := 67) (p := 7) (v := ?vo_w17) (w1 := (((w14.setCell ⟨gb1359, 0, none⟩ (.bool ((rd_T67 l0 x13_1).f0))).setCell ⟨gb1359, 1, none⟩ (.slice A1358_1 ((rd_T67 l0 x13_1).f1).length c1358_1)).setCell ⟨gb1359, 2, none⟩ (.slice A1358_2 ((rd_T67 l0 x13_1).f2).length c1358_2))) ?hg ?ho ?hn ?hr ?_; (case ho => rfl); (case hg => rfl); (case hn => rfl); (case hr => first | (go_simp; done) | (go_simp; rfl)); intro w17 hw; have n0_ : Aside0 (Kd.V (Kd.int .u32) 48 w17 w.heap.size (fun k_ => (P0_ k_ ∨ w.heap.size ≤ k_) ∧ k_ ≠ gb1351 ∧ k_ ≠ gb1359) u4 x4_1) := ⟨(by rw [hw]; exact (by (with_reducible repeat (first | apply Kd.V_alloc | apply Kd.V_drewN | apply Kd.V_drew)); exact Kd.V_mono (Kd.V_far (p := ⟨gb1359, 2, none⟩) (Kd.V_far (p := ⟨gb1359, 1, none⟩) (Kd.V_far (p := ⟨gb1359, 0, none⟩) (Kd.V_mono HO_4.out (fun k_ hk => (⟨hk, hk.2⟩ : _ ∧ k_ ≠ gb1359))) (fun _ hk => hk.2) (.bool ((rd_T67 l0 x13_1).f0))) (fun _ hk => hk.2) (.slice A1358_1 ((rd_T67 l0 x13_1).f1).length c1358_1)) (fun _ hk => hk.2) (.slice A1358_2 ((rd_T67 l0 x13_1).f2).length c1358_2)) (fun _ hk => ⟨hk.1.1.1, ⟨hk.1.1.2, hk.1.2⟩⟩)))⟩; have n1_ : Aside0 (Kd.V (Kd.int .u32) 48 w17 w.heap.size (fun k_ => (P0_ k_ ∨ w.heap.size ≤ k_) ∧ k_ ≠ gb1351 ∧ k_ ≠ gb1359) u5 x5_1) := ⟨(by rw [hw]; exact (by (with_reducible repeat (first | apply Kd.V_alloc | apply Kd.V_drewN | apply Kd.V_drew)); exact Kd.V_mono (Kd.V_far (p := ⟨gb1359, 2, none⟩) (Kd.V_far (p := ⟨gb1359, 1, none⟩) (Kd.V_far (p := ⟨gb1359, 0, none⟩) (Kd.V_mono HO_5.out (fun k_ hk => (⟨hk, hk.2⟩ : _ ∧ k_ ≠ gb1359))) (fun _ hk => hk.2) (.bool ((rd_T67 l0 x13_1).f0))) (fun _ hk => hk.2) (.slice A1358_1 ((rd_T67 l0 x13_1).f1).length c1358_1)) (fun _ hk => hk.2) (.slice A1358_2 ((rd_T67 l0 x13_1).f2).length c1358_2)) (fun _ hk => ⟨hk.1.1.1, ⟨hk.1.1.2, hk.1.2⟩⟩)))⟩; have n2_ : Aside0 (Kd.V k67 67 w17 w.heap.size (fun k_ => (P0_ k_ ∨ w.heap.size ≤ k_) ∧ k_ ≠ gb1351 ∧ k_ ≠ gb1359) (.slice (some ad1358) l0.length c0) l0) := ⟨(by rw [hw]; exact (by (with_reducible repeat (first | apply Kd.V_alloc | apply Kd.V_drewN | apply Kd.V_drew)); exact Kd.V_mono (Kd.V_far (p := ⟨gb1359, 2, none⟩) (Kd.V_far (p := ⟨gb1359, 1, none⟩) (Kd.V_far (p := ⟨gb1359, 0, none⟩) (Kd.V_mono HO_11.out (fun k_ hk => (⟨hk, hk.2⟩ : _ ∧ k_ ≠ gb1359))) (fun _ hk => hk.2) (.bool ((rd_T67 l0 x13_1).f0))) (fun _ hk => hk.2) (.slice A1358_1 ((rd_T67 l0 x13_1).f1).length c1358_1)) (fun _ hk => hk.2) (.slice A1358_2 ((rd_T67 l0 x13_1).f2).length c1358_2)) (fun _ hk => ⟨hk.1.1.1, ⟨hk.1.1.2, hk.1.2⟩⟩)))⟩; have n3_ : Aside0 (Kd.V (Kd.int .u32) 48 w17 w.heap.size (fun k_ => (P0_ k_ ∨ w.heap.size ≤ k_) ∧ k_ ≠ gb1351 ∧ k_ ≠ gb1359) (.slice A1358_1 ((rd_T67 l0 x13_1).f1).length c1358_1) ((rd_T67 l0 x13_1).f1)) := ⟨(by rw [hw]; exact (by (with_reducible repeat (first | apply Kd.V_alloc | apply Kd.V_drewN | apply Kd.V_drew)); exact Kd.V_mono (Kd.V_far (p := ⟨gb1359, 2, none⟩) (Kd.V_far (p := ⟨gb1359, 1, none⟩) (Kd.V_far (p := ⟨gb1359, 0, none⟩) (Kd.V_mono HL1358_1.out (fun k_ hk => (⟨hk, hk.2⟩ : _ ∧ k_ ≠ gb1359))) (fun _ hk => hk.2) (.bool ((rd_T67 l0 x13_1).f0))) (fun _ hk => hk.2) (.slice A1358_1 ((rd_T67 l0 x13_1).f1).length c1358_1)) (fun _ hk => hk.2) (.slice A1358_2 ((rd_T67 l0 x13_1).f2).length c1358_2)) (fun _ hk => ⟨hk.1.1.1, ⟨hk.1.1.2, hk.1.2⟩⟩)))⟩; have n4_ : Aside0 (Kd.V (Kd.int .u32) 48 w17 w.heap.size (fun k_ => (P0_ k_ ∨ w.heap.size ≤ k_) ∧ k_ ≠ gb1351 ∧ k_ ≠ gb1359) (.slice A1358_2 ((rd_T67 l0 x13_1).f2).length c1358_2) ((rd_T67 l0 x13_1).f2)) := ⟨(by rw [hw]; exact (by (with_reducible repeat (first | apply Kd.V_alloc | apply Kd.V_drewN | apply Kd.V_drew)); exact Kd.V_mono (Kd.V_far (p := ⟨gb1359, 2, none⟩) (Kd.V_far (p := ⟨gb1359, 1, none⟩) (Kd.V_far (p := ⟨gb1359, 0, none⟩) (Kd.V_mono HL1358_2.out (fun k_ hk => (⟨hk, hk.2⟩ : _ ∧ k_ ≠ gb1359))) (fun _ hk => hk.2) (.bool ((rd_T67 l0 x13_1).f0))) (fun _ hk => hk.2) (.slice A1358_1 ((rd_T67 l0 x13_1).f1).length c1358_1)) (fun _ hk => hk.2) (.slice A1358_2 ((rd_T67 l0 x13_1).f2).length c1358_2)) (fun _ hk => ⟨hk.1.1.1, ⟨hk.1.1.2, hk.1.2⟩⟩)))⟩; have n5_ : Aside0 (w17.heap[gb1351]? = some (.cells #[.bool false, .slice none 0 0, .slice none 0 0] 67 (0, 0))) := ⟨(by rw [hw]; exact (kf NB1351_1359.out BK1351.out))⟩; have n6_ : Aside0 (w17.heap[gb1359]? = some (.cells #[.bool ((rd_T67 l0 x13_1).f0), .slice A1358_1 ((rd_T67 l0 x13_1).f1).length c1358_1, .slice A1358_2 ((rd_T67 l0 x13_1).f2).length c1358_2] 67 (0, 0))) := ⟨(by rw [hw]; exact (by (with_reducible repeat (first | refine blk_drewN ?_ _ | refine blk_drew ?_ | refine blk_alloc ?_ _)); refine blk_put (cs := #[.bool ((rd_T67 l0 x13_1).f0), .slice A1358_1 ((rd_T67 l0 x13_1).f1).length c1358_1, .slice none 0 0]) ?_ 2 _ rfl; (with_reducible repeat (first | refine blk_drewN ?_ _ | refine blk_drew ?_ | refine blk_alloc ?_ _)); refine blk_put (cs := #[.bool ((rd_T67 l0 x13_1).f0), .slice none 0 0, .slice none 0 0]) ?_ 1 _ rfl; (with_reducible repeat (first | refine blk_drewN ?_ _ | refine blk_drew ?_ | refine blk_alloc ?_ _)); refine blk_put (cs := #[.bool false, .slice none 0 0, .slice none 0 0]) ?_ 0 _ rfl; (with_reducible repeat (first | refine blk_drewN ?_ _ | refine blk_drew ?_ | refine blk_alloc ?_ _)); exact BK1359.out))⟩; have n7_ : Aside0 (Below w.heap.size w w17) := ⟨(by rw [hw]; exact (bu2 HB.out GE1351.out GE1359.out))⟩; clear hw HO_4 HO_5 HO_11 HL1358_1 HL1358_2 BK1351 BK1359 HB; have HO_4 := n0_; have HO_5 := n1_; have HO_11 := n2_; have HL1358_1 := n3_; have HL1358_2 := n4_; have BK1351 := n5_; have BK1359 := n6_; have HB := n7_; clear n0_ n1_ n2_ n3_ n4_ n5_ n6_ n7_; have hcz18_0 : w17.cell? ⟨gb1359, 0, none⟩ = some (.bool ((rd_T67 l0 x13_1).f0)) := bc BK1359 0; have hcz18_1 : w17.cell? ⟨gb1359, 1, none⟩ = some (.slice A1358_1 ((rd_T67 l0 x13_1).f1).length c1358_1) := bc BK1359 1; have hcz18_2 : w17.cell? ⟨gb1359, 2, none⟩ = some (.slice A1358_2 ((rd_T67 l0 x13_1).f2).length c1358_2) := bc BK1359 2; have hfz18_0 := blk_frozen BK1359.out 0; have hfz18_1 := blk_frozen BK1359.out 1; have hfz18_2 := blk_frozen BK1359.out 2) | ((with_reducible refine gate_callee (f := 87) rfl ?_); refine goesL_ (some 18) rfl rfl Try.func87 (by kernel_rfl) rfl #[.agg #[.bool ((rd_T67 l0 x13_1).f0), .slice A1358_1 ((rd_T67 l0 x13_1).f1).length c1358_1, .slice A1358_2 ((rd_T67 l0 x13_1).f2).length c1358_2]] rfl lu ?_; (with_reducible refine (rational_Trim.calls k1 ((rd_T67 l0 x13_1).f0) (fun k_ => ((P0_ k_ ∨ w.heap.size ≤ k_) ∧ (k_ ≠ gb1351 ∧ k_ ≠ gb1359))) _ _ ((rd_T67 l0 x13_1).f1) (fun k_ => ((P0_ k_ ∨ w.heap.size ≤ k_) ∧ (k_ ≠ gb1351 ∧ k_ ≠ gb1359))) _ _ ((rd_T67 l0 x13_1).f2) t1360 t1361 t1364 _ ?side1 ?side2 A10.out).mono ?_); (case side1 => first | exact HL1358_1.out | exact vz HL1358_1.out); (case side2 => first | exact HL1358_2.out | exact vz HL1358_2.out); rintro e w19 ⟨v1362, v1365, rfl, ho0, ho1, hb⟩; refine ⟨_, rfl, ?_⟩; replace HO_4 := kv HO_4 hb; replace HO_5 := kv HO_5 hb; replace HO_11 := kv HO_11 hb; replace HL1358_1 := kv HL1358_1 hb; replace HL1358_2 := kv HL1358_2 hb; have HO1363 := ar w.heap.size (ok' := fun k_ => (P0_ k_ ∨ w.heap.size ≤ k_) ∧ k_ ≠ gb1351 ∧ k_ ≠ gb1359) ho0 (fa (f0 (below_size (bu2 HB.out GE1351.out GE1359.out))) (fa (fb BK1351) (fb BK1359))); have HO1366 := ar w.heap.size (ok' := fun k_ => (P0_ k_ ∨ w.heap.size ≤ k_) ∧ k_ ≠ gb1351 ∧ k_ ≠ gb1359) ho1 (fa (f0 (below_size (bu2 HB.out GE1351.out GE1359.out))) (fa (fb BK1351) (fb BK1359))); replace BK1351 := kb BK1351 hb; replace BK1359 := kb BK1359 hb; replace HB := Aside0.mk (below_step (bu2 HB.out GE1351.out GE1359.out) hb); (try clear hb); (try clear hb2); (try clear hk); (try clear hi); (try clear ho0); (try clear ho1); have hcz20_0 : w19.cell? ⟨gb1359, 0, none⟩ = some (.bool ((rd_T67 l0 x13_1).f0)) := bc BK1359 0; have hcz20_1 : w19.cell? ⟨gb1359, 1, none⟩ = some (.slice A1358_1 ((rd_T67 l0 x13_1).f1).length c1358_1) := bc BK1359 1; have hcz20_2 : w19.cell? ⟨gb1359, 2, none⟩ = some (.slice A1358_2 ((rd_T67 l0 x13_1).f2).length c1358_2) := bc BK1359 2; have hfz20_0 := blk_frozen BK1359.out 0; have hfz20_1 := blk_frozen BK1359.out 1; have hfz20_2 := blk_frozen BK1359.out 2; obtain ⟨Ao21, co21, eo21⟩ := Kd.V_slice HO1363.out; subst eo21; obtain ⟨Ao22, co22, eo22⟩ := Kd.V_slice HO1366.out; subst eo22))
      have n0_ : Aside0 (Kd.V (Kd.int .u32) 48 (((w19.setCell ⟨gb1359, 0, none⟩ (.bool t1360)).setCell ⟨gb1359, 1, none⟩ (.slice Ao21 t1361.length co21)).setCell ⟨gb1359, 2, none⟩ (.slice Ao22 t1364.length co22)) w.heap.size (fun k_ => (P0_ k_ ∨ w.heap.size ≤ k_) ∧ k_ ≠ gb1351 ∧ k_ ≠ gb1359) u4 x4_1) := ⟨by exact vf HO_4.out⟩
      have n1_ : Aside0 (Kd.V (Kd.int .u32) 48 (((w19.setCell ⟨gb1359, 0, none⟩ (.bool t1360)).setCell ⟨gb1359, 1, none⟩ (.slice Ao21 t1361.length co21)).setCell ⟨gb1359, 2, none⟩ (.slice Ao22 t1364.length co22)) w.heap.size (fun k_ => (P0_ k_ ∨ w.heap.size ≤ k_) ∧ k_ ≠ gb1351 ∧ k_ ≠ gb1359) u5 x5_1) := ⟨by exact vf HO_5.out⟩
      have n2_ : Aside0 (Kd.V k67 67 (((w19.setCell ⟨gb1359, 0, none⟩ (.bool t1360)).setCell ⟨gb1359, 1, none⟩ (.slice Ao21 t1361.length co21)).setCell ⟨gb1359, 2, none⟩ (.slice Ao22 t1364.length co22)) w.heap.size (fun k_ => (P0_ k_ ∨ w.heap.size ≤ k_) ∧ k_ ≠ gb1351 ∧ k_ ≠ gb1359) (.slice (some ad1358) l0.length c0) l0) := ⟨by exact vf HO_11.out⟩
      have n3_ : Aside0 (Kd.V (Kd.int .u32) 48 (((w19.setCell ⟨gb1359, 0, none⟩ (.bool t1360)).setCell ⟨gb1359, 1, none⟩ (.slice Ao21 t1361.length co21)).setCell ⟨gb1359, 2, none⟩ (.slice Ao22 t1364.length co22)) w.heap.size (fun k_ => (P0_ k_ ∨ w.heap.size ≤ k_) ∧ k_ ≠ gb1351 ∧ k_ ≠ gb1359) (.slice A1358_1 ((rd_T67 l0 x13_1).f1).length c1358_1) ((rd_T67 l0 x13_1).f1)) := ⟨by exact vf HL1358_1.out⟩
      have n4_ : Aside0 (Kd.V (Kd.int .u32) 48 (((w19.setCell ⟨gb1359, 0, none⟩ (.bool t1360)).setCell ⟨gb1359, 1, none⟩ (.slice Ao21 t1361.length co21)).setCell ⟨gb1359, 2, none⟩ (.slice Ao22 t1364.length co22)) w.heap.size (fun k_ => (P0_ k_ ∨ w.heap.size ≤ k_) ∧ k_ ≠ gb1351 ∧ k_ ≠ gb1359) (.slice A1358_2 ((rd_T67 l0 x13_1).f2).length c1358_2) ((rd_T67 l0 x13_1).f2)) := ⟨by exact vf HL1358_2.out⟩
      have n5_ : Aside0 (Kd.V (Kd.int .u32) 48 (((w19.setCell ⟨gb1359, 0, none⟩ (.bool t1360)).setCell ⟨gb1359, 1, none⟩ (.slice Ao21 t1361.length co21)).setCell ⟨gb1359, 2, none⟩ (.slice Ao22 t1364.length co22)) w.heap.size (fun k_ => (P0_ k_ ∨ w.heap.size ≤ k_) ∧ k_ ≠ gb1351 ∧ k_ ≠ gb1359) (.slice Ao21 t1361.length co21) t1361) := ⟨by exact vf HO1363.out⟩
      have n6_ : Aside0 (Kd.V (Kd.int .u32) 48 (((w19.setCell ⟨gb1359, 0, none⟩ (.bool t1360)).setCell ⟨gb1359, 1, none⟩ (.slice Ao21 t1361.length co21)).setCell ⟨gb1359, 2, none⟩ (.slice Ao22 t1364.length co22)) w.heap.size (fun k_ => (P0_ k_ ∨ w.heap.size ≤ k_) ∧ k_ ≠ gb1351 ∧ k_ ≠ gb1359) (.slice Ao22 t1364.length co22) t1364) := ⟨by exact vf HO1366.out⟩
      have n7_ : Aside0 ((((w19.setCell ⟨gb1359, 0, none⟩ (.bool t1360)).setCell ⟨gb1359, 1, none⟩ (.slice Ao21 t1361.length co21)).setCell ⟨gb1359, 2, none⟩ (.slice Ao22 t1364.length co22)).heap[gb1351]? = some (.cells #[.bool false, .slice none 0 0, .slice none 0 0] 67 (0, 0))) := ⟨by (with_reducible repeat (first | refine blk_drewN ?_ _ | refine blk_drew ?_ | refine blk_alloc ?_ _)); refine blk_far ?_ NB1351_1359.out _; (with_reducible repeat (first | refine blk_drewN ?_ _ | refine blk_drew ?_ | refine blk_alloc ?_ _)); refine blk_far ?_ NB1351_1359.out _; (with_reducible repeat (first | refine blk_drewN ?_ _ | refine blk_drew ?_ | refine blk_alloc ?_ _)); refine blk_far ?_ NB1351_1359.out _; (with_reducible repeat (first | refine blk_drewN ?_ _ | refine blk_drew ?_ | refine blk_alloc ?_ _)); exact BK1351.out⟩
      have n8_ : Aside0 ((((w19.setCell ⟨gb1359, 0, none⟩ (.bool t1360)).setCell ⟨gb1359, 1, none⟩ (.slice Ao21 t1361.length co21)).setCell ⟨gb1359, 2, none⟩ (.slice Ao22 t1364.length co22)).heap[gb1359]? = some (.cells #[.bool t1360, .slice Ao21 t1361.length co21, .slice Ao22 t1364.length co22] 67 (0, 0))) := ⟨by (with_reducible repeat (first | refine blk_drewN ?_ _ | refine blk_drew ?_ | refine blk_alloc ?_ _)); refine blk_put (cs := #[.bool t1360, .slice Ao21 t1361.length co21, .slice A1358_2 ((rd_T67 l0 x13_1).f2).length c1358_2]) ?_ 2 _ rfl; (with_reducible repeat (first | refine blk_drewN ?_ _ | refine blk_drew ?_ | refine blk_alloc ?_ _)); refine blk_put (cs := #[.bool t1360, .slice A1358_1 ((rd_T67 l0 x13_1).f1).length c1358_1, .slice A1358_2 ((rd_T67 l0 x13_1).f2).length c1358_2]) ?_ 1 _ rfl; (with_reducible repeat (first | refine blk_drewN ?_ _ | refine blk_drew ?_ | refine blk_alloc ?_ _)); refine blk_put (cs := #[.bool ((rd_T67 l0 x13_1).f0), .slice A1358_1 ((rd_T67 l0 x13_1).f1).length c1358_1, .slice A1358_2 ((rd_T67 l0 x13_1).f2).length c1358_2]) ?_ 0 _ rfl; (with_reducible repeat (first | refine blk_drewN ?_ _ | refine blk_drew ?_ | refine blk_alloc ?_ _)); exact BK1359.out⟩
      have n9_ : Aside0 (Below w.heap.size w (((w19.setCell ⟨gb1359, 0, none⟩ (.bool t1360)).setCell ⟨gb1359, 1, none⟩ (.slice Ao21 t1361.length co21)).setCell ⟨gb1359, 2, none⟩ (.slice Ao22 t1364.length co22))) := ⟨by repeat (first | (with_reducible first | exact HB.out | apply below_alloc | apply pw_below_drewN | apply below_drew1 | refine below_set ?_ GE1351.out | refine below_set ?_ GE1359.out) | exact HB.out)⟩
      (try clear HO_4)
      (try clear HO_5)
      (try clear HO_11)
      (try clear HL1358_1)
      (try clear HL1358_2)
      (try clear HO1363)
      (try clear HO1366)
      (try clear BK1351)
      (try clear BK1359)
      (try clear HB)
      generalize (((w19.setCell ⟨gb1359, 0, none⟩ (.bool t1360)).setCell ⟨gb1359, 1, none⟩ (.slice Ao21 t1361.length co21)).setCell ⟨gb1359, 2, none⟩ (.slice Ao22 t1364.length co22)) = w23 at n0_ n1_ n2_ n3_ n4_ n5_ n6_ n7_ n8_ n9_ ⊢
      have HO_4 := n0_
      have HO_5 := n1_
      have HO_11 := n2_
      have HL1358_1 := n3_
      have HL1358_2 := n4_
      have HO1363 := n5_
      have HO1366 := n6_
      have BK1351 := n7_
      have BK1359 := n8_
      have HB := n9_
      clear n0_ n1_ n2_ n3_ n4_ n5_ n6_ n7_ n8_ n9_
      replace HO_4 := Aside0.mk (Kd.V_drew HO_4.out)
      replace HO_5 := Aside0.mk (Kd.V_drew HO_5.out)
      replace HO_11 := Aside0.mk (Kd.V_drew HO_11.out)
      replace HL1358_1 := Aside0.mk (Kd.V_drew HL1358_1.out)
      replace HL1358_2 := Aside0.mk (Kd.V_drew HL1358_2.out)
      replace HO1363 := Aside0.mk (Kd.V_drew HO1363.out)
      replace HO1366 := Aside0.mk (Kd.V_drew HO1366.out)
      replace BK1351 := Aside0.mk (blk_drew BK1351.out)
      replace BK1359 := Aside0.mk (blk_drew BK1359.out)
      replace HB := Aside0.mk (below_drew1 HB.out)
      obtain ⟨Ao25, co25, eo25⟩ := Kd.V_slice HO_4.out
      (first | subst eo25 | (injection eo25 with f1_ f2_ f3_; have f4_ := f1_.symm; have f5_ := f3_.symm; clear f1_ f2_ f3_; subst f4_; subst f5_))
      obtain ⟨AoX5, coX5, eoX5⟩ := Kd.V_slice HO_5.out
      (first | subst eoX5 | (injection eoX5 with f1_ f2_ f3_; have f4_ := f1_.symm; have f5_ := f3_.symm; clear f1_ f2_ f3_; subst f4_; subst f5_))
      refine start_ (n := 17) (S := fun w' => w'.cell? ⟨gb1359, 0, none⟩ = some (.bool t1360) ∧ w'.cell? ⟨gb1359, 1, none⟩ = some (.slice Ao21 t1361.length co21) ∧ w'.cell? ⟨gb1359, 2, none⟩ = some (.slice Ao22 t1364.length co22)) (ds := []) #[false, false, false, false, false, false, false, false, false, false, false, false, false, false, false, false, false] (by kernel_rfl) rfl rfl ⟨bc BK1359 0, bc BK1359 1, bc BK1359 2⟩ (fun hHeld => ?_); refine with_tabW rational_Mul.tab6 rational_Mul.bits6 (fun HT_ HW_ => ?_)
      generalize w23.drew = w24 at HO_4 HO_5 HO_11 HL1358_1 HL1358_2 HO1363 HO1366 BK1351 BK1359 HB hHeld ⊢
      refine pq 0 (some 19) #[true, false, false, false, false, false, false, false, false, false, false, false, false, false, false, false, false] HT_ ?_
      refine pq 1 (some 20) #[true, true, false, false, false, false, false, false, false, false, false, false, false, false, false, false, false] HT_ ?_
      refine pq 4 (some 23) #[true, true, false, false, true, false, false, false, false, false, false, false, false, false, false, false, false] HT_ ?_
      refine pq 5 (some 24) #[true, true, false, false, true, true, false, false, false, false, false, false, false, false, false, false, false] HT_ ?_
      refine pq 9 (some 28) #[true, true, false, false, true, true, false, false, false, true, false, false, false, false, false, false, false] HT_ ?_
      refine pq 10 (some 29) #[true, true, false, false, true, true, false, false, false, true, true, false, false, false, false, false, false] HT_ ?_
      refine tq 2 (some 21) #[true, true, true, false, true, true, false, false, false, true, true, false, false, false, false, false, false] HT_ HW_ hHeld ?_
      refine pq 3 (some 22) #[true, true, true, true, true, true, false, false, false, true, true, false, false, false, false, false, false] HT_ ?_
      refine tq 6 (some 25) #[true, true, true, true, true, true, true, false, false, true, true, false, false, false, false, false, false] HT_ HW_ hHeld ?_
      refine tq 11 (some 30) #[true, true, true, true, true, true, true, false, false, true, true, true, false, false, false, false, false] HT_ HW_ hHeld ?_
      refine join_ (σ := Value × Value × Value × Value × Value × Value × Nat) 1 #[true, true, true, true, true, true, true, true, true, true, true, true, true, true, true, true, false] (fun s_ => [(26, s_.1), (27, s_.2.1), (31, s_.2.2.1), (32, s_.2.2.2.1), (33, .agg #[.bool t1379, s_.2.2.2.2.1, s_.2.2.2.2.2.1]), (8, .pointer (some ⟨s_.2.2.2.2.2.2, 0, none⟩))]) (fun s_ w' => (w'.cell? ⟨gb1359, 0, none⟩ = some (.bool t1360) ∧ w'.cell? ⟨gb1359, 1, none⟩ = some (.slice Ao21 t1361.length co21) ∧ w'.cell? ⟨gb1359, 2, none⟩ = some (.slice Ao22 t1364.length co22)) ∧ (Kd.V (Kd.int .u32) 48 w' w.heap.size (fun k_ => (P0_ k_ ∨ w.heap.size ≤ k_) ∧ some k_ ≠ (s_.1 : Value).ownBlock ∧ some k_ ≠ (s_.2.2.1 : Value).ownBlock ∧ k_ ≠ gb1351 ∧ k_ ≠ gb1359 ∧ k_ ≠ s_.2.2.2.2.2.2) (.slice A1358_1 ((rd_T67 l0 x13_1).f1).length c1358_1) ((rd_T67 l0 x13_1).f1)) ∧ (Kd.V (Kd.int .u32) 48 w' w.heap.size (fun k_ => (P0_ k_ ∨ w.heap.size ≤ k_) ∧ some k_ ≠ (s_.1 : Value).ownBlock ∧ some k_ ≠ (s_.2.2.1 : Value).ownBlock ∧ k_ ≠ gb1351 ∧ k_ ≠ gb1359 ∧ k_ ≠ s_.2.2.2.2.2.2) (.slice A1358_2 ((rd_T67 l0 x13_1).f2).length c1358_2) ((rd_T67 l0 x13_1).f2)) ∧ (Kd.V (Kd.int .u32) 48 w' w.heap.size (fun k_ => (P0_ k_ ∨ w.heap.size ≤ k_) ∧ some k_ ≠ (s_.1 : Value).ownBlock ∧ some k_ ≠ (s_.2.2.1 : Value).ownBlock ∧ k_ ≠ gb1351 ∧ k_ ≠ gb1359 ∧ k_ ≠ s_.2.2.2.2.2.2) (.slice Ao21 t1361.length co21) t1361) ∧ (Kd.V (Kd.int .u32) 48 w' w.heap.size (fun k_ => (P0_ k_ ∨ w.heap.size ≤ k_) ∧ some k_ ≠ (s_.1 : Value).ownBlock ∧ some k_ ≠ (s_.2.2.1 : Value).ownBlock ∧ k_ ≠ gb1351 ∧ k_ ≠ gb1359 ∧ k_ ≠ s_.2.2.2.2.2.2) (.slice Ao22 t1364.length co22) t1364) ∧ (Kd.N (Kd.slice 48 (Kd.int .u32)) 42 w' w.heap.size (fun k_ => (P0_ k_ ∨ w.heap.size ≤ k_) ∧ some k_ ≠ (s_.2.2.1 : Value).ownBlock ∧ k_ ≠ gb1351 ∧ k_ ≠ gb1359 ∧ k_ ≠ s_.2.2.2.2.2.2) s_.1 y1367) ∧ (Kd.V (Kd.int .u32) 48 w' w.heap.size (fun k_ => (P0_ k_ ∨ w.heap.size ≤ k_) ∧ some k_ ≠ (s_.1 : Value).ownBlock ∧ some k_ ≠ (s_.2.2.1 : Value).ownBlock ∧ k_ ≠ gb1351 ∧ k_ ≠ gb1359 ∧ k_ ≠ s_.2.2.2.2.2.2) s_.2.1 t1370) ∧ (Kd.N (Kd.slice 48 (Kd.int .u32)) 42 w' w.heap.size (fun k_ => (P0_ k_ ∨ w.heap.size ≤ k_) ∧ some k_ ≠ (s_.1 : Value).ownBlock ∧ k_ ≠ gb1351 ∧ k_ ≠ gb1359 ∧ k_ ≠ s_.2.2.2.2.2.2) s_.2.2.1 y1373) ∧ (Kd.V (Kd.int .u32) 48 w' w.heap.size (fun k_ => (P0_ k_ ∨ w.heap.size ≤ k_) ∧ some k_ ≠ (s_.1 : Value).ownBlock ∧ some k_ ≠ (s_.2.2.1 : Value).ownBlock ∧ k_ ≠ gb1351 ∧ k_ ≠ gb1359 ∧ k_ ≠ s_.2.2.2.2.2.2) s_.2.2.2.1 t1376) ∧ (Kd.V (Kd.int .u32) 48 w' w.heap.size (fun k_ => (P0_ k_ ∨ w.heap.size ≤ k_) ∧ some k_ ≠ (s_.1 : Value).ownBlock ∧ some k_ ≠ (s_.2.2.1 : Value).ownBlock ∧ k_ ≠ gb1351 ∧ k_ ≠ gb1359 ∧ k_ ≠ s_.2.2.2.2.2.2) s_.2.2.2.2.1 t1380) ∧ (Kd.V (Kd.int .u32) 48 w' w.heap.size (fun k_ => (P0_ k_ ∨ w.heap.size ≤ k_) ∧ some k_ ≠ (s_.1 : Value).ownBlock ∧ some k_ ≠ (s_.2.2.1 : Value).ownBlock ∧ k_ ≠ gb1351 ∧ k_ ≠ gb1359 ∧ k_ ≠ s_.2.2.2.2.2.2) s_.2.2.2.2.2.1 t1383) ∧ (Kd.V k67 67 w' w.heap.size (fun k_ => (P0_ k_ ∨ w.heap.size ≤ k_) ∧ some k_ ≠ (s_.1 : Value).ownBlock ∧ some k_ ≠ (s_.2.2.1 : Value).ownBlock ∧ k_ ≠ gb1351 ∧ k_ ≠ gb1359 ∧ k_ ≠ s_.2.2.2.2.2.2) (.slice (some ad1358) l0.length c0) l0) ∧ (Kd.V (Kd.int .u32) 48 w' w.heap.size (fun k_ => (P0_ k_ ∨ w.heap.size ≤ k_) ∧ some k_ ≠ (s_.1 : Value).ownBlock ∧ some k_ ≠ (s_.2.2.1 : Value).ownBlock ∧ k_ ≠ gb1351 ∧ k_ ≠ gb1359 ∧ k_ ≠ s_.2.2.2.2.2.2) (.slice Ao25 x4_1.length co25) x4_1) ∧ (Kd.V (Kd.int .u32) 48 w' w.heap.size (fun k_ => (P0_ k_ ∨ w.heap.size ≤ k_) ∧ some k_ ≠ (s_.1 : Value).ownBlock ∧ some k_ ≠ (s_.2.2.1 : Value).ownBlock ∧ k_ ≠ gb1351 ∧ k_ ≠ gb1359 ∧ k_ ≠ s_.2.2.2.2.2.2) (.slice AoX5 x5_1.length coX5) x5_1) ∧ (w'.heap[gb1351]? = some (.cells #[.bool false, .slice none 0 0, .slice none 0 0] 67 (0, 0))) ∧ (w'.heap[gb1359]? = some (.cells #[.bool t1360, .slice Ao21 t1361.length co21, .slice Ao22 t1364.length co22] 67 (0, 0))) ∧ (w'.heap[s_.2.2.2.2.2.2]? = some (.cells #[.bool false, .slice none 0 0, .slice none 0 0] 67 (0, 0))) ∧ (w.heap.size ≤ s_.2.2.2.2.2.2) ∧ (w.heap.size ≤ s_.2.2.2.2.2.2) ∧ (gb1351 ≠ s_.2.2.2.2.2.2) ∧ (s_.2.2.2.2.2.2 ≠ gb1351) ∧ (gb1359 ≠ s_.2.2.2.2.2.2) ∧ (s_.2.2.2.2.2.2 ≠ gb1359) ∧ (Below w.heap.size w w')) ?_ ?_
      rotate_left
      ·
       intro hJ7_8_12_13_14_15
       refine join_ (σ := Value × Value × Value × Value × Value × Value) 2 #[true, true, true, true, true, true, true, true, true, true, true, true, true, true, true, false, false] (fun s_ => [(26, s_.1), (27, s_.2.1), (31, s_.2.2.1), (32, s_.2.2.2.1), (33, .agg #[.bool t1379, s_.2.2.2.2.1, s_.2.2.2.2.2])]) (fun s_ w' => (w'.cell? ⟨gb1359, 0, none⟩ = some (.bool t1360) ∧ w'.cell? ⟨gb1359, 1, none⟩ = some (.slice Ao21 t1361.length co21) ∧ w'.cell? ⟨gb1359, 2, none⟩ = some (.slice Ao22 t1364.length co22)) ∧ (Kd.V (Kd.int .u32) 48 w' w.heap.size (fun k_ => (P0_ k_ ∨ w.heap.size ≤ k_) ∧ some k_ ≠ (s_.1 : Value).ownBlock ∧ some k_ ≠ (s_.2.2.1 : Value).ownBlock ∧ k_ ≠ gb1351 ∧ k_ ≠ gb1359) (.slice A1358_1 ((rd_T67 l0 x13_1).f1).length c1358_1) ((rd_T67 l0 x13_1).f1)) ∧ (Kd.V (Kd.int .u32) 48 w' w.heap.size (fun k_ => (P0_ k_ ∨ w.heap.size ≤ k_) ∧ some k_ ≠ (s_.1 : Value).ownBlock ∧ some k_ ≠ (s_.2.2.1 : Value).ownBlock ∧ k_ ≠ gb1351 ∧ k_ ≠ gb1359) (.slice A1358_2 ((rd_T67 l0 x13_1).f2).length c1358_2) ((rd_T67 l0 x13_1).f2)) ∧ (Kd.V (Kd.int .u32) 48 w' w.heap.size (fun k_ => (P0_ k_ ∨ w.heap.size ≤ k_) ∧ some k_ ≠ (s_.1 : Value).ownBlock ∧ some k_ ≠ (s_.2.2.1 : Value).ownBlock ∧ k_ ≠ gb1351 ∧ k_ ≠ gb1359) (.slice Ao21 t1361.length co21) t1361) ∧ (Kd.V (Kd.int .u32) 48 w' w.heap.size (fun k_ => (P0_ k_ ∨ w.heap.size ≤ k_) ∧ some k_ ≠ (s_.1 : Value).ownBlock ∧ some k_ ≠ (s_.2.2.1 : Value).ownBlock ∧ k_ ≠ gb1351 ∧ k_ ≠ gb1359) (.slice Ao22 t1364.length co22) t1364) ∧ (Kd.N (Kd.slice 48 (Kd.int .u32)) 42 w' w.heap.size (fun k_ => (P0_ k_ ∨ w.heap.size ≤ k_) ∧ some k_ ≠ (s_.2.2.1 : Value).ownBlock ∧ k_ ≠ gb1351 ∧ k_ ≠ gb1359) s_.1 y1367) ∧ (Kd.V (Kd.int .u32) 48 w' w.heap.size (fun k_ => (P0_ k_ ∨ w.heap.size ≤ k_) ∧ some k_ ≠ (s_.1 : Value).ownBlock ∧ some k_ ≠ (s_.2.2.1 : Value).ownBlock ∧ k_ ≠ gb1351 ∧ k_ ≠ gb1359) s_.2.1 t1370) ∧ (Kd.N (Kd.slice 48 (Kd.int .u32)) 42 w' w.heap.size (fun k_ => (P0_ k_ ∨ w.heap.size ≤ k_) ∧ some k_ ≠ (s_.1 : Value).ownBlock ∧ k_ ≠ gb1351 ∧ k_ ≠ gb1359) s_.2.2.1 y1373) ∧ (Kd.V (Kd.int .u32) 48 w' w.heap.size (fun k_ => (P0_ k_ ∨ w.heap.size ≤ k_) ∧ some k_ ≠ (s_.1 : Value).ownBlock ∧ some k_ ≠ (s_.2.2.1 : Value).ownBlock ∧ k_ ≠ gb1351 ∧ k_ ≠ gb1359) s_.2.2.2.1 t1376) ∧ (Kd.V (Kd.int .u32) 48 w' w.heap.size (fun k_ => (P0_ k_ ∨ w.heap.size ≤ k_) ∧ some k_ ≠ (s_.1 : Value).ownBlock ∧ some k_ ≠ (s_.2.2.1 : Value).ownBlock ∧ k_ ≠ gb1351 ∧ k_ ≠ gb1359) s_.2.2.2.2.1 t1380) ∧ (Kd.V (Kd.int .u32) 48 w' w.heap.size (fun k_ => (P0_ k_ ∨ w.heap.size ≤ k_) ∧ some k_ ≠ (s_.1 : Value).ownBlock ∧ some k_ ≠ (s_.2.2.1 : Value).ownBlock ∧ k_ ≠ gb1351 ∧ k_ ≠ gb1359) s_.2.2.2.2.2 t1383) ∧ (Kd.V k67 67 w' w.heap.size (fun k_ => (P0_ k_ ∨ w.heap.size ≤ k_) ∧ some k_ ≠ (s_.1 : Value).ownBlock ∧ some k_ ≠ (s_.2.2.1 : Value).ownBlock ∧ k_ ≠ gb1351 ∧ k_ ≠ gb1359) (.slice (some ad1358) l0.length c0) l0) ∧ (Kd.V (Kd.int .u32) 48 w' w.heap.size (fun k_ => (P0_ k_ ∨ w.heap.size ≤ k_) ∧ some k_ ≠ (s_.1 : Value).ownBlock ∧ some k_ ≠ (s_.2.2.1 : Value).ownBlock ∧ k_ ≠ gb1351 ∧ k_ ≠ gb1359) (.slice Ao25 x4_1.length co25) x4_1) ∧ (Kd.V (Kd.int .u32) 48 w' w.heap.size (fun k_ => (P0_ k_ ∨ w.heap.size ≤ k_) ∧ some k_ ≠ (s_.1 : Value).ownBlock ∧ some k_ ≠ (s_.2.2.1 : Value).ownBlock ∧ k_ ≠ gb1351 ∧ k_ ≠ gb1359) (.slice AoX5 x5_1.length coX5) x5_1) ∧ (w'.heap[gb1351]? = some (.cells #[.bool false, .slice none 0 0, .slice none 0 0] 67 (0, 0))) ∧ (w'.heap[gb1359]? = some (.cells #[.bool t1360, .slice Ao21 t1361.length co21, .slice Ao22 t1364.length co22] 67 (0, 0))) ∧ (Below w.heap.size w w')) ?_ ?_
       rotate_left
       ·
        intro hJ7_8_12_13_14
        refine join_ (σ := Value × Value × Value × Value × Nat) 2 #[true, true, true, true, true, true, true, true, true, true, true, true, true, true, false, true, false] (fun s_ => [(26, s_.1), (27, s_.2.1), (31, s_.2.2.1), (32, s_.2.2.2.1), (8, .pointer (some ⟨s_.2.2.2.2, 0, none⟩))]) (fun s_ w' => (w'.cell? ⟨gb1359, 0, none⟩ = some (.bool t1360) ∧ w'.cell? ⟨gb1359, 1, none⟩ = some (.slice Ao21 t1361.length co21) ∧ w'.cell? ⟨gb1359, 2, none⟩ = some (.slice Ao22 t1364.length co22)) ∧ (Kd.V (Kd.int .u32) 48 w' w.heap.size (fun k_ => (P0_ k_ ∨ w.heap.size ≤ k_) ∧ some k_ ≠ (s_.1 : Value).ownBlock ∧ some k_ ≠ (s_.2.2.1 : Value).ownBlock ∧ k_ ≠ gb1351 ∧ k_ ≠ gb1359 ∧ k_ ≠ s_.2.2.2.2) (.slice A1358_1 ((rd_T67 l0 x13_1).f1).length c1358_1) ((rd_T67 l0 x13_1).f1)) ∧ (Kd.V (Kd.int .u32) 48 w' w.heap.size (fun k_ => (P0_ k_ ∨ w.heap.size ≤ k_) ∧ some k_ ≠ (s_.1 : Value).ownBlock ∧ some k_ ≠ (s_.2.2.1 : Value).ownBlock ∧ k_ ≠ gb1351 ∧ k_ ≠ gb1359 ∧ k_ ≠ s_.2.2.2.2) (.slice A1358_2 ((rd_T67 l0 x13_1).f2).length c1358_2) ((rd_T67 l0 x13_1).f2)) ∧ (Kd.V (Kd.int .u32) 48 w' w.heap.size (fun k_ => (P0_ k_ ∨ w.heap.size ≤ k_) ∧ some k_ ≠ (s_.1 : Value).ownBlock ∧ some k_ ≠ (s_.2.2.1 : Value).ownBlock ∧ k_ ≠ gb1351 ∧ k_ ≠ gb1359 ∧ k_ ≠ s_.2.2.2.2) (.slice Ao21 t1361.length co21) t1361) ∧ (Kd.V (Kd.int .u32) 48 w' w.heap.size (fun k_ => (P0_ k_ ∨ w.heap.size ≤ k_) ∧ some k_ ≠ (s_.1 : Value).ownBlock ∧ some k_ ≠ (s_.2.2.1 : Value).ownBlock ∧ k_ ≠ gb1351 ∧ k_ ≠ gb1359 ∧ k_ ≠ s_.2.2.2.2) (.slice Ao22 t1364.length co22) t1364) ∧ (Kd.N (Kd.slice 48 (Kd.int .u32)) 42 w' w.heap.size (fun k_ => (P0_ k_ ∨ w.heap.size ≤ k_) ∧ some k_ ≠ (s_.2.2.1 : Value).ownBlock ∧ k_ ≠ gb1351 ∧ k_ ≠ gb1359 ∧ k_ ≠ s_.2.2.2.2) s_.1 y1367) ∧ (Kd.V (Kd.int .u32) 48 w' w.heap.size (fun k_ => (P0_ k_ ∨ w.heap.size ≤ k_) ∧ some k_ ≠ (s_.1 : Value).ownBlock ∧ some k_ ≠ (s_.2.2.1 : Value).ownBlock ∧ k_ ≠ gb1351 ∧ k_ ≠ gb1359 ∧ k_ ≠ s_.2.2.2.2) s_.2.1 t1370) ∧ (Kd.N (Kd.slice 48 (Kd.int .u32)) 42 w' w.heap.size (fun k_ => (P0_ k_ ∨ w.heap.size ≤ k_) ∧ some k_ ≠ (s_.1 : Value).ownBlock ∧ k_ ≠ gb1351 ∧ k_ ≠ gb1359 ∧ k_ ≠ s_.2.2.2.2) s_.2.2.1 y1373) ∧ (Kd.V (Kd.int .u32) 48 w' w.heap.size (fun k_ => (P0_ k_ ∨ w.heap.size ≤ k_) ∧ some k_ ≠ (s_.1 : Value).ownBlock ∧ some k_ ≠ (s_.2.2.1 : Value).ownBlock ∧ k_ ≠ gb1351 ∧ k_ ≠ gb1359 ∧ k_ ≠ s_.2.2.2.2) s_.2.2.2.1 t1376) ∧ (Kd.V k67 67 w' w.heap.size (fun k_ => (P0_ k_ ∨ w.heap.size ≤ k_) ∧ some k_ ≠ (s_.1 : Value).ownBlock ∧ some k_ ≠ (s_.2.2.1 : Value).ownBlock ∧ k_ ≠ gb1351 ∧ k_ ≠ gb1359 ∧ k_ ≠ s_.2.2.2.2) (.slice (some ad1358) l0.length c0) l0) ∧ (Kd.V (Kd.int .u32) 48 w' w.heap.size (fun k_ => (P0_ k_ ∨ w.heap.size ≤ k_) ∧ some k_ ≠ (s_.1 : Value).ownBlock ∧ some k_ ≠ (s_.2.2.1 : Value).ownBlock ∧ k_ ≠ gb1351 ∧ k_ ≠ gb1359 ∧ k_ ≠ s_.2.2.2.2) (.slice Ao25 x4_1.length co25) x4_1) ∧ (Kd.V (Kd.int .u32) 48 w' w.heap.size (fun k_ => (P0_ k_ ∨ w.heap.size ≤ k_) ∧ some k_ ≠ (s_.1 : Value).ownBlock ∧ some k_ ≠ (s_.2.2.1 : Value).ownBlock ∧ k_ ≠ gb1351 ∧ k_ ≠ gb1359 ∧ k_ ≠ s_.2.2.2.2) (.slice AoX5 x5_1.length coX5) x5_1) ∧ (w'.heap[gb1351]? = some (.cells #[.bool false, .slice none 0 0, .slice none 0 0] 67 (0, 0))) ∧ (w'.heap[gb1359]? = some (.cells #[.bool t1360, .slice Ao21 t1361.length co21, .slice Ao22 t1364.length co22] 67 (0, 0))) ∧ (w'.heap[s_.2.2.2.2]? = some (.cells #[.bool false, .slice none 0 0, .slice none 0 0] 67 (0, 0))) ∧ (w.heap.size ≤ s_.2.2.2.2) ∧ (w.heap.size ≤ s_.2.2.2.2) ∧ (gb1351 ≠ s_.2.2.2.2) ∧ (s_.2.2.2.2 ≠ gb1351) ∧ (gb1359 ≠ s_.2.2.2.2) ∧ (s_.2.2.2.2 ≠ gb1359) ∧ (Below w.heap.size w w')) ?_ ?_
        rotate_left
        ·
         intro hJ7_8_12_13_15
         refine join_ (σ := Value × Value × Value × Value) 3 #[true, true, true, true, true, true, true, true, true, true, true, true, true, true, false, false, false] (fun s_ => [(26, s_.1), (27, s_.2.1), (31, s_.2.2.1), (32, s_.2.2.2)]) (fun s_ w' => (w'.cell? ⟨gb1359, 0, none⟩ = some (.bool t1360) ∧ w'.cell? ⟨gb1359, 1, none⟩ = some (.slice Ao21 t1361.length co21) ∧ w'.cell? ⟨gb1359, 2, none⟩ = some (.slice Ao22 t1364.length co22)) ∧ (Kd.V (Kd.int .u32) 48 w' w.heap.size (fun k_ => (P0_ k_ ∨ w.heap.size ≤ k_) ∧ some k_ ≠ (s_.1 : Value).ownBlock ∧ some k_ ≠ (s_.2.2.1 : Value).ownBlock ∧ k_ ≠ gb1351 ∧ k_ ≠ gb1359) (.slice A1358_1 ((rd_T67 l0 x13_1).f1).length c1358_1) ((rd_T67 l0 x13_1).f1)) ∧ (Kd.V (Kd.int .u32) 48 w' w.heap.size (fun k_ => (P0_ k_ ∨ w.heap.size ≤ k_) ∧ some k_ ≠ (s_.1 : Value).ownBlock ∧ some k_ ≠ (s_.2.2.1 : Value).ownBlock ∧ k_ ≠ gb1351 ∧ k_ ≠ gb1359) (.slice A1358_2 ((rd_T67 l0 x13_1).f2).length c1358_2) ((rd_T67 l0 x13_1).f2)) ∧ (Kd.V (Kd.int .u32) 48 w' w.heap.size (fun k_ => (P0_ k_ ∨ w.heap.size ≤ k_) ∧ some k_ ≠ (s_.1 : Value).ownBlock ∧ some k_ ≠ (s_.2.2.1 : Value).ownBlock ∧ k_ ≠ gb1351 ∧ k_ ≠ gb1359) (.slice Ao21 t1361.length co21) t1361) ∧ (Kd.V (Kd.int .u32) 48 w' w.heap.size (fun k_ => (P0_ k_ ∨ w.heap.size ≤ k_) ∧ some k_ ≠ (s_.1 : Value).ownBlock ∧ some k_ ≠ (s_.2.2.1 : Value).ownBlock ∧ k_ ≠ gb1351 ∧ k_ ≠ gb1359) (.slice Ao22 t1364.length co22) t1364) ∧ (Kd.N (Kd.slice 48 (Kd.int .u32)) 42 w' w.heap.size (fun k_ => (P0_ k_ ∨ w.heap.size ≤ k_) ∧ some k_ ≠ (s_.2.2.1 : Value).ownBlock ∧ k_ ≠ gb1351 ∧ k_ ≠ gb1359) s_.1 y1367) ∧ (Kd.V (Kd.int .u32) 48 w' w.heap.size (fun k_ => (P0_ k_ ∨ w.heap.size ≤ k_) ∧ some k_ ≠ (s_.1 : Value).ownBlock ∧ some k_ ≠ (s_.2.2.1 : Value).ownBlock ∧ k_ ≠ gb1351 ∧ k_ ≠ gb1359) s_.2.1 t1370) ∧ (Kd.N (Kd.slice 48 (Kd.int .u32)) 42 w' w.heap.size (fun k_ => (P0_ k_ ∨ w.heap.size ≤ k_) ∧ some k_ ≠ (s_.1 : Value).ownBlock ∧ k_ ≠ gb1351 ∧ k_ ≠ gb1359) s_.2.2.1 y1373) ∧ (Kd.V (Kd.int .u32) 48 w' w.heap.size (fun k_ => (P0_ k_ ∨ w.heap.size ≤ k_) ∧ some k_ ≠ (s_.1 : Value).ownBlock ∧ some k_ ≠ (s_.2.2.1 : Value).ownBlock ∧ k_ ≠ gb1351 ∧ k_ ≠ gb1359) s_.2.2.2 t1376) ∧ (Kd.V k67 67 w' w.heap.size (fun k_ => (P0_ k_ ∨ w.heap.size ≤ k_) ∧ some k_ ≠ (s_.1 : Value).ownBlock ∧ some k_ ≠ (s_.2.2.1 : Value).ownBlock ∧ k_ ≠ gb1351 ∧ k_ ≠ gb1359) (.slice (some ad1358) l0.length c0) l0) ∧ (Kd.V (Kd.int .u32) 48 w' w.heap.size (fun k_ => (P0_ k_ ∨ w.heap.size ≤ k_) ∧ some k_ ≠ (s_.1 : Value).ownBlock ∧ some k_ ≠ (s_.2.2.1 : Value).ownBlock ∧ k_ ≠ gb1351 ∧ k_ ≠ gb1359) (.slice Ao25 x4_1.length co25) x4_1) ∧ (Kd.V (Kd.int .u32) 48 w' w.heap.size (fun k_ => (P0_ k_ ∨ w.heap.size ≤ k_) ∧ some k_ ≠ (s_.1 : Value).ownBlock ∧ some k_ ≠ (s_.2.2.1 : Value).ownBlock ∧ k_ ≠ gb1351 ∧ k_ ≠ gb1359) (.slice AoX5 x5_1.length coX5) x5_1) ∧ (w'.heap[gb1351]? = some (.cells #[.bool false, .slice none 0 0, .slice none 0 0] 67 (0, 0))) ∧ (w'.heap[gb1359]? = some (.cells #[.bool t1360, .slice Ao21 t1361.length co21, .slice Ao22 t1364.length co22] 67 (0, 0))) ∧ (Below w.heap.size w w')) ?_ ?_
         rotate_left
         ·
          intro hJ7_8_12_13
          refine join_ (σ := Value × Value × Value × Nat) 3 #[true, true, true, true, true, true, true, true, true, true, true, true, true, false, false, true, false] (fun s_ => [(26, s_.1), (27, s_.2.1), (31, s_.2.2.1), (8, .pointer (some ⟨s_.2.2.2, 0, none⟩))]) (fun s_ w' => (w'.cell? ⟨gb1359, 0, none⟩ = some (.bool t1360) ∧ w'.cell? ⟨gb1359, 1, none⟩ = some (.slice Ao21 t1361.length co21) ∧ w'.cell? ⟨gb1359, 2, none⟩ = some (.slice Ao22 t1364.length co22)) ∧ (Kd.V (Kd.int .u32) 48 w' w.heap.size (fun k_ => (P0_ k_ ∨ w.heap.size ≤ k_) ∧ some k_ ≠ (s_.1 : Value).ownBlock ∧ some k_ ≠ (s_.2.2.1 : Value).ownBlock ∧ k_ ≠ gb1351 ∧ k_ ≠ gb1359 ∧ k_ ≠ s_.2.2.2) (.slice A1358_1 ((rd_T67 l0 x13_1).f1).length c1358_1) ((rd_T67 l0 x13_1).f1)) ∧ (Kd.V (Kd.int .u32) 48 w' w.heap.size (fun k_ => (P0_ k_ ∨ w.heap.size ≤ k_) ∧ some k_ ≠ (s_.1 : Value).ownBlock ∧ some k_ ≠ (s_.2.2.1 : Value).ownBlock ∧ k_ ≠ gb1351 ∧ k_ ≠ gb1359 ∧ k_ ≠ s_.2.2.2) (.slice A1358_2 ((rd_T67 l0 x13_1).f2).length c1358_2) ((rd_T67 l0 x13_1).f2)) ∧ (Kd.V (Kd.int .u32) 48 w' w.heap.size (fun k_ => (P0_ k_ ∨ w.heap.size ≤ k_) ∧ some k_ ≠ (s_.1 : Value).ownBlock ∧ some k_ ≠ (s_.2.2.1 : Value).ownBlock ∧ k_ ≠ gb1351 ∧ k_ ≠ gb1359 ∧ k_ ≠ s_.2.2.2) (.slice Ao21 t1361.length co21) t1361) ∧ (Kd.V (Kd.int .u32) 48 w' w.heap.size (fun k_ => (P0_ k_ ∨ w.heap.size ≤ k_) ∧ some k_ ≠ (s_.1 : Value).ownBlock ∧ some k_ ≠ (s_.2.2.1 : Value).ownBlock ∧ k_ ≠ gb1351 ∧ k_ ≠ gb1359 ∧ k_ ≠ s_.2.2.2) (.slice Ao22 t1364.length co22) t1364) ∧ (Kd.N (Kd.slice 48 (Kd.int .u32)) 42 w' w.heap.size (fun k_ => (P0_ k_ ∨ w.heap.size ≤ k_) ∧ some k_ ≠ (s_.2.2.1 : Value).ownBlock ∧ k_ ≠ gb1351 ∧ k_ ≠ gb1359 ∧ k_ ≠ s_.2.2.2) s_.1 y1367) ∧ (Kd.V (Kd.int .u32) 48 w' w.heap.size (fun k_ => (P0_ k_ ∨ w.heap.size ≤ k_) ∧ some k_ ≠ (s_.1 : Value).ownBlock ∧ some k_ ≠ (s_.2.2.1 : Value).ownBlock ∧ k_ ≠ gb1351 ∧ k_ ≠ gb1359 ∧ k_ ≠ s_.2.2.2) s_.2.1 t1370) ∧ (Kd.N (Kd.slice 48 (Kd.int .u32)) 42 w' w.heap.size (fun k_ => (P0_ k_ ∨ w.heap.size ≤ k_) ∧ some k_ ≠ (s_.1 : Value).ownBlock ∧ k_ ≠ gb1351 ∧ k_ ≠ gb1359 ∧ k_ ≠ s_.2.2.2) s_.2.2.1 y1373) ∧ (Kd.V k67 67 w' w.heap.size (fun k_ => (P0_ k_ ∨ w.heap.size ≤ k_) ∧ some k_ ≠ (s_.1 : Value).ownBlock ∧ some k_ ≠ (s_.2.2.1 : Value).ownBlock ∧ k_ ≠ gb1351 ∧ k_ ≠ gb1359 ∧ k_ ≠ s_.2.2.2) (.slice (some ad1358) l0.length c0) l0) ∧ (Kd.V (Kd.int .u32) 48 w' w.heap.size (fun k_ => (P0_ k_ ∨ w.heap.size ≤ k_) ∧ some k_ ≠ (s_.1 : Value).ownBlock ∧ some k_ ≠ (s_.2.2.1 : Value).ownBlock ∧ k_ ≠ gb1351 ∧ k_ ≠ gb1359 ∧ k_ ≠ s_.2.2.2) (.slice Ao25 x4_1.length co25) x4_1) ∧ (Kd.V (Kd.int .u32) 48 w' w.heap.size (fun k_ => (P0_ k_ ∨ w.heap.size ≤ k_) ∧ some k_ ≠ (s_.1 : Value).ownBlock ∧ some k_ ≠ (s_.2.2.1 : Value).ownBlock ∧ k_ ≠ gb1351 ∧ k_ ≠ gb1359 ∧ k_ ≠ s_.2.2.2) (.slice AoX5 x5_1.length coX5) x5_1) ∧ (w'.heap[gb1351]? = some (.cells #[.bool false, .slice none 0 0, .slice none 0 0] 67 (0, 0))) ∧ (w'.heap[gb1359]? = some (.cells #[.bool t1360, .slice Ao21 t1361.length co21, .slice Ao22 t1364.length co22] 67 (0, 0))) ∧ (w'.heap[s_.2.2.2]? = some (.cells #[.bool false, .slice none 0 0, .slice none 0 0] 67 (0, 0))) ∧ (w.heap.size ≤ s_.2.2.2) ∧ (w.heap.size ≤ s_.2.2.2) ∧ (gb1351 ≠ s_.2.2.2) ∧ (s_.2.2.2 ≠ gb1351) ∧ (gb1359 ≠ s_.2.2.2) ∧ (s_.2.2.2 ≠ gb1359) ∧ (Below w.heap.size w w')) ?_ ?_
          rotate_left
          ·
           intro hJ7_8_12_15
           refine join_ (σ := Value × Value × Value) 4 #[true, true, true, true, true, true, true, true, true, true, true, true, true, false, false, false, false] (fun s_ => [(26, s_.1), (27, s_.2.1), (31, s_.2.2)]) (fun s_ w' => (w'.cell? ⟨gb1359, 0, none⟩ = some (.bool t1360) ∧ w'.cell? ⟨gb1359, 1, none⟩ = some (.slice Ao21 t1361.length co21) ∧ w'.cell? ⟨gb1359, 2, none⟩ = some (.slice Ao22 t1364.length co22)) ∧ (Kd.V (Kd.int .u32) 48 w' w.heap.size (fun k_ => (P0_ k_ ∨ w.heap.size ≤ k_) ∧ some k_ ≠ (s_.1 : Value).ownBlock ∧ some k_ ≠ (s_.2.2 : Value).ownBlock ∧ k_ ≠ gb1351 ∧ k_ ≠ gb1359) (.slice A1358_1 ((rd_T67 l0 x13_1).f1).length c1358_1) ((rd_T67 l0 x13_1).f1)) ∧ (Kd.V (Kd.int .u32) 48 w' w.heap.size (fun k_ => (P0_ k_ ∨ w.heap.size ≤ k_) ∧ some k_ ≠ (s_.1 : Value).ownBlock ∧ some k_ ≠ (s_.2.2 : Value).ownBlock ∧ k_ ≠ gb1351 ∧ k_ ≠ gb1359) (.slice A1358_2 ((rd_T67 l0 x13_1).f2).length c1358_2) ((rd_T67 l0 x13_1).f2)) ∧ (Kd.V (Kd.int .u32) 48 w' w.heap.size (fun k_ => (P0_ k_ ∨ w.heap.size ≤ k_) ∧ some k_ ≠ (s_.1 : Value).ownBlock ∧ some k_ ≠ (s_.2.2 : Value).ownBlock ∧ k_ ≠ gb1351 ∧ k_ ≠ gb1359) (.slice Ao21 t1361.length co21) t1361) ∧ (Kd.V (Kd.int .u32) 48 w' w.heap.size (fun k_ => (P0_ k_ ∨ w.heap.size ≤ k_) ∧ some k_ ≠ (s_.1 : Value).ownBlock ∧ some k_ ≠ (s_.2.2 : Value).ownBlock ∧ k_ ≠ gb1351 ∧ k_ ≠ gb1359) (.slice Ao22 t1364.length co22) t1364) ∧ (Kd.N (Kd.slice 48 (Kd.int .u32)) 42 w' w.heap.size (fun k_ => (P0_ k_ ∨ w.heap.size ≤ k_) ∧ some k_ ≠ (s_.2.2 : Value).ownBlock ∧ k_ ≠ gb1351 ∧ k_ ≠ gb1359) s_.1 y1367) ∧ (Kd.V (Kd.int .u32) 48 w' w.heap.size (fun k_ => (P0_ k_ ∨ w.heap.size ≤ k_) ∧ some k_ ≠ (s_.1 : Value).ownBlock ∧ some k_ ≠ (s_.2.2 : Value).ownBlock ∧ k_ ≠ gb1351 ∧ k_ ≠ gb1359) s_.2.1 t1370) ∧ (Kd.N (Kd.slice 48 (Kd.int .u32)) 42 w' w.heap.size (fun k_ => (P0_ k_ ∨ w.heap.size ≤ k_) ∧ some k_ ≠ (s_.1 : Value).ownBlock ∧ k_ ≠ gb1351 ∧ k_ ≠ gb1359) s_.2.2 y1373) ∧ (Kd.V k67 67 w' w.heap.size (fun k_ => (P0_ k_ ∨ w.heap.size ≤ k_) ∧ some k_ ≠ (s_.1 : Value).ownBlock ∧ some k_ ≠ (s_.2.2 : Value).ownBlock ∧ k_ ≠ gb1351 ∧ k_ ≠ gb1359) (.slice (some ad1358) l0.length c0) l0) ∧ (Kd.V (Kd.int .u32) 48 w' w.heap.size (fun k_ => (P0_ k_ ∨ w.heap.size ≤ k_) ∧ some k_ ≠ (s_.1 : Value).ownBlock ∧ some k_ ≠ (s_.2.2 : Value).ownBlock ∧ k_ ≠ gb1351 ∧ k_ ≠ gb1359) (.slice Ao25 x4_1.length co25) x4_1) ∧ (Kd.V (Kd.int .u32) 48 w' w.heap.size (fun k_ => (P0_ k_ ∨ w.heap.size ≤ k_) ∧ some k_ ≠ (s_.1 : Value).ownBlock ∧ some k_ ≠ (s_.2.2 : Value).ownBlock ∧ k_ ≠ gb1351 ∧ k_ ≠ gb1359) (.slice AoX5 x5_1.length coX5) x5_1) ∧ (w'.heap[gb1351]? = some (.cells #[.bool false, .slice none 0 0, .slice none 0 0] 67 (0, 0))) ∧ (w'.heap[gb1359]? = some (.cells #[.bool t1360, .slice Ao21 t1361.length co21, .slice Ao22 t1364.length co22] 67 (0, 0))) ∧ (Below w.heap.size w w')) ?_ ?_
           rotate_left
           ·
            intro hJ7_8_12
            refine join_ (σ := Value × Value × Nat) 4 #[true, true, true, true, true, true, true, true, true, true, true, true, false, false, false, true, false] (fun s_ => [(26, s_.1), (27, s_.2.1), (8, .pointer (some ⟨s_.2.2, 0, none⟩))]) (fun s_ w' => (w'.cell? ⟨gb1359, 0, none⟩ = some (.bool t1360) ∧ w'.cell? ⟨gb1359, 1, none⟩ = some (.slice Ao21 t1361.length co21) ∧ w'.cell? ⟨gb1359, 2, none⟩ = some (.slice Ao22 t1364.length co22)) ∧ (Kd.V (Kd.int .u32) 48 w' w.heap.size (fun k_ => (P0_ k_ ∨ w.heap.size ≤ k_) ∧ some k_ ≠ (s_.1 : Value).ownBlock ∧ k_ ≠ gb1351 ∧ k_ ≠ gb1359 ∧ k_ ≠ s_.2.2) (.slice A1358_1 ((rd_T67 l0 x13_1).f1).length c1358_1) ((rd_T67 l0 x13_1).f1)) ∧ (Kd.V (Kd.int .u32) 48 w' w.heap.size (fun k_ => (P0_ k_ ∨ w.heap.size ≤ k_) ∧ some k_ ≠ (s_.1 : Value).ownBlock ∧ k_ ≠ gb1351 ∧ k_ ≠ gb1359 ∧ k_ ≠ s_.2.2) (.slice A1358_2 ((rd_T67 l0 x13_1).f2).length c1358_2) ((rd_T67 l0 x13_1).f2)) ∧ (Kd.V (Kd.int .u32) 48 w' w.heap.size (fun k_ => (P0_ k_ ∨ w.heap.size ≤ k_) ∧ some k_ ≠ (s_.1 : Value).ownBlock ∧ k_ ≠ gb1351 ∧ k_ ≠ gb1359 ∧ k_ ≠ s_.2.2) (.slice Ao21 t1361.length co21) t1361) ∧ (Kd.V (Kd.int .u32) 48 w' w.heap.size (fun k_ => (P0_ k_ ∨ w.heap.size ≤ k_) ∧ some k_ ≠ (s_.1 : Value).ownBlock ∧ k_ ≠ gb1351 ∧ k_ ≠ gb1359 ∧ k_ ≠ s_.2.2) (.slice Ao22 t1364.length co22) t1364) ∧ (Kd.N (Kd.slice 48 (Kd.int .u32)) 42 w' w.heap.size (fun k_ => (P0_ k_ ∨ w.heap.size ≤ k_) ∧ k_ ≠ gb1351 ∧ k_ ≠ gb1359 ∧ k_ ≠ s_.2.2) s_.1 y1367) ∧ (Kd.V (Kd.int .u32) 48 w' w.heap.size (fun k_ => (P0_ k_ ∨ w.heap.size ≤ k_) ∧ some k_ ≠ (s_.1 : Value).ownBlock ∧ k_ ≠ gb1351 ∧ k_ ≠ gb1359 ∧ k_ ≠ s_.2.2) s_.2.1 t1370) ∧ (Kd.V k67 67 w' w.heap.size (fun k_ => (P0_ k_ ∨ w.heap.size ≤ k_) ∧ some k_ ≠ (s_.1 : Value).ownBlock ∧ k_ ≠ gb1351 ∧ k_ ≠ gb1359 ∧ k_ ≠ s_.2.2) (.slice (some ad1358) l0.length c0) l0) ∧ (Kd.V (Kd.int .u32) 48 w' w.heap.size (fun k_ => (P0_ k_ ∨ w.heap.size ≤ k_) ∧ some k_ ≠ (s_.1 : Value).ownBlock ∧ k_ ≠ gb1351 ∧ k_ ≠ gb1359 ∧ k_ ≠ s_.2.2) (.slice Ao25 x4_1.length co25) x4_1) ∧ (Kd.V (Kd.int .u32) 48 w' w.heap.size (fun k_ => (P0_ k_ ∨ w.heap.size ≤ k_) ∧ some k_ ≠ (s_.1 : Value).ownBlock ∧ k_ ≠ gb1351 ∧ k_ ≠ gb1359 ∧ k_ ≠ s_.2.2) (.slice AoX5 x5_1.length coX5) x5_1) ∧ (w'.heap[gb1351]? = some (.cells #[.bool false, .slice none 0 0, .slice none 0 0] 67 (0, 0))) ∧ (w'.heap[gb1359]? = some (.cells #[.bool t1360, .slice Ao21 t1361.length co21, .slice Ao22 t1364.length co22] 67 (0, 0))) ∧ (w'.heap[s_.2.2]? = some (.cells #[.bool false, .slice none 0 0, .slice none 0 0] 67 (0, 0))) ∧ (w.heap.size ≤ s_.2.2) ∧ (w.heap.size ≤ s_.2.2) ∧ (gb1351 ≠ s_.2.2) ∧ (s_.2.2 ≠ gb1351) ∧ (gb1359 ≠ s_.2.2) ∧ (s_.2.2 ≠ gb1359) ∧ (Below w.heap.size w w')) ?_ ?_
            rotate_left
            ·
             intro hJ7_8_15
             refine join_ (σ := Value × Value × Nat) 4 #[true, true, true, true, true, true, true, true, false, true, true, true, true, false, false, true, false] (fun s_ => [(26, s_.1), (31, s_.2.1), (8, .pointer (some ⟨s_.2.2, 0, none⟩))]) (fun s_ w' => (w'.cell? ⟨gb1359, 0, none⟩ = some (.bool t1360) ∧ w'.cell? ⟨gb1359, 1, none⟩ = some (.slice Ao21 t1361.length co21) ∧ w'.cell? ⟨gb1359, 2, none⟩ = some (.slice Ao22 t1364.length co22)) ∧ (Kd.V (Kd.int .u32) 48 w' w.heap.size (fun k_ => (P0_ k_ ∨ w.heap.size ≤ k_) ∧ some k_ ≠ (s_.1 : Value).ownBlock ∧ some k_ ≠ (s_.2.1 : Value).ownBlock ∧ k_ ≠ gb1351 ∧ k_ ≠ gb1359 ∧ k_ ≠ s_.2.2) (.slice A1358_1 ((rd_T67 l0 x13_1).f1).length c1358_1) ((rd_T67 l0 x13_1).f1)) ∧ (Kd.V (Kd.int .u32) 48 w' w.heap.size (fun k_ => (P0_ k_ ∨ w.heap.size ≤ k_) ∧ some k_ ≠ (s_.1 : Value).ownBlock ∧ some k_ ≠ (s_.2.1 : Value).ownBlock ∧ k_ ≠ gb1351 ∧ k_ ≠ gb1359 ∧ k_ ≠ s_.2.2) (.slice A1358_2 ((rd_T67 l0 x13_1).f2).length c1358_2) ((rd_T67 l0 x13_1).f2)) ∧ (Kd.V (Kd.int .u32) 48 w' w.heap.size (fun k_ => (P0_ k_ ∨ w.heap.size ≤ k_) ∧ some k_ ≠ (s_.1 : Value).ownBlock ∧ some k_ ≠ (s_.2.1 : Value).ownBlock ∧ k_ ≠ gb1351 ∧ k_ ≠ gb1359 ∧ k_ ≠ s_.2.2) (.slice Ao21 t1361.length co21) t1361) ∧ (Kd.V (Kd.int .u32) 48 w' w.heap.size (fun k_ => (P0_ k_ ∨ w.heap.size ≤ k_) ∧ some k_ ≠ (s_.1 : Value).ownBlock ∧ some k_ ≠ (s_.2.1 : Value).ownBlock ∧ k_ ≠ gb1351 ∧ k_ ≠ gb1359 ∧ k_ ≠ s_.2.2) (.slice Ao22 t1364.length co22) t1364) ∧ (Kd.N (Kd.slice 48 (Kd.int .u32)) 42 w' w.heap.size (fun k_ => (P0_ k_ ∨ w.heap.size ≤ k_) ∧ some k_ ≠ (s_.2.1 : Value).ownBlock ∧ k_ ≠ gb1351 ∧ k_ ≠ gb1359 ∧ k_ ≠ s_.2.2) s_.1 y1367) ∧ (Kd.N (Kd.slice 48 (Kd.int .u32)) 42 w' w.heap.size (fun k_ => (P0_ k_ ∨ w.heap.size ≤ k_) ∧ some k_ ≠ (s_.1 : Value).ownBlock ∧ k_ ≠ gb1351 ∧ k_ ≠ gb1359 ∧ k_ ≠ s_.2.2) s_.2.1 y1373) ∧ (Kd.V k67 67 w' w.heap.size (fun k_ => (P0_ k_ ∨ w.heap.size ≤ k_) ∧ some k_ ≠ (s_.1 : Value).ownBlock ∧ some k_ ≠ (s_.2.1 : Value).ownBlock ∧ k_ ≠ gb1351 ∧ k_ ≠ gb1359 ∧ k_ ≠ s_.2.2) (.slice (some ad1358) l0.length c0) l0) ∧ (Kd.V (Kd.int .u32) 48 w' w.heap.size (fun k_ => (P0_ k_ ∨ w.heap.size ≤ k_) ∧ some k_ ≠ (s_.1 : Value).ownBlock ∧ some k_ ≠ (s_.2.1 : Value).ownBlock ∧ k_ ≠ gb1351 ∧ k_ ≠ gb1359 ∧ k_ ≠ s_.2.2) (.slice Ao25 x4_1.length co25) x4_1) ∧ (Kd.V (Kd.int .u32) 48 w' w.heap.size (fun k_ => (P0_ k_ ∨ w.heap.size ≤ k_) ∧ some k_ ≠ (s_.1 : Value).ownBlock ∧ some k_ ≠ (s_.2.1 : Value).ownBlock ∧ k_ ≠ gb1351 ∧ k_ ≠ gb1359 ∧ k_ ≠ s_.2.2) (.slice AoX5 x5_1.length coX5) x5_1) ∧ (w'.heap[gb1351]? = some (.cells #[.bool false, .slice none 0 0, .slice none 0 0] 67 (0, 0))) ∧ (w'.heap[gb1359]? = some (.cells #[.bool t1360, .slice Ao21 t1361.length co21, .slice Ao22 t1364.length co22] 67 (0, 0))) ∧ (w'.heap[s_.2.2]? = some (.cells #[.bool false, .slice none 0 0, .slice none 0 0] 67 (0, 0))) ∧ (w.heap.size ≤ s_.2.2) ∧ (w.heap.size ≤ s_.2.2) ∧ (gb1351 ≠ s_.2.2) ∧ (s_.2.2 ≠ gb1351) ∧ (gb1359 ≠ s_.2.2) ∧ (s_.2.2 ≠ gb1359) ∧ (Below w.heap.size w w')) ?_ ?_
             rotate_left
             ·
              intro hJ7_12_15
              refine join_ (σ := Value × Value) 5 #[true, true, true, true, true, true, true, true, true, true, true, true, false, false, false, false, false] (fun s_ => [(26, s_.1), (27, s_.2)]) (fun s_ w' => (w'.cell? ⟨gb1359, 0, none⟩ = some (.bool t1360) ∧ w'.cell? ⟨gb1359, 1, none⟩ = some (.slice Ao21 t1361.length co21) ∧ w'.cell? ⟨gb1359, 2, none⟩ = some (.slice Ao22 t1364.length co22)) ∧ (Kd.V (Kd.int .u32) 48 w' w.heap.size (fun k_ => (P0_ k_ ∨ w.heap.size ≤ k_) ∧ some k_ ≠ (s_.1 : Value).ownBlock ∧ k_ ≠ gb1351 ∧ k_ ≠ gb1359) (.slice A1358_1 ((rd_T67 l0 x13_1).f1).length c1358_1) ((rd_T67 l0 x13_1).f1)) ∧ (Kd.V (Kd.int .u32) 48 w' w.heap.size (fun k_ => (P0_ k_ ∨ w.heap.size ≤ k_) ∧ some k_ ≠ (s_.1 : Value).ownBlock ∧ k_ ≠ gb1351 ∧ k_ ≠ gb1359) (.slice A1358_2 ((rd_T67 l0 x13_1).f2).length c1358_2) ((rd_T67 l0 x13_1).f2)) ∧ (Kd.V (Kd.int .u32) 48 w' w.heap.size (fun k_ => (P0_ k_ ∨ w.heap.size ≤ k_) ∧ some k_ ≠ (s_.1 : Value).ownBlock ∧ k_ ≠ gb1351 ∧ k_ ≠ gb1359) (.slice Ao21 t1361.length co21) t1361) ∧ (Kd.V (Kd.int .u32) 48 w' w.heap.size (fun k_ => (P0_ k_ ∨ w.heap.size ≤ k_) ∧ some k_ ≠ (s_.1 : Value).ownBlock ∧ k_ ≠ gb1351 ∧ k_ ≠ gb1359) (.slice Ao22 t1364.length co22) t1364) ∧ (Kd.N (Kd.slice 48 (Kd.int .u32)) 42 w' w.heap.size (fun k_ => (P0_ k_ ∨ w.heap.size ≤ k_) ∧ k_ ≠ gb1351 ∧ k_ ≠ gb1359) s_.1 y1367) ∧ (Kd.V (Kd.int .u32) 48 w' w.heap.size (fun k_ => (P0_ k_ ∨ w.heap.size ≤ k_) ∧ some k_ ≠ (s_.1 : Value).ownBlock ∧ k_ ≠ gb1351 ∧ k_ ≠ gb1359) s_.2 t1370) ∧ (Kd.V k67 67 w' w.heap.size (fun k_ => (P0_ k_ ∨ w.heap.size ≤ k_) ∧ some k_ ≠ (s_.1 : Value).ownBlock ∧ k_ ≠ gb1351 ∧ k_ ≠ gb1359) (.slice (some ad1358) l0.length c0) l0) ∧ (Kd.V (Kd.int .u32) 48 w' w.heap.size (fun k_ => (P0_ k_ ∨ w.heap.size ≤ k_) ∧ some k_ ≠ (s_.1 : Value).ownBlock ∧ k_ ≠ gb1351 ∧ k_ ≠ gb1359) (.slice Ao25 x4_1.length co25) x4_1) ∧ (Kd.V (Kd.int .u32) 48 w' w.heap.size (fun k_ => (P0_ k_ ∨ w.heap.size ≤ k_) ∧ some k_ ≠ (s_.1 : Value).ownBlock ∧ k_ ≠ gb1351 ∧ k_ ≠ gb1359) (.slice AoX5 x5_1.length coX5) x5_1) ∧ (w'.heap[gb1351]? = some (.cells #[.bool false, .slice none 0 0, .slice none 0 0] 67 (0, 0))) ∧ (w'.heap[gb1359]? = some (.cells #[.bool t1360, .slice Ao21 t1361.length co21, .slice Ao22 t1364.length co22] 67 (0, 0))) ∧ (Below w.heap.size w w')) ?_ ?_
              rotate_left
              ·
               intro hJ7_8
               refine join_ (σ := Value × Value) 5 #[true, true, true, true, true, true, true, true, false, true, true, true, true, false, false, false, false] (fun s_ => [(26, s_.1), (31, s_.2)]) (fun s_ w' => (w'.cell? ⟨gb1359, 0, none⟩ = some (.bool t1360) ∧ w'.cell? ⟨gb1359, 1, none⟩ = some (.slice Ao21 t1361.length co21) ∧ w'.cell? ⟨gb1359, 2, none⟩ = some (.slice Ao22 t1364.length co22)) ∧ (Kd.V (Kd.int .u32) 48 w' w.heap.size (fun k_ => (P0_ k_ ∨ w.heap.size ≤ k_) ∧ some k_ ≠ (s_.1 : Value).ownBlock ∧ some k_ ≠ (s_.2 : Value).ownBlock ∧ k_ ≠ gb1351 ∧ k_ ≠ gb1359) (.slice A1358_1 ((rd_T67 l0 x13_1).f1).length c1358_1) ((rd_T67 l0 x13_1).f1)) ∧ (Kd.V (Kd.int .u32) 48 w' w.heap.size (fun k_ => (P0_ k_ ∨ w.heap.size ≤ k_) ∧ some k_ ≠ (s_.1 : Value).ownBlock ∧ some k_ ≠ (s_.2 : Value).ownBlock ∧ k_ ≠ gb1351 ∧ k_ ≠ gb1359) (.slice A1358_2 ((rd_T67 l0 x13_1).f2).length c1358_2) ((rd_T67 l0 x13_1).f2)) ∧ (Kd.V (Kd.int .u32) 48 w' w.heap.size (fun k_ => (P0_ k_ ∨ w.heap.size ≤ k_) ∧ some k_ ≠ (s_.1 : Value).ownBlock ∧ some k_ ≠ (s_.2 : Value).ownBlock ∧ k_ ≠ gb1351 ∧ k_ ≠ gb1359) (.slice Ao21 t1361.length co21) t1361) ∧ (Kd.V (Kd.int .u32) 48 w' w.heap.size (fun k_ => (P0_ k_ ∨ w.heap.size ≤ k_) ∧ some k_ ≠ (s_.1 : Value).ownBlock ∧ some k_ ≠ (s_.2 : Value).ownBlock ∧ k_ ≠ gb1351 ∧ k_ ≠ gb1359) (.slice Ao22 t1364.length co22) t1364) ∧ (Kd.N (Kd.slice 48 (Kd.int .u32)) 42 w' w.heap.size (fun k_ => (P0_ k_ ∨ w.heap.size ≤ k_) ∧ some k_ ≠ (s_.2 : Value).ownBlock ∧ k_ ≠ gb1351 ∧ k_ ≠ gb1359) s_.1 y1367) ∧ (Kd.N (Kd.slice 48 (Kd.int .u32)) 42 w' w.heap.size (fun k_ => (P0_ k_ ∨ w.heap.size ≤ k_) ∧ some k_ ≠ (s_.1 : Value).ownBlock ∧ k_ ≠ gb1351 ∧ k_ ≠ gb1359) s_.2 y1373) ∧ (Kd.V k67 67 w' w.heap.size (fun k_ => (P0_ k_ ∨ w.heap.size ≤ k_) ∧ some k_ ≠ (s_.1 : Value).ownBlock ∧ some k_ ≠ (s_.2 : Value).ownBlock ∧ k_ ≠ gb1351 ∧ k_ ≠ gb1359) (.slice (some ad1358) l0.length c0) l0) ∧ (Kd.V (Kd.int .u32) 48 w' w.heap.size (fun k_ => (P0_ k_ ∨ w.heap.size ≤ k_) ∧ some k_ ≠ (s_.1 : Value).ownBlock ∧ some k_ ≠ (s_.2 : Value).ownBlock ∧ k_ ≠ gb1351 ∧ k_ ≠ gb1359) (.slice Ao25 x4_1.length co25) x4_1) ∧ (Kd.V (Kd.int .u32) 48 w' w.heap.size (fun k_ => (P0_ k_ ∨ w.heap.size ≤ k_) ∧ some k_ ≠ (s_.1 : Value).ownBlock ∧ some k_ ≠ (s_.2 : Value).ownBlock ∧ k_ ≠ gb1351 ∧ k_ ≠ gb1359) (.slice AoX5 x5_1.length coX5) x5_1) ∧ (w'.heap[gb1351]? = some (.cells #[.bool false, .slice none 0 0, .slice none 0 0] 67 (0, 0))) ∧ (w'.heap[gb1359]? = some (.cells #[.bool t1360, .slice Ao21 t1361.length co21, .slice Ao22 t1364.length co22] 67 (0, 0))) ∧ (Below w.heap.size w w')) ?_ ?_
               rotate_left
               ·
                intro hJ7_12
                refine join_ (σ := Value × Nat) 5 #[true, true, true, true, true, true, true, true, false, true, true, true, false, false, false, true, false] (fun s_ => [(26, s_.1), (8, .pointer (some ⟨s_.2, 0, none⟩))]) (fun s_ w' => (w'.cell? ⟨gb1359, 0, none⟩ = some (.bool t1360) ∧ w'.cell? ⟨gb1359, 1, none⟩ = some (.slice Ao21 t1361.length co21) ∧ w'.cell? ⟨gb1359, 2, none⟩ = some (.slice Ao22 t1364.length co22)) ∧ (Kd.V (Kd.int .u32) 48 w' w.heap.size (fun k_ => (P0_ k_ ∨ w.heap.size ≤ k_) ∧ some k_ ≠ (s_.1 : Value).ownBlock ∧ k_ ≠ gb1351 ∧ k_ ≠ gb1359 ∧ k_ ≠ s_.2) (.slice A1358_1 ((rd_T67 l0 x13_1).f1).length c1358_1) ((rd_T67 l0 x13_1).f1)) ∧ (Kd.V (Kd.int .u32) 48 w' w.heap.size (fun k_ => (P0_ k_ ∨ w.heap.size ≤ k_) ∧ some k_ ≠ (s_.1 : Value).ownBlock ∧ k_ ≠ gb1351 ∧ k_ ≠ gb1359 ∧ k_ ≠ s_.2) (.slice A1358_2 ((rd_T67 l0 x13_1).f2).length c1358_2) ((rd_T67 l0 x13_1).f2)) ∧ (Kd.V (Kd.int .u32) 48 w' w.heap.size (fun k_ => (P0_ k_ ∨ w.heap.size ≤ k_) ∧ some k_ ≠ (s_.1 : Value).ownBlock ∧ k_ ≠ gb1351 ∧ k_ ≠ gb1359 ∧ k_ ≠ s_.2) (.slice Ao21 t1361.length co21) t1361) ∧ (Kd.V (Kd.int .u32) 48 w' w.heap.size (fun k_ => (P0_ k_ ∨ w.heap.size ≤ k_) ∧ some k_ ≠ (s_.1 : Value).ownBlock ∧ k_ ≠ gb1351 ∧ k_ ≠ gb1359 ∧ k_ ≠ s_.2) (.slice Ao22 t1364.length co22) t1364) ∧ (Kd.N (Kd.slice 48 (Kd.int .u32)) 42 w' w.heap.size (fun k_ => (P0_ k_ ∨ w.heap.size ≤ k_) ∧ k_ ≠ gb1351 ∧ k_ ≠ gb1359 ∧ k_ ≠ s_.2) s_.1 y1367) ∧ (Kd.V k67 67 w' w.heap.size (fun k_ => (P0_ k_ ∨ w.heap.size ≤ k_) ∧ some k_ ≠ (s_.1 : Value).ownBlock ∧ k_ ≠ gb1351 ∧ k_ ≠ gb1359 ∧ k_ ≠ s_.2) (.slice (some ad1358) l0.length c0) l0) ∧ (Kd.V (Kd.int .u32) 48 w' w.heap.size (fun k_ => (P0_ k_ ∨ w.heap.size ≤ k_) ∧ some k_ ≠ (s_.1 : Value).ownBlock ∧ k_ ≠ gb1351 ∧ k_ ≠ gb1359 ∧ k_ ≠ s_.2) (.slice Ao25 x4_1.length co25) x4_1) ∧ (Kd.V (Kd.int .u32) 48 w' w.heap.size (fun k_ => (P0_ k_ ∨ w.heap.size ≤ k_) ∧ some k_ ≠ (s_.1 : Value).ownBlock ∧ k_ ≠ gb1351 ∧ k_ ≠ gb1359 ∧ k_ ≠ s_.2) (.slice AoX5 x5_1.length coX5) x5_1) ∧ (w'.heap[gb1351]? = some (.cells #[.bool false, .slice none 0 0, .slice none 0 0] 67 (0, 0))) ∧ (w'.heap[gb1359]? = some (.cells #[.bool t1360, .slice Ao21 t1361.length co21, .slice Ao22 t1364.length co22] 67 (0, 0))) ∧ (w'.heap[s_.2]? = some (.cells #[.bool false, .slice none 0 0, .slice none 0 0] 67 (0, 0))) ∧ (w.heap.size ≤ s_.2) ∧ (w.heap.size ≤ s_.2) ∧ (gb1351 ≠ s_.2) ∧ (s_.2 ≠ gb1351) ∧ (gb1359 ≠ s_.2) ∧ (s_.2 ≠ gb1359) ∧ (Below w.heap.size w w')) ?_ ?_
                rotate_left
                ·
                 intro hJ7_15
                 refine join_ (σ := Value × Nat) 5 #[true, true, true, true, true, true, true, false, false, true, true, true, true, false, false, true, false] (fun s_ => [(31, s_.1), (8, .pointer (some ⟨s_.2, 0, none⟩))]) (fun s_ w' => (w'.cell? ⟨gb1359, 0, none⟩ = some (.bool t1360) ∧ w'.cell? ⟨gb1359, 1, none⟩ = some (.slice Ao21 t1361.length co21) ∧ w'.cell? ⟨gb1359, 2, none⟩ = some (.slice Ao22 t1364.length co22)) ∧ (Kd.V (Kd.int .u32) 48 w' w.heap.size (fun k_ => (P0_ k_ ∨ w.heap.size ≤ k_) ∧ some k_ ≠ (s_.1 : Value).ownBlock ∧ k_ ≠ gb1351 ∧ k_ ≠ gb1359 ∧ k_ ≠ s_.2) (.slice A1358_1 ((rd_T67 l0 x13_1).f1).length c1358_1) ((rd_T67 l0 x13_1).f1)) ∧ (Kd.V (Kd.int .u32) 48 w' w.heap.size (fun k_ => (P0_ k_ ∨ w.heap.size ≤ k_) ∧ some k_ ≠ (s_.1 : Value).ownBlock ∧ k_ ≠ gb1351 ∧ k_ ≠ gb1359 ∧ k_ ≠ s_.2) (.slice A1358_2 ((rd_T67 l0 x13_1).f2).length c1358_2) ((rd_T67 l0 x13_1).f2)) ∧ (Kd.V (Kd.int .u32) 48 w' w.heap.size (fun k_ => (P0_ k_ ∨ w.heap.size ≤ k_) ∧ some k_ ≠ (s_.1 : Value).ownBlock ∧ k_ ≠ gb1351 ∧ k_ ≠ gb1359 ∧ k_ ≠ s_.2) (.slice Ao21 t1361.length co21) t1361) ∧ (Kd.V (Kd.int .u32) 48 w' w.heap.size (fun k_ => (P0_ k_ ∨ w.heap.size ≤ k_) ∧ some k_ ≠ (s_.1 : Value).ownBlock ∧ k_ ≠ gb1351 ∧ k_ ≠ gb1359 ∧ k_ ≠ s_.2) (.slice Ao22 t1364.length co22) t1364) ∧ (Kd.N (Kd.slice 48 (Kd.int .u32)) 42 w' w.heap.size (fun k_ => (P0_ k_ ∨ w.heap.size ≤ k_) ∧ k_ ≠ gb1351 ∧ k_ ≠ gb1359 ∧ k_ ≠ s_.2) s_.1 y1373) ∧ (Kd.V k67 67 w' w.heap.size (fun k_ => (P0_ k_ ∨ w.heap.size ≤ k_) ∧ some k_ ≠ (s_.1 : Value).ownBlock ∧ k_ ≠ gb1351 ∧ k_ ≠ gb1359 ∧ k_ ≠ s_.2) (.slice (some ad1358) l0.length c0) l0) ∧ (Kd.V (Kd.int .u32) 48 w' w.heap.size (fun k_ => (P0_ k_ ∨ w.heap.size ≤ k_) ∧ some k_ ≠ (s_.1 : Value).ownBlock ∧ k_ ≠ gb1351 ∧ k_ ≠ gb1359 ∧ k_ ≠ s_.2) (.slice Ao25 x4_1.length co25) x4_1) ∧ (Kd.V (Kd.int .u32) 48 w' w.heap.size (fun k_ => (P0_ k_ ∨ w.heap.size ≤ k_) ∧ some k_ ≠ (s_.1 : Value).ownBlock ∧ k_ ≠ gb1351 ∧ k_ ≠ gb1359 ∧ k_ ≠ s_.2) (.slice AoX5 x5_1.length coX5) x5_1) ∧ (w'.heap[gb1351]? = some (.cells #[.bool false, .slice none 0 0, .slice none 0 0] 67 (0, 0))) ∧ (w'.heap[gb1359]? = some (.cells #[.bool t1360, .slice Ao21 t1361.length co21, .slice Ao22 t1364.length co22] 67 (0, 0))) ∧ (w'.heap[s_.2]? = some (.cells #[.bool false, .slice none 0 0, .slice none 0 0] 67 (0, 0))) ∧ (w.heap.size ≤ s_.2) ∧ (w.heap.size ≤ s_.2) ∧ (gb1351 ≠ s_.2) ∧ (s_.2 ≠ gb1351) ∧ (gb1359 ≠ s_.2) ∧ (s_.2 ≠ gb1359) ∧ (Below w.heap.size w w')) ?_ ?_
                 rotate_left
                 ·
                  intro hJ12_15
                  refine join_ (σ := Value) 6 #[true, true, true, true, true, true, true, true, false, true, true, true, false, false, false, false, false] (fun s_ => [(26, s_)]) (fun s_ w' => (w'.cell? ⟨gb1359, 0, none⟩ = some (.bool t1360) ∧ w'.cell? ⟨gb1359, 1, none⟩ = some (.slice Ao21 t1361.length co21) ∧ w'.cell? ⟨gb1359, 2, none⟩ = some (.slice Ao22 t1364.length co22)) ∧ (Kd.V (Kd.int .u32) 48 w' w.heap.size (fun k_ => (P0_ k_ ∨ w.heap.size ≤ k_) ∧ some k_ ≠ (s_ : Value).ownBlock ∧ k_ ≠ gb1351 ∧ k_ ≠ gb1359) (.slice A1358_1 ((rd_T67 l0 x13_1).f1).length c1358_1) ((rd_T67 l0 x13_1).f1)) ∧ (Kd.V (Kd.int .u32) 48 w' w.heap.size (fun k_ => (P0_ k_ ∨ w.heap.size ≤ k_) ∧ some k_ ≠ (s_ : Value).ownBlock ∧ k_ ≠ gb1351 ∧ k_ ≠ gb1359) (.slice A1358_2 ((rd_T67 l0 x13_1).f2).length c1358_2) ((rd_T67 l0 x13_1).f2)) ∧ (Kd.V (Kd.int .u32) 48 w' w.heap.size (fun k_ => (P0_ k_ ∨ w.heap.size ≤ k_) ∧ some k_ ≠ (s_ : Value).ownBlock ∧ k_ ≠ gb1351 ∧ k_ ≠ gb1359) (.slice Ao21 t1361.length co21) t1361) ∧ (Kd.V (Kd.int .u32) 48 w' w.heap.size (fun k_ => (P0_ k_ ∨ w.heap.size ≤ k_) ∧ some k_ ≠ (s_ : Value).ownBlock ∧ k_ ≠ gb1351 ∧ k_ ≠ gb1359) (.slice Ao22 t1364.length co22) t1364) ∧ (Kd.N (Kd.slice 48 (Kd.int .u32)) 42 w' w.heap.size (fun k_ => (P0_ k_ ∨ w.heap.size ≤ k_) ∧ k_ ≠ gb1351 ∧ k_ ≠ gb1359) s_ y1367) ∧ (Kd.V k67 67 w' w.heap.size (fun k_ => (P0_ k_ ∨ w.heap.size ≤ k_) ∧ some k_ ≠ (s_ : Value).ownBlock ∧ k_ ≠ gb1351 ∧ k_ ≠ gb1359) (.slice (some ad1358) l0.length c0) l0) ∧ (Kd.V (Kd.int .u32) 48 w' w.heap.size (fun k_ => (P0_ k_ ∨ w.heap.size ≤ k_) ∧ some k_ ≠ (s_ : Value).ownBlock ∧ k_ ≠ gb1351 ∧ k_ ≠ gb1359) (.slice Ao25 x4_1.length co25) x4_1) ∧ (Kd.V (Kd.int .u32) 48 w' w.heap.size (fun k_ => (P0_ k_ ∨ w.heap.size ≤ k_) ∧ some k_ ≠ (s_ : Value).ownBlock ∧ k_ ≠ gb1351 ∧ k_ ≠ gb1359) (.slice AoX5 x5_1.length coX5) x5_1) ∧ (w'.heap[gb1351]? = some (.cells #[.bool false, .slice none 0 0, .slice none 0 0] 67 (0, 0))) ∧ (w'.heap[gb1359]? = some (.cells #[.bool t1360, .slice Ao21 t1361.length co21, .slice Ao22 t1364.length co22] 67 (0, 0))) ∧ (Below w.heap.size w w')) ?_ ?_
                  rotate_left
                  ·
                   intro hJ7
                   refine join_ (σ := Value) 6 #[true, true, true, true, true, true, true, false, false, true, true, true, true, false, false, false, false] (fun s_ => [(31, s_)]) (fun s_ w' => (w'.cell? ⟨gb1359, 0, none⟩ = some (.bool t1360) ∧ w'.cell? ⟨gb1359, 1, none⟩ = some (.slice Ao21 t1361.length co21) ∧ w'.cell? ⟨gb1359, 2, none⟩ = some (.slice Ao22 t1364.length co22)) ∧ (Kd.V (Kd.int .u32) 48 w' w.heap.size (fun k_ => (P0_ k_ ∨ w.heap.size ≤ k_) ∧ some k_ ≠ (s_ : Value).ownBlock ∧ k_ ≠ gb1351 ∧ k_ ≠ gb1359) (.slice A1358_1 ((rd_T67 l0 x13_1).f1).length c1358_1) ((rd_T67 l0 x13_1).f1)) ∧ (Kd.V (Kd.int .u32) 48 w' w.heap.size (fun k_ => (P0_ k_ ∨ w.heap.size ≤ k_) ∧ some k_ ≠ (s_ : Value).ownBlock ∧ k_ ≠ gb1351 ∧ k_ ≠ gb1359) (.slice A1358_2 ((rd_T67 l0 x13_1).f2).length c1358_2) ((rd_T67 l0 x13_1).f2)) ∧ (Kd.V (Kd.int .u32) 48 w' w.heap.size (fun k_ => (P0_ k_ ∨ w.heap.size ≤ k_) ∧ some k_ ≠ (s_ : Value).ownBlock ∧ k_ ≠ gb1351 ∧ k_ ≠ gb1359) (.slice Ao21 t1361.length co21) t1361) ∧ (Kd.V (Kd.int .u32) 48 w' w.heap.size (fun k_ => (P0_ k_ ∨ w.heap.size ≤ k_) ∧ some k_ ≠ (s_ : Value).ownBlock ∧ k_ ≠ gb1351 ∧ k_ ≠ gb1359) (.slice Ao22 t1364.length co22) t1364) ∧ (Kd.N (Kd.slice 48 (Kd.int .u32)) 42 w' w.heap.size (fun k_ => (P0_ k_ ∨ w.heap.size ≤ k_) ∧ k_ ≠ gb1351 ∧ k_ ≠ gb1359) s_ y1373) ∧ (Kd.V k67 67 w' w.heap.size (fun k_ => (P0_ k_ ∨ w.heap.size ≤ k_) ∧ some k_ ≠ (s_ : Value).ownBlock ∧ k_ ≠ gb1351 ∧ k_ ≠ gb1359) (.slice (some ad1358) l0.length c0) l0) ∧ (Kd.V (Kd.int .u32) 48 w' w.heap.size (fun k_ => (P0_ k_ ∨ w.heap.size ≤ k_) ∧ some k_ ≠ (s_ : Value).ownBlock ∧ k_ ≠ gb1351 ∧ k_ ≠ gb1359) (.slice Ao25 x4_1.length co25) x4_1) ∧ (Kd.V (Kd.int .u32) 48 w' w.heap.size (fun k_ => (P0_ k_ ∨ w.heap.size ≤ k_) ∧ some k_ ≠ (s_ : Value).ownBlock ∧ k_ ≠ gb1351 ∧ k_ ≠ gb1359) (.slice AoX5 x5_1.length coX5) x5_1) ∧ (w'.heap[gb1351]? = some (.cells #[.bool false, .slice none 0 0, .slice none 0 0] 67 (0, 0))) ∧ (w'.heap[gb1359]? = some (.cells #[.bool t1360, .slice Ao21 t1361.length co21, .slice Ao22 t1364.length co22] 67 (0, 0))) ∧ (Below w.heap.size w w')) ?_ ?_
                   rotate_left
                   ·
                    intro hJ12
                    refine join_ (σ := Nat) 6 #[true, true, true, true, true, true, true, false, false, true, true, true, false, false, false, true, false] (fun s_ => [(8, .pointer (some ⟨s_, 0, none⟩))]) (fun s_ w' => (w'.cell? ⟨gb1359, 0, none⟩ = some (.bool t1360) ∧ w'.cell? ⟨gb1359, 1, none⟩ = some (.slice Ao21 t1361.length co21) ∧ w'.cell? ⟨gb1359, 2, none⟩ = some (.slice Ao22 t1364.length co22)) ∧ (Kd.V (Kd.int .u32) 48 w' w.heap.size (fun k_ => (P0_ k_ ∨ w.heap.size ≤ k_) ∧ k_ ≠ gb1351 ∧ k_ ≠ gb1359 ∧ k_ ≠ s_) (.slice A1358_1 ((rd_T67 l0 x13_1).f1).length c1358_1) ((rd_T67 l0 x13_1).f1)) ∧ (Kd.V (Kd.int .u32) 48 w' w.heap.size (fun k_ => (P0_ k_ ∨ w.heap.size ≤ k_) ∧ k_ ≠ gb1351 ∧ k_ ≠ gb1359 ∧ k_ ≠ s_) (.slice A1358_2 ((rd_T67 l0 x13_1).f2).length c1358_2) ((rd_T67 l0 x13_1).f2)) ∧ (Kd.V (Kd.int .u32) 48 w' w.heap.size (fun k_ => (P0_ k_ ∨ w.heap.size ≤ k_) ∧ k_ ≠ gb1351 ∧ k_ ≠ gb1359 ∧ k_ ≠ s_) (.slice Ao21 t1361.length co21) t1361) ∧ (Kd.V (Kd.int .u32) 48 w' w.heap.size (fun k_ => (P0_ k_ ∨ w.heap.size ≤ k_) ∧ k_ ≠ gb1351 ∧ k_ ≠ gb1359 ∧ k_ ≠ s_) (.slice Ao22 t1364.length co22) t1364) ∧ (Kd.V k67 67 w' w.heap.size (fun k_ => (P0_ k_ ∨ w.heap.size ≤ k_) ∧ k_ ≠ gb1351 ∧ k_ ≠ gb1359 ∧ k_ ≠ s_) (.slice (some ad1358) l0.length c0) l0) ∧ (Kd.V (Kd.int .u32) 48 w' w.heap.size (fun k_ => (P0_ k_ ∨ w.heap.size ≤ k_) ∧ k_ ≠ gb1351 ∧ k_ ≠ gb1359 ∧ k_ ≠ s_) (.slice Ao25 x4_1.length co25) x4_1) ∧ (Kd.V (Kd.int .u32) 48 w' w.heap.size (fun k_ => (P0_ k_ ∨ w.heap.size ≤ k_) ∧ k_ ≠ gb1351 ∧ k_ ≠ gb1359 ∧ k_ ≠ s_) (.slice AoX5 x5_1.length coX5) x5_1) ∧ (w'.heap[gb1351]? = some (.cells #[.bool false, .slice none 0 0, .slice none 0 0] 67 (0, 0))) ∧ (w'.heap[gb1359]? = some (.cells #[.bool t1360, .slice Ao21 t1361.length co21, .slice Ao22 t1364.length co22] 67 (0, 0))) ∧ (w'.heap[s_]? = some (.cells #[.bool false, .slice none 0 0, .slice none 0 0] 67 (0, 0))) ∧ (w.heap.size ≤ s_) ∧ (w.heap.size ≤ s_) ∧ (gb1351 ≠ s_) ∧ (s_ ≠ gb1351) ∧ (gb1359 ≠ s_) ∧ (s_ ≠ gb1359) ∧ (Below w.heap.size w w')) ?_ ?_
                    rotate_left
                    ·
                     intro hJ15
                     refine three_ (i := 7) (j := 12) (k := 15) (Ni := some 26) (Nj := some 31) (Nk := some 8) #[true, true, true, true, true, true, true, true, false, true, true, true, false, false, false, false, false] #[true, true, true, true, true, true, true, false, false, true, true, true, true, false, false, false, false] #[true, true, true, true, true, true, true, false, false, true, true, true, false, false, false, true, false] rfl rfl rfl rfl rfl rfl (three_of HT_.out (by kernel_rfl)) (by decide) (by decide) (by decide) (fun K hK => ?_) (fun K hK => ?_) (fun K hK => ?_)
                     ·
                      skip
                      refine Kd.N_lit_step (Kd.slice 48 (Kd.int .u32)) _ 42 ?hg (N' := 26) ?hd (xs := ([x4_1, t1361] : List (List Int))) (inner := [.slice Ao25 x4_1.length co25, .slice Ao21 t1361.length co21]) (ok := (fun k_ => (P0_ k_ ∨ w.heap.size ≤ k_) ∧ k_ ≠ gb1351 ∧ k_ ≠ gb1359)) (okp := (fun k_ => (P0_ k_ ∨ w.heap.size ≤ k_) ∧ k_ ≠ gb1351 ∧ k_ ≠ gb1359)) ?hr ?hp (fun _ hk => hk) ((show ∀ k_, w24.heap.size ≤ k_ → (fun k_ => (P0_ k_ ∨ w.heap.size ≤ k_) ∧ k_ ≠ gb1351 ∧ k_ ≠ gb1359) k_ from fun k_ hk => ⟨(.inr (Nat.le_trans (below_size (bu2 HB.out GE1351.out GE1359.out)) hk)), Kd.freshB (g := gb1351) (o := .cells #[.bool false, .slice none 0 0, .slice none 0 0] 67 (0, 0)) (ku BK1351.out) k_ hk, Kd.freshB (g := gb1359) (o := .cells #[.bool t1360, .slice Ao21 t1361.length co21, .slice Ao22 t1364.length co22] 67 (0, 0)) (ku BK1359.out) k_ hk⟩) _ (Nat.le_refl _)) (Below.refl _ _) (Nat.le_refl _) (by simp) ?_; (case hd => rfl); (case hg => rfl); (case hr => first | (go_simp; done) | (go_simp; rfl)); (case hp => exact (Reps.one (show Kd.FK (Kd.slice 48 (Kd.int .u32)) _ _ x4_1 [.slice Ao25 x4_1.length co25] from (Kd.FK_slice_mk (Kd.V_reads' (vy ((fun k_ => (P0_ k_ ∨ w.heap.size ≤ k_) ∧ k_ ≠ gb1351 ∧ k_ ≠ gb1359)) HO_4.out)).2.1 (Kd.V_F (vy ((fun k_ => (P0_ k_ ∨ w.heap.size ≤ k_) ∧ k_ ≠ gb1351 ∧ k_ ≠ gb1359)) HO_4.out)))) (Reps.one (show Kd.FK (Kd.slice 48 (Kd.int .u32)) _ _ t1361 [.slice Ao21 t1361.length co21] from (Kd.FK_slice_mk (Kd.V_reads' (vy ((fun k_ => (P0_ k_ ∨ w.heap.size ≤ k_) ∧ k_ ≠ gb1351 ∧ k_ ≠ gb1359)) HO1363.out)).2.1 (Kd.V_F (vy ((fun k_ => (P0_ k_ ∨ w.heap.size ≤ k_) ∧ k_ ≠ gb1351 ∧ k_ ≠ gb1359)) HO1363.out)))) (Reps.none _ _))))
                      intro v1368 w26 ho27 hb hg_ hnew_
                      clear hg_ hnew_
                      (first | rw [← Ny1367.out] at ho27 | (simp only [Int.reduceToNat] at ho27; rw [← Ny1367.out] at ho27))
                      replace HO_4 := Aside0.mk (Kd.V_elder' (vu HO_4.out) (Kd.N_base ho27) hb)
                      replace HO_5 := Aside0.mk (Kd.V_elder' (vu HO_5.out) (Kd.N_base ho27) hb)
                      replace HO_11 := Aside0.mk (Kd.V_elder' (vu HO_11.out) (Kd.N_base ho27) hb)
                      replace HL1358_1 := Aside0.mk (Kd.V_elder' (vu HL1358_1.out) (Kd.N_base ho27) hb)
                      replace HL1358_2 := Aside0.mk (Kd.V_elder' (vu HL1358_2.out) (Kd.N_base ho27) hb)
                      replace HO1363 := Aside0.mk (Kd.V_elder' (vu HO1363.out) (Kd.N_base ho27) hb)
                      replace HO1366 := Aside0.mk (Kd.V_elder' (vu HO1366.out) (Kd.N_base ho27) hb)
                      have HO1369 := Aside0.mk (Kd.N_lower ho27 (below_size (bu2 HB.out GE1351.out GE1359.out)))
                      replace BK1351 := kb BK1351 hb
                      replace BK1359 := kb BK1359 hb
                      replace HB := Aside0.mk (below_step (bu2 HB.out GE1351.out GE1359.out) hb)
                      clear hb ho27
                      refine hK.out _ _ ⟨bc BK1359 0, bc BK1359 1, bc BK1359 2⟩ (fun hHeld => ?_)
                      clear hK K
                      refine nq 26 ?_
                      exact norm_ (by first | (simp only [putAll, Act.put, List.setIfInBounds_toArray, List.set_cons_zero, List.set_cons_succ]; done) | (simp only [putAll, Act.put, List.setIfInBounds_toArray, List.set_cons_zero, List.set_cons_succ]; rfl)) (hJ7 (v1368) _ ⟨hHeld, (vz HL1358_1.out), (vz HL1358_2.out), (vz HO1363.out), (vz HO1366.out), (nu HO1369.out), (vz HO_11.out), (vz HO_4.out), (vz HO_5.out), (ku BK1351.out), (ku BK1359.out), (bu2 HB.out GE1351.out GE1359.out)⟩)
                     ·
                      skip
                      refine Kd.N_lit_step (Kd.slice 48 (Kd.int .u32)) _ 42 ?hg (N' := 31) ?hd (xs := ([x5_1, t1364] : List (List Int))) (inner := [.slice AoX5 x5_1.length coX5, .slice Ao22 t1364.length co22]) (ok := (fun k_ => (P0_ k_ ∨ w.heap.size ≤ k_) ∧ k_ ≠ gb1351 ∧ k_ ≠ gb1359)) (okp := (fun k_ => (P0_ k_ ∨ w.heap.size ≤ k_) ∧ k_ ≠ gb1351 ∧ k_ ≠ gb1359)) ?hr ?hp (fun _ hk => hk) ((show ∀ k_, w24.heap.size ≤ k_ → (fun k_ => (P0_ k_ ∨ w.heap.size ≤ k_) ∧ k_ ≠ gb1351 ∧ k_ ≠ gb1359) k_ from fun k_ hk => ⟨(.inr (Nat.le_trans (below_size (bu2 HB.out GE1351.out GE1359.out)) hk)), Kd.freshB (g := gb1351) (o := .cells #[.bool false, .slice none 0 0, .slice none 0 0] 67 (0, 0)) (ku BK1351.out) k_ hk, Kd.freshB (g := gb1359) (o := .cells #[.bool t1360, .slice Ao21 t1361.length co21, .slice Ao22 t1364.length co22] 67 (0, 0)) (ku BK1359.out) k_ hk⟩) _ (Nat.le_refl _)) (Below.refl _ _) (Nat.le_refl _) (by simp) ?_; (case hd => rfl); (case hg => rfl); (case hr => first | (go_simp; done) | (go_simp; rfl)); (case hp => exact (Reps.one (show Kd.FK (Kd.slice 48 (Kd.int .u32)) _ _ x5_1 [.slice AoX5 x5_1.length coX5] from (Kd.FK_slice_mk (Kd.V_reads' (vy ((fun k_ => (P0_ k_ ∨ w.heap.size ≤ k_) ∧ k_ ≠ gb1351 ∧ k_ ≠ gb1359)) HO_5.out)).2.1 (Kd.V_F (vy ((fun k_ => (P0_ k_ ∨ w.heap.size ≤ k_) ∧ k_ ≠ gb1351 ∧ k_ ≠ gb1359)) HO_5.out)))) (Reps.one (show Kd.FK (Kd.slice 48 (Kd.int .u32)) _ _ t1364 [.slice Ao22 t1364.length co22] from (Kd.FK_slice_mk (Kd.V_reads' (vy ((fun k_ => (P0_ k_ ∨ w.heap.size ≤ k_) ∧ k_ ≠ gb1351 ∧ k_ ≠ gb1359)) HO1366.out)).2.1 (Kd.V_F (vy ((fun k_ => (P0_ k_ ∨ w.heap.size ≤ k_) ∧ k_ ≠ gb1351 ∧ k_ ≠ gb1359)) HO1366.out)))) (Reps.none _ _))))
                      intro v1374 w26 ho27 hb hg_ hnew_
                      clear hg_ hnew_
                      (first | rw [← Ny1373.out] at ho27 | (simp only [Int.reduceToNat] at ho27; rw [← Ny1373.out] at ho27))
                      replace HO_4 := Aside0.mk (Kd.V_elder' (vu HO_4.out) (Kd.N_base ho27) hb)
                      replace HO_5 := Aside0.mk (Kd.V_elder' (vu HO_5.out) (Kd.N_base ho27) hb)
                      replace HO_11 := Aside0.mk (Kd.V_elder' (vu HO_11.out) (Kd.N_base ho27) hb)
                      replace HL1358_1 := Aside0.mk (Kd.V_elder' (vu HL1358_1.out) (Kd.N_base ho27) hb)
                      replace HL1358_2 := Aside0.mk (Kd.V_elder' (vu HL1358_2.out) (Kd.N_base ho27) hb)
                      replace HO1363 := Aside0.mk (Kd.V_elder' (vu HO1363.out) (Kd.N_base ho27) hb)
                      replace HO1366 := Aside0.mk (Kd.V_elder' (vu HO1366.out) (Kd.N_base ho27) hb)
                      have HO1375 := Aside0.mk (Kd.N_lower ho27 (below_size (bu2 HB.out GE1351.out GE1359.out)))
                      replace BK1351 := kb BK1351 hb
                      replace BK1359 := kb BK1359 hb
                      replace HB := Aside0.mk (below_step (bu2 HB.out GE1351.out GE1359.out) hb)
                      clear hb ho27
                      refine hK.out _ _ ⟨bc BK1359 0, bc BK1359 1, bc BK1359 2⟩ (fun hHeld => ?_)
                      clear hK K
                      refine nq 31 ?_
                      exact norm_ (by first | (simp only [putAll, Act.put, List.setIfInBounds_toArray, List.set_cons_zero, List.set_cons_succ]; done) | (simp only [putAll, Act.put, List.setIfInBounds_toArray, List.set_cons_zero, List.set_cons_succ]; rfl)) (hJ12 (v1374) _ ⟨hHeld, (vz HL1358_1.out), (vz HL1358_2.out), (vz HO1363.out), (vz HO1366.out), (nu HO1375.out), (vz HO_11.out), (vz HO_4.out), (vz HO_5.out), (ku BK1351.out), (ku BK1359.out), (bu2 HB.out GE1351.out GE1359.out)⟩)
                     ·
                      skip
                      refine box_step ?hg (N := 8) ?hd (cs := #[.bool false, .slice none 0 0, .slice none 0 0]) (t := 67) ?hr ?_; (case hd => rfl); (case hg => rfl); (case hr => first | (go_simp; done) | (go_simp; rfl))
                      intro gb1386 hg w25 hbox hb
                      replace HO_4 := ke HO_4 hg hb
                      replace HO_5 := ke HO_5 hg hb
                      replace HO_11 := ke HO_11 hg hb
                      replace HL1358_1 := ke HL1358_1 hg hb
                      replace HL1358_2 := ke HL1358_2 hg hb
                      replace HO1363 := ke HO1363 hg hb
                      replace HO1366 := ke HO1366 hg hb
                      have BK1386 := Aside0.mk (hbox)
                      have GW1386 := ng hg (bu2 HB.out GE1351.out GE1359.out)
                      have GE1386 := ng hg (bu2 HB.out GE1351.out GE1359.out)
                      replace HB := Aside0.mk (below_step (bu2 HB.out GE1351.out GE1359.out) hb)
                      have NB1351_1386 := nl hg BK1351
                      have NB1386_1351 := nr hg BK1351
                      replace BK1351 := kb BK1351 hb
                      have NB1359_1386 := nl hg BK1359
                      have NB1386_1359 := nr hg BK1359
                      replace BK1359 := kb BK1359 hb
                      clear hb hbox hg
                      refine hK.out _ _ ⟨bc BK1359 0, bc BK1359 1, bc BK1359 2⟩ (fun hHeld => ?_)
                      clear hK K
                      refine nq 8 ?_
                      exact norm_ (by first | (simp only [putAll, Act.put, List.setIfInBounds_toArray, List.set_cons_zero, List.set_cons_succ]; done) | (simp only [putAll, Act.put, List.setIfInBounds_toArray, List.set_cons_zero, List.set_cons_succ]; rfl)) (hJ15 (gb1386) _ ⟨hHeld, (vz HL1358_1.out), (vz HL1358_2.out), (vz HO1363.out), (vz HO1366.out), (vz HO_11.out), (vz HO_4.out), (vz HO_5.out), (ku BK1351.out), (ku BK1359.out), (ku BK1386.out), GW1386.out, GE1386.out, NB1351_1386.out, NB1386_1351.out, NB1359_1386.out, NB1386_1359.out, (bu3 HB.out GE1351.out GE1359.out GE1386.out)⟩)
                    ·
                     skip
                     rintro gb1386 w26 ⟨hS_, h0_, h1_, h2_, h3_, h4_, h5_, h6_, h7_, h8_, h9_, h10_, h11_, h12_, h13_, h14_, h15_, h16_⟩
                     have n0_ : Aside0 (Kd.V (Kd.int .u32) 48 w26 w.heap.size (fun k_ => (P0_ k_ ∨ w.heap.size ≤ k_) ∧ k_ ≠ gb1351 ∧ k_ ≠ gb1359 ∧ k_ ≠ gb1386) (.slice A1358_1 ((rd_T67 l0 x13_1).f1).length c1358_1) ((rd_T67 l0 x13_1).f1)) := ⟨h0_⟩
                     have n1_ : Aside0 (Kd.V (Kd.int .u32) 48 w26 w.heap.size (fun k_ => (P0_ k_ ∨ w.heap.size ≤ k_) ∧ k_ ≠ gb1351 ∧ k_ ≠ gb1359 ∧ k_ ≠ gb1386) (.slice A1358_2 ((rd_T67 l0 x13_1).f2).length c1358_2) ((rd_T67 l0 x13_1).f2)) := ⟨h1_⟩
                     have n2_ : Aside0 (Kd.V (Kd.int .u32) 48 w26 w.heap.size (fun k_ => (P0_ k_ ∨ w.heap.size ≤ k_) ∧ k_ ≠ gb1351 ∧ k_ ≠ gb1359 ∧ k_ ≠ gb1386) (.slice Ao21 t1361.length co21) t1361) := ⟨h2_⟩
                     have n3_ : Aside0 (Kd.V (Kd.int .u32) 48 w26 w.heap.size (fun k_ => (P0_ k_ ∨ w.heap.size ≤ k_) ∧ k_ ≠ gb1351 ∧ k_ ≠ gb1359 ∧ k_ ≠ gb1386) (.slice Ao22 t1364.length co22) t1364) := ⟨h3_⟩
                     have n4_ : Aside0 (Kd.V k67 67 w26 w.heap.size (fun k_ => (P0_ k_ ∨ w.heap.size ≤ k_) ∧ k_ ≠ gb1351 ∧ k_ ≠ gb1359 ∧ k_ ≠ gb1386) (.slice (some ad1358) l0.length c0) l0) := ⟨h4_⟩
                     have n5_ : Aside0 (Kd.V (Kd.int .u32) 48 w26 w.heap.size (fun k_ => (P0_ k_ ∨ w.heap.size ≤ k_) ∧ k_ ≠ gb1351 ∧ k_ ≠ gb1359 ∧ k_ ≠ gb1386) (.slice Ao25 x4_1.length co25) x4_1) := ⟨h5_⟩
                     have n6_ : Aside0 (Kd.V (Kd.int .u32) 48 w26 w.heap.size (fun k_ => (P0_ k_ ∨ w.heap.size ≤ k_) ∧ k_ ≠ gb1351 ∧ k_ ≠ gb1359 ∧ k_ ≠ gb1386) (.slice AoX5 x5_1.length coX5) x5_1) := ⟨h6_⟩
                     have n7_ : Aside0 (w26.heap[gb1351]? = some (.cells #[.bool false, .slice none 0 0, .slice none 0 0] 67 (0, 0))) := ⟨h7_⟩
                     have n8_ : Aside0 (w26.heap[gb1359]? = some (.cells #[.bool t1360, .slice Ao21 t1361.length co21, .slice Ao22 t1364.length co22] 67 (0, 0))) := ⟨h8_⟩
                     have n9_ : Aside0 (w26.heap[gb1386]? = some (.cells #[.bool false, .slice none 0 0, .slice none 0 0] 67 (0, 0))) := ⟨h9_⟩
                     have n10_ : Aside0 (w.heap.size ≤ gb1386) := ⟨h10_⟩
                     have n11_ : Aside0 (w.heap.size ≤ gb1386) := ⟨h11_⟩
                     have n12_ : Aside0 (gb1351 ≠ gb1386) := ⟨h12_⟩
                     have n13_ : Aside0 (gb1386 ≠ gb1351) := ⟨h13_⟩
                     have n14_ : Aside0 (gb1359 ≠ gb1386) := ⟨h14_⟩
                     have n15_ : Aside0 (gb1386 ≠ gb1359) := ⟨h15_⟩
                     have n16_ : Aside0 (Below w.heap.size w w26) := ⟨h16_⟩
                     clear HO_4 HO_5 HO_11 HL1358_1 HL1358_2 HO1363 HO1366 BK1351 BK1359 HB h0_ h1_ h2_ h3_ h4_ h5_ h6_ h7_ h8_ h9_ h10_ h11_ h12_ h13_ h14_ h15_ h16_
                     have HL1358_1 := n0_
                     have HL1358_2 := n1_
                     have HO1363 := n2_
                     have HO1366 := n3_
                     have HO_11 := n4_
                     have HO_4 := n5_
                     have HO_5 := n6_
                     have BK1351 := n7_
                     have BK1359 := n8_
                     have BK1386 := n9_
                     have GW1386 := n10_
                     have GE1386 := n11_
                     have NB1351_1386 := n12_
                     have NB1386_1351 := n13_
                     have NB1359_1386 := n14_
                     have NB1386_1359 := n15_
                     have HB := n16_
                     clear n0_ n1_ n2_ n3_ n4_ n5_ n6_ n7_ n8_ n9_ n10_ n11_ n12_ n13_ n14_ n15_ n16_
                     have hHeld : w26.cell? ⟨gb1359, 0, none⟩ = some (.bool t1360) ∧ w26.cell? ⟨gb1359, 1, none⟩ = some (.slice Ao21 t1361.length co21) ∧ w26.cell? ⟨gb1359, 2, none⟩ = some (.slice Ao22 t1364.length co22) := hS_
                     refine norm_ (a' := ?_) ?_ ?_
                     rotate_left
                     ·
                      simp only [putAll, Act.put, List.setIfInBounds_toArray, List.set_cons_zero, List.set_cons_succ]
                      rfl
                     refine two_ (i := 7) (j := 12) (Ni := some 26) (Nj := some 31) #[true, true, true, true, true, true, true, true, false, true, true, true, false, false, false, true, false] #[true, true, true, true, true, true, true, false, false, true, true, true, true, false, false, true, false] rfl rfl rfl rfl (two_of HT_.out (by kernel_rfl)) (by decide) (by decide) (fun K hK => ?_) (fun K hK => ?_)
                     ·
                      skip
                      refine Kd.N_lit_step (Kd.slice 48 (Kd.int .u32)) _ 42 ?hg (N' := 26) ?hd (xs := ([x4_1, t1361] : List (List Int))) (inner := [.slice Ao25 x4_1.length co25, .slice Ao21 t1361.length co21]) (ok := (fun k_ => (P0_ k_ ∨ w.heap.size ≤ k_) ∧ k_ ≠ gb1351 ∧ k_ ≠ gb1359 ∧ k_ ≠ gb1386)) (okp := (fun k_ => (P0_ k_ ∨ w.heap.size ≤ k_) ∧ k_ ≠ gb1351 ∧ k_ ≠ gb1359 ∧ k_ ≠ gb1386)) ?hr ?hp (fun _ hk => hk) ((show ∀ k_, w26.heap.size ≤ k_ → (fun k_ => (P0_ k_ ∨ w.heap.size ≤ k_) ∧ k_ ≠ gb1351 ∧ k_ ≠ gb1359 ∧ k_ ≠ gb1386) k_ from fun k_ hk => ⟨(.inr (Nat.le_trans (below_size (bu3 HB.out GE1351.out GE1359.out GE1386.out)) hk)), Kd.freshB (g := gb1351) (o := .cells #[.bool false, .slice none 0 0, .slice none 0 0] 67 (0, 0)) (ku BK1351.out) k_ hk, Kd.freshB (g := gb1359) (o := .cells #[.bool t1360, .slice Ao21 t1361.length co21, .slice Ao22 t1364.length co22] 67 (0, 0)) (ku BK1359.out) k_ hk, Kd.freshB (g := gb1386) (o := .cells #[.bool false, .slice none 0 0, .slice none 0 0] 67 (0, 0)) (ku BK1386.out) k_ hk⟩) _ (Nat.le_refl _)) (Below.refl _ _) (Nat.le_refl _) (by simp) ?_; (case hd => rfl); (case hg => rfl); (case hr => first | (go_simp; done) | (go_simp; rfl)); (case hp => exact (Reps.one (show Kd.FK (Kd.slice 48 (Kd.int .u32)) _ _ x4_1 [.slice Ao25 x4_1.length co25] from (Kd.FK_slice_mk (Kd.V_reads' (vy ((fun k_ => (P0_ k_ ∨ w.heap.size ≤ k_) ∧ k_ ≠ gb1351 ∧ k_ ≠ gb1359 ∧ k_ ≠ gb1386)) HO_4.out)).2.1 (Kd.V_F (vy ((fun k_ => (P0_ k_ ∨ w.heap.size ≤ k_) ∧ k_ ≠ gb1351 ∧ k_ ≠ gb1359 ∧ k_ ≠ gb1386)) HO_4.out)))) (Reps.one (show Kd.FK (Kd.slice 48 (Kd.int .u32)) _ _ t1361 [.slice Ao21 t1361.length co21] from (Kd.FK_slice_mk (Kd.V_reads' (vy ((fun k_ => (P0_ k_ ∨ w.heap.size ≤ k_) ∧ k_ ≠ gb1351 ∧ k_ ≠ gb1359 ∧ k_ ≠ gb1386)) HO1363.out)).2.1 (Kd.V_F (vy ((fun k_ => (P0_ k_ ∨ w.heap.size ≤ k_) ∧ k_ ≠ gb1351 ∧ k_ ≠ gb1359 ∧ k_ ≠ gb1386)) HO1363.out)))) (Reps.none _ _))))
                      intro v1368 w28 ho29 hb hg_ hnew_
                      clear hg_ hnew_
                      (first | rw [← Ny1367.out] at ho29 | (simp only [Int.reduceToNat] at ho29; rw [← Ny1367.out] at ho29))
                      replace HO_4 := Aside0.mk (Kd.V_elder' (vu HO_4.out) (Kd.N_base ho29) hb)
                      replace HO_5 := Aside0.mk (Kd.V_elder' (vu HO_5.out) (Kd.N_base ho29) hb)
                      replace HO_11 := Aside0.mk (Kd.V_elder' (vu HO_11.out) (Kd.N_base ho29) hb)
                      replace HL1358_1 := Aside0.mk (Kd.V_elder' (vu HL1358_1.out) (Kd.N_base ho29) hb)
                      replace HL1358_2 := Aside0.mk (Kd.V_elder' (vu HL1358_2.out) (Kd.N_base ho29) hb)
                      replace HO1363 := Aside0.mk (Kd.V_elder' (vu HO1363.out) (Kd.N_base ho29) hb)
                      replace HO1366 := Aside0.mk (Kd.V_elder' (vu HO1366.out) (Kd.N_base ho29) hb)
                      have HO1369 := Aside0.mk (Kd.N_lower ho29 (below_size (bu3 HB.out GE1351.out GE1359.out GE1386.out)))
                      replace BK1351 := kb BK1351 hb
                      replace BK1359 := kb BK1359 hb
                      replace BK1386 := kb BK1386 hb
                      replace HB := Aside0.mk (below_step (bu3 HB.out GE1351.out GE1359.out GE1386.out) hb)
                      clear hb ho29
                      refine hK.out _ _ ⟨bc BK1359 0, bc BK1359 1, bc BK1359 2⟩ (fun hHeld => ?_)
                      clear hK K
                      refine nq 26 ?_
                      exact norm_ (by first | (simp only [putAll, Act.put, List.setIfInBounds_toArray, List.set_cons_zero, List.set_cons_succ]; done) | (simp only [putAll, Act.put, List.setIfInBounds_toArray, List.set_cons_zero, List.set_cons_succ]; rfl)) (hJ7_15 (v1368, gb1386) _ ⟨hHeld, (vz HL1358_1.out), (vz HL1358_2.out), (vz HO1363.out), (vz HO1366.out), (nu HO1369.out), (vz HO_11.out), (vz HO_4.out), (vz HO_5.out), (ku BK1351.out), (ku BK1359.out), (ku BK1386.out), GW1386.out, GE1386.out, NB1351_1386.out, NB1386_1351.out, NB1359_1386.out, NB1386_1359.out, (bu3 HB.out GE1351.out GE1359.out GE1386.out)⟩)
                     ·
                      skip
                      refine Kd.N_lit_step (Kd.slice 48 (Kd.int .u32)) _ 42 ?hg (N' := 31) ?hd (xs := ([x5_1, t1364] : List (List Int))) (inner := [.slice AoX5 x5_1.length coX5, .slice Ao22 t1364.length co22]) (ok := (fun k_ => (P0_ k_ ∨ w.heap.size ≤ k_) ∧ k_ ≠ gb1351 ∧ k_ ≠ gb1359 ∧ k_ ≠ gb1386)) (okp := (fun k_ => (P0_ k_ ∨ w.heap.size ≤ k_) ∧ k_ ≠ gb1351 ∧ k_ ≠ gb1359 ∧ k_ ≠ gb1386)) ?hr ?hp (fun _ hk => hk) ((show ∀ k_, w26.heap.size ≤ k_ → (fun k_ => (P0_ k_ ∨ w.heap.size ≤ k_) ∧ k_ ≠ gb1351 ∧ k_ ≠ gb1359 ∧ k_ ≠ gb1386) k_ from fun k_ hk => ⟨(.inr (Nat.le_trans (below_size (bu3 HB.out GE1351.out GE1359.out GE1386.out)) hk)), Kd.freshB (g := gb1351) (o := .cells #[.bool false, .slice none 0 0, .slice none 0 0] 67 (0, 0)) (ku BK1351.out) k_ hk, Kd.freshB (g := gb1359) (o := .cells #[.bool t1360, .slice Ao21 t1361.length co21, .slice Ao22 t1364.length co22] 67 (0, 0)) (ku BK1359.out) k_ hk, Kd.freshB (g := gb1386) (o := .cells #[.bool false, .slice none 0 0, .slice none 0 0] 67 (0, 0)) (ku BK1386.out) k_ hk⟩) _ (Nat.le_refl _)) (Below.refl _ _) (Nat.le_refl _) (by simp) ?_; (case hd => rfl); (case hg => rfl); (case hr => first | (go_simp; done) | (go_simp; rfl)); (case hp => exact (Reps.one (show Kd.FK (Kd.slice 48 (Kd.int .u32)) _ _ x5_1 [.slice AoX5 x5_1.length coX5] from (Kd.FK_slice_mk (Kd.V_reads' (vy ((fun k_ => (P0_ k_ ∨ w.heap.size ≤ k_) ∧ k_ ≠ gb1351 ∧ k_ ≠ gb1359 ∧ k_ ≠ gb1386)) HO_5.out)).2.1 (Kd.V_F (vy ((fun k_ => (P0_ k_ ∨ w.heap.size ≤ k_) ∧ k_ ≠ gb1351 ∧ k_ ≠ gb1359 ∧ k_ ≠ gb1386)) HO_5.out)))) (Reps.one (show Kd.FK (Kd.slice 48 (Kd.int .u32)) _ _ t1364 [.slice Ao22 t1364.length co22] from (Kd.FK_slice_mk (Kd.V_reads' (vy ((fun k_ => (P0_ k_ ∨ w.heap.size ≤ k_) ∧ k_ ≠ gb1351 ∧ k_ ≠ gb1359 ∧ k_ ≠ gb1386)) HO1366.out)).2.1 (Kd.V_F (vy ((fun k_ => (P0_ k_ ∨ w.heap.size ≤ k_) ∧ k_ ≠ gb1351 ∧ k_ ≠ gb1359 ∧ k_ ≠ gb1386)) HO1366.out)))) (Reps.none _ _))))
                      intro v1374 w28 ho29 hb hg_ hnew_
                      clear hg_ hnew_
                      (first | rw [← Ny1373.out] at ho29 | (simp only [Int.reduceToNat] at ho29; rw [← Ny1373.out] at ho29))
                      replace HO_4 := Aside0.mk (Kd.V_elder' (vu HO_4.out) (Kd.N_base ho29) hb)
                      replace HO_5 := Aside0.mk (Kd.V_elder' (vu HO_5.out) (Kd.N_base ho29) hb)
                      replace HO_11 := Aside0.mk (Kd.V_elder' (vu HO_11.out) (Kd.N_base ho29) hb)
                      replace HL1358_1 := Aside0.mk (Kd.V_elder' (vu HL1358_1.out) (Kd.N_base ho29) hb)
                      replace HL1358_2 := Aside0.mk (Kd.V_elder' (vu HL1358_2.out) (Kd.N_base ho29) hb)
                      replace HO1363 := Aside0.mk (Kd.V_elder' (vu HO1363.out) (Kd.N_base ho29) hb)
                      replace HO1366 := Aside0.mk (Kd.V_elder' (vu HO1366.out) (Kd.N_base ho29) hb)
                      have HO1375 := Aside0.mk (Kd.N_lower ho29 (below_size (bu3 HB.out GE1351.out GE1359.out GE1386.out)))
                      replace BK1351 := kb BK1351 hb
                      replace BK1359 := kb BK1359 hb
                      replace BK1386 := kb BK1386 hb
                      replace HB := Aside0.mk (below_step (bu3 HB.out GE1351.out GE1359.out GE1386.out) hb)
                      clear hb ho29
                      refine hK.out _ _ ⟨bc BK1359 0, bc BK1359 1, bc BK1359 2⟩ (fun hHeld => ?_)
                      clear hK K
                      refine nq 31 ?_
                      exact norm_ (by first | (simp only [putAll, Act.put, List.setIfInBounds_toArray, List.set_cons_zero, List.set_cons_succ]; done) | (simp only [putAll, Act.put, List.setIfInBounds_toArray, List.set_cons_zero, List.set_cons_succ]; rfl)) (hJ12_15 (v1374, gb1386) _ ⟨hHeld, (vz HL1358_1.out), (vz HL1358_2.out), (vz HO1363.out), (vz HO1366.out), (nu HO1375.out), (vz HO_11.out), (vz HO_4.out), (vz HO_5.out), (ku BK1351.out), (ku BK1359.out), (ku BK1386.out), GW1386.out, GE1386.out, NB1351_1386.out, NB1386_1351.out, NB1359_1386.out, NB1386_1359.out, (bu3 HB.out GE1351.out GE1359.out GE1386.out)⟩)
                   ·
                    skip
                    rintro v1374 w28 ⟨hS_, h0_, h1_, h2_, h3_, h4_, h5_, h6_, h7_, h8_, h9_, h10_⟩
                    have n0_ : Aside0 (Kd.V (Kd.int .u32) 48 w28 w.heap.size (fun k_ => (P0_ k_ ∨ w.heap.size ≤ k_) ∧ some k_ ≠ (v1374 : Value).ownBlock ∧ k_ ≠ gb1351 ∧ k_ ≠ gb1359) (.slice A1358_1 ((rd_T67 l0 x13_1).f1).length c1358_1) ((rd_T67 l0 x13_1).f1)) := ⟨h0_⟩
                    have n1_ : Aside0 (Kd.V (Kd.int .u32) 48 w28 w.heap.size (fun k_ => (P0_ k_ ∨ w.heap.size ≤ k_) ∧ some k_ ≠ (v1374 : Value).ownBlock ∧ k_ ≠ gb1351 ∧ k_ ≠ gb1359) (.slice A1358_2 ((rd_T67 l0 x13_1).f2).length c1358_2) ((rd_T67 l0 x13_1).f2)) := ⟨h1_⟩
                    have n2_ : Aside0 (Kd.V (Kd.int .u32) 48 w28 w.heap.size (fun k_ => (P0_ k_ ∨ w.heap.size ≤ k_) ∧ some k_ ≠ (v1374 : Value).ownBlock ∧ k_ ≠ gb1351 ∧ k_ ≠ gb1359) (.slice Ao21 t1361.length co21) t1361) := ⟨h2_⟩
                    have n3_ : Aside0 (Kd.V (Kd.int .u32) 48 w28 w.heap.size (fun k_ => (P0_ k_ ∨ w.heap.size ≤ k_) ∧ some k_ ≠ (v1374 : Value).ownBlock ∧ k_ ≠ gb1351 ∧ k_ ≠ gb1359) (.slice Ao22 t1364.length co22) t1364) := ⟨h3_⟩
                    have n4_ : Aside0 (Kd.N (Kd.slice 48 (Kd.int .u32)) 42 w28 w.heap.size (fun k_ => (P0_ k_ ∨ w.heap.size ≤ k_) ∧ k_ ≠ gb1351 ∧ k_ ≠ gb1359) v1374 y1373) := ⟨h4_⟩
                    have n5_ : Aside0 (Kd.V k67 67 w28 w.heap.size (fun k_ => (P0_ k_ ∨ w.heap.size ≤ k_) ∧ some k_ ≠ (v1374 : Value).ownBlock ∧ k_ ≠ gb1351 ∧ k_ ≠ gb1359) (.slice (some ad1358) l0.length c0) l0) := ⟨h5_⟩
                    have n6_ : Aside0 (Kd.V (Kd.int .u32) 48 w28 w.heap.size (fun k_ => (P0_ k_ ∨ w.heap.size ≤ k_) ∧ some k_ ≠ (v1374 : Value).ownBlock ∧ k_ ≠ gb1351 ∧ k_ ≠ gb1359) (.slice Ao25 x4_1.length co25) x4_1) := ⟨h6_⟩
                    have n7_ : Aside0 (Kd.V (Kd.int .u32) 48 w28 w.heap.size (fun k_ => (P0_ k_ ∨ w.heap.size ≤ k_) ∧ some k_ ≠ (v1374 : Value).ownBlock ∧ k_ ≠ gb1351 ∧ k_ ≠ gb1359) (.slice AoX5 x5_1.length coX5) x5_1) := ⟨h7_⟩
                    have n8_ : Aside0 (w28.heap[gb1351]? = some (.cells #[.bool false, .slice none 0 0, .slice none 0 0] 67 (0, 0))) := ⟨h8_⟩
                    have n9_ : Aside0 (w28.heap[gb1359]? = some (.cells #[.bool t1360, .slice Ao21 t1361.length co21, .slice Ao22 t1364.length co22] 67 (0, 0))) := ⟨h9_⟩
                    have n10_ : Aside0 (Below w.heap.size w w28) := ⟨h10_⟩
                    clear HO_4 HO_5 HO_11 HL1358_1 HL1358_2 HO1363 HO1366 BK1351 BK1359 HB h0_ h1_ h2_ h3_ h4_ h5_ h6_ h7_ h8_ h9_ h10_
                    have HL1358_1 := n0_
                    have HL1358_2 := n1_
                    have HO1363 := n2_
                    have HO1366 := n3_
                    have HO1375 := n4_
                    have HO_11 := n5_
                    have HO_4 := n6_
                    have HO_5 := n7_
                    have BK1351 := n8_
                    have BK1359 := n9_
                    have HB := n10_
                    clear n0_ n1_ n2_ n3_ n4_ n5_ n6_ n7_ n8_ n9_ n10_
                    have hHeld : w28.cell? ⟨gb1359, 0, none⟩ = some (.bool t1360) ∧ w28.cell? ⟨gb1359, 1, none⟩ = some (.slice Ao21 t1361.length co21) ∧ w28.cell? ⟨gb1359, 2, none⟩ = some (.slice Ao22 t1364.length co22) := hS_
                    refine norm_ (a' := ?_) ?_ ?_
                    rotate_left
                    ·
                     simp only [putAll, Act.put, List.setIfInBounds_toArray, List.set_cons_zero, List.set_cons_succ]
                     rfl
                    refine two_ (i := 7) (j := 15) (Ni := some 26) (Nj := some 8) #[true, true, true, true, true, true, true, true, false, true, true, true, true, false, false, false, false] #[true, true, true, true, true, true, true, false, false, true, true, true, true, false, false, true, false] rfl rfl rfl rfl (two_of HT_.out (by kernel_rfl)) (by decide) (by decide) (fun K hK => ?_) (fun K hK => ?_)
                    ·
                     skip
                     refine Kd.N_lit_step (Kd.slice 48 (Kd.int .u32)) _ 42 ?hg (N' := 26) ?hd (xs := ([x4_1, t1361] : List (List Int))) (inner := [.slice Ao25 x4_1.length co25, .slice Ao21 t1361.length co21]) (ok := (fun k_ => (P0_ k_ ∨ w.heap.size ≤ k_) ∧ some k_ ≠ (v1374 : Value).ownBlock ∧ k_ ≠ gb1351 ∧ k_ ≠ gb1359)) (okp := (fun k_ => (P0_ k_ ∨ w.heap.size ≤ k_) ∧ some k_ ≠ (v1374 : Value).ownBlock ∧ k_ ≠ gb1351 ∧ k_ ≠ gb1359)) ?hr ?hp (fun _ hk => hk) ((show ∀ k_, w28.heap.size ≤ k_ → (fun k_ => (P0_ k_ ∨ w.heap.size ≤ k_) ∧ some k_ ≠ (v1374 : Value).ownBlock ∧ k_ ≠ gb1351 ∧ k_ ≠ gb1359) k_ from fun k_ hk => ⟨(.inr (Nat.le_trans (below_size (bu2 HB.out GE1351.out GE1359.out)) hk)), Kd.fresh' (Kd.N_lt (nu HO1375.out)) k_ hk, Kd.freshB (g := gb1351) (o := .cells #[.bool false, .slice none 0 0, .slice none 0 0] 67 (0, 0)) (ku BK1351.out) k_ hk, Kd.freshB (g := gb1359) (o := .cells #[.bool t1360, .slice Ao21 t1361.length co21, .slice Ao22 t1364.length co22] 67 (0, 0)) (ku BK1359.out) k_ hk⟩) _ (Nat.le_refl _)) (Below.refl _ _) (Nat.le_refl _) (by simp) ?_; (case hd => rfl); (case hg => rfl); (case hr => first | (go_simp; done) | (go_simp; rfl)); (case hp => exact (Reps.one (show Kd.FK (Kd.slice 48 (Kd.int .u32)) _ _ x4_1 [.slice Ao25 x4_1.length co25] from (Kd.FK_slice_mk (Kd.V_reads' (vy ((fun k_ => (P0_ k_ ∨ w.heap.size ≤ k_) ∧ some k_ ≠ (v1374 : Value).ownBlock ∧ k_ ≠ gb1351 ∧ k_ ≠ gb1359)) HO_4.out)).2.1 (Kd.V_F (vy ((fun k_ => (P0_ k_ ∨ w.heap.size ≤ k_) ∧ some k_ ≠ (v1374 : Value).ownBlock ∧ k_ ≠ gb1351 ∧ k_ ≠ gb1359)) HO_4.out)))) (Reps.one (show Kd.FK (Kd.slice 48 (Kd.int .u32)) _ _ t1361 [.slice Ao21 t1361.length co21] from (Kd.FK_slice_mk (Kd.V_reads' (vy ((fun k_ => (P0_ k_ ∨ w.heap.size ≤ k_) ∧ some k_ ≠ (v1374 : Value).ownBlock ∧ k_ ≠ gb1351 ∧ k_ ≠ gb1359)) HO1363.out)).2.1 (Kd.V_F (vy ((fun k_ => (P0_ k_ ∨ w.heap.size ≤ k_) ∧ some k_ ≠ (v1374 : Value).ownBlock ∧ k_ ≠ gb1351 ∧ k_ ≠ gb1359)) HO1363.out)))) (Reps.none _ _))))
                     intro v1368 w30 ho31 hb hg_ hnew_
                     clear hg_ hnew_
                     (first | rw [← Ny1367.out] at ho31 | (simp only [Int.reduceToNat] at ho31; rw [← Ny1367.out] at ho31))
                     replace HO_4 := Aside0.mk (Kd.V_elder' (vu HO_4.out) (Kd.N_base ho31) hb)
                     replace HO_5 := Aside0.mk (Kd.V_elder' (vu HO_5.out) (Kd.N_base ho31) hb)
                     replace HO_11 := Aside0.mk (Kd.V_elder' (vu HO_11.out) (Kd.N_base ho31) hb)
                     replace HL1358_1 := Aside0.mk (Kd.V_elder' (vu HL1358_1.out) (Kd.N_base ho31) hb)
                     replace HL1358_2 := Aside0.mk (Kd.V_elder' (vu HL1358_2.out) (Kd.N_base ho31) hb)
                     replace HO1363 := Aside0.mk (Kd.V_elder' (vu HO1363.out) (Kd.N_base ho31) hb)
                     replace HO1366 := Aside0.mk (Kd.V_elder' (vu HO1366.out) (Kd.N_base ho31) hb)
                     replace HO1375 := Aside0.mk (Kd.N_elder' (nu HO1375.out) (Kd.N_base ho31) hb)
                     have HO1369 := Aside0.mk (Kd.N_lower ho31 (below_size (bu2 HB.out GE1351.out GE1359.out)))
                     replace BK1351 := kb BK1351 hb
                     replace BK1359 := kb BK1359 hb
                     replace HB := Aside0.mk (below_step (bu2 HB.out GE1351.out GE1359.out) hb)
                     clear hb ho31
                     refine hK.out _ _ ⟨bc BK1359 0, bc BK1359 1, bc BK1359 2⟩ (fun hHeld => ?_)
                     clear hK K
                     refine nq 26 ?_
                     exact norm_ (by first | (simp only [putAll, Act.put, List.setIfInBounds_toArray, List.set_cons_zero, List.set_cons_succ]; done) | (simp only [putAll, Act.put, List.setIfInBounds_toArray, List.set_cons_zero, List.set_cons_succ]; rfl)) (hJ7_12 (v1368, v1374) _ ⟨hHeld, (vz HL1358_1.out), (vz HL1358_2.out), (vz HO1363.out), (vz HO1366.out), (nu HO1369.out), (by (with_reducible repeat (first | apply Kd.N_alloc | apply Kd.N_drewN | apply Kd.N_drew)); exact Kd.N_mono HO1375.out (fun _ hk => ⟨hk.1.1, ⟨hk.2, ⟨hk.1.2.1, hk.1.2.2⟩⟩⟩)), (vz HO_11.out), (vz HO_4.out), (vz HO_5.out), (ku BK1351.out), (ku BK1359.out), (bu2 HB.out GE1351.out GE1359.out)⟩)
                    ·
                     skip
                     refine box_step ?hg (N := 8) ?hd (cs := #[.bool false, .slice none 0 0, .slice none 0 0]) (t := 67) ?hr ?_; (case hd => rfl); (case hg => rfl); (case hr => first | (go_simp; done) | (go_simp; rfl))
                     intro gb1386 hg w29 hbox hb
                     replace HO_4 := ke HO_4 hg hb
                     replace HO_5 := ke HO_5 hg hb
                     replace HO_11 := ke HO_11 hg hb
                     replace HL1358_1 := ke HL1358_1 hg hb
                     replace HL1358_2 := ke HL1358_2 hg hb
                     replace HO1363 := ke HO1363 hg hb
                     replace HO1366 := ke HO1366 hg hb
                     replace HO1375 := Aside0.mk (Kd.N_below (Kd.N_elderB (nu HO1375.out) gb1386 (Nat.le_of_eq hg.symm)) hb)
                     have BK1386 := Aside0.mk (hbox)
                     have GW1386 := ng hg (bu2 HB.out GE1351.out GE1359.out)
                     have GE1386 := ng hg (bu2 HB.out GE1351.out GE1359.out)
                     replace HB := Aside0.mk (below_step (bu2 HB.out GE1351.out GE1359.out) hb)
                     have NB1351_1386 := nl hg BK1351
                     have NB1386_1351 := nr hg BK1351
                     replace BK1351 := kb BK1351 hb
                     have NB1359_1386 := nl hg BK1359
                     have NB1386_1359 := nr hg BK1359
                     replace BK1359 := kb BK1359 hb
                     clear hb hbox hg
                     refine hK.out _ _ ⟨bc BK1359 0, bc BK1359 1, bc BK1359 2⟩ (fun hHeld => ?_)
                     clear hK K
                     refine nq 8 ?_
                     exact norm_ (by first | (simp only [putAll, Act.put, List.setIfInBounds_toArray, List.set_cons_zero, List.set_cons_succ]; done) | (simp only [putAll, Act.put, List.setIfInBounds_toArray, List.set_cons_zero, List.set_cons_succ]; rfl)) (hJ12_15 (v1374, gb1386) _ ⟨hHeld, (vz HL1358_1.out), (vz HL1358_2.out), (vz HO1363.out), (vz HO1366.out), (by (with_reducible repeat (first | apply Kd.N_alloc | apply Kd.N_drewN | apply Kd.N_drew)); exact Kd.N_mono HO1375.out (fun _ hk => ⟨hk.1.1, ⟨hk.1.2.1, ⟨hk.1.2.2, hk.2⟩⟩⟩)), (vz HO_11.out), (vz HO_4.out), (vz HO_5.out), (ku BK1351.out), (ku BK1359.out), (ku BK1386.out), GW1386.out, GE1386.out, NB1351_1386.out, NB1386_1351.out, NB1359_1386.out, NB1386_1359.out, (bu3 HB.out GE1351.out GE1359.out GE1386.out)⟩)
                  ·
                   skip
                   rintro v1368 w28 ⟨hS_, h0_, h1_, h2_, h3_, h4_, h5_, h6_, h7_, h8_, h9_, h10_⟩
                   have n0_ : Aside0 (Kd.V (Kd.int .u32) 48 w28 w.heap.size (fun k_ => (P0_ k_ ∨ w.heap.size ≤ k_) ∧ some k_ ≠ (v1368 : Value).ownBlock ∧ k_ ≠ gb1351 ∧ k_ ≠ gb1359) (.slice A1358_1 ((rd_T67 l0 x13_1).f1).length c1358_1) ((rd_T67 l0 x13_1).f1)) := ⟨h0_⟩
                   have n1_ : Aside0 (Kd.V (Kd.int .u32) 48 w28 w.heap.size (fun k_ => (P0_ k_ ∨ w.heap.size ≤ k_) ∧ some k_ ≠ (v1368 : Value).ownBlock ∧ k_ ≠ gb1351 ∧ k_ ≠ gb1359) (.slice A1358_2 ((rd_T67 l0 x13_1).f2).length c1358_2) ((rd_T67 l0 x13_1).f2)) := ⟨h1_⟩
                   have n2_ : Aside0 (Kd.V (Kd.int .u32) 48 w28 w.heap.size (fun k_ => (P0_ k_ ∨ w.heap.size ≤ k_) ∧ some k_ ≠ (v1368 : Value).ownBlock ∧ k_ ≠ gb1351 ∧ k_ ≠ gb1359) (.slice Ao21 t1361.length co21) t1361) := ⟨h2_⟩
                   have n3_ : Aside0 (Kd.V (Kd.int .u32) 48 w28 w.heap.size (fun k_ => (P0_ k_ ∨ w.heap.size ≤ k_) ∧ some k_ ≠ (v1368 : Value).ownBlock ∧ k_ ≠ gb1351 ∧ k_ ≠ gb1359) (.slice Ao22 t1364.length co22) t1364) := ⟨h3_⟩
                   have n4_ : Aside0 (Kd.N (Kd.slice 48 (Kd.int .u32)) 42 w28 w.heap.size (fun k_ => (P0_ k_ ∨ w.heap.size ≤ k_) ∧ k_ ≠ gb1351 ∧ k_ ≠ gb1359) v1368 y1367) := ⟨h4_⟩
                   have n5_ : Aside0 (Kd.V k67 67 w28 w.heap.size (fun k_ => (P0_ k_ ∨ w.heap.size ≤ k_) ∧ some k_ ≠ (v1368 : Value).ownBlock ∧ k_ ≠ gb1351 ∧ k_ ≠ gb1359) (.slice (some ad1358) l0.length c0) l0) := ⟨h5_⟩
                   have n6_ : Aside0 (Kd.V (Kd.int .u32) 48 w28 w.heap.size (fun k_ => (P0_ k_ ∨ w.heap.size ≤ k_) ∧ some k_ ≠ (v1368 : Value).ownBlock ∧ k_ ≠ gb1351 ∧ k_ ≠ gb1359) (.slice Ao25 x4_1.length co25) x4_1) := ⟨h6_⟩
                   have n7_ : Aside0 (Kd.V (Kd.int .u32) 48 w28 w.heap.size (fun k_ => (P0_ k_ ∨ w.heap.size ≤ k_) ∧ some k_ ≠ (v1368 : Value).ownBlock ∧ k_ ≠ gb1351 ∧ k_ ≠ gb1359) (.slice AoX5 x5_1.length coX5) x5_1) := ⟨h7_⟩
                   have n8_ : Aside0 (w28.heap[gb1351]? = some (.cells #[.bool false, .slice none 0 0, .slice none 0 0] 67 (0, 0))) := ⟨h8_⟩
                   have n9_ : Aside0 (w28.heap[gb1359]? = some (.cells #[.bool t1360, .slice Ao21 t1361.length co21, .slice Ao22 t1364.length co22] 67 (0, 0))) := ⟨h9_⟩
                   have n10_ : Aside0 (Below w.heap.size w w28) := ⟨h10_⟩
                   clear HO_4 HO_5 HO_11 HL1358_1 HL1358_2 HO1363 HO1366 BK1351 BK1359 HB h0_ h1_ h2_ h3_ h4_ h5_ h6_ h7_ h8_ h9_ h10_
                   have HL1358_1 := n0_
                   have HL1358_2 := n1_
                   have HO1363 := n2_
                   have HO1366 := n3_
                   have HO1369 := n4_
                   have HO_11 := n5_
                   have HO_4 := n6_
                   have HO_5 := n7_
                   have BK1351 := n8_
                   have BK1359 := n9_
                   have HB := n10_
                   clear n0_ n1_ n2_ n3_ n4_ n5_ n6_ n7_ n8_ n9_ n10_
                   have hHeld : w28.cell? ⟨gb1359, 0, none⟩ = some (.bool t1360) ∧ w28.cell? ⟨gb1359, 1, none⟩ = some (.slice Ao21 t1361.length co21) ∧ w28.cell? ⟨gb1359, 2, none⟩ = some (.slice Ao22 t1364.length co22) := hS_
                   obtain ⟨Ao29, co29, eo29⟩ := Kd.N_slice HO1369.out
                   (first | subst eo29 | (injection eo29 with f1_ f2_ f3_; have f4_ := f1_.symm; have f5_ := f3_.symm; clear f1_ f2_ f3_; subst f4_; subst f5_))
                   refine norm_ (a' := ?_) ?_ ?_
                   rotate_left
                   ·
                    simp only [putAll, Act.put, List.setIfInBounds_toArray, List.set_cons_zero, List.set_cons_succ]
                    rfl
                   refine three_ (i := 8) (j := 12) (k := 15) (Ni := some 27) (Nj := some 31) (Nk := some 8) #[true, true, true, true, true, true, true, true, true, true, true, true, false, false, false, false, false] #[true, true, true, true, true, true, true, true, false, true, true, true, true, false, false, false, false] #[true, true, true, true, true, true, true, true, false, true, true, true, false, false, false, true, false] rfl rfl rfl rfl rfl rfl (three_of HT_.out (by kernel_rfl)) (by decide) (by decide) (by decide) (fun K hK => ?_) (fun K hK => ?_) (fun K hK => ?_)
                   ·
                    skip
                    refine goes_ Try.func145 (by kernel_rfl) rfl #[.slice Ao29 y1367.length co29] (by rfl) rfl rfl lu ?_
                    with_reducible refine (nat_Mul.calls k1 _ _ y1367 t1370 _ ?side1 ?side2 A11.out).mono ?_
                    (case side1 => exact cu (Kd.N_reads' HO1369.out).2.2)
                    (case side2 => exact (Kd.N_reads' HO1369.out).2.1)
                    rintro e w30 ⟨v1371, rfl, ho0, hb⟩
                    refine ⟨_, rfl, ?_⟩
                    replace ho0 := R_V_base rfl ho0
                    replace HO_4 := kv HO_4 hb
                    replace HO_5 := kv HO_5 hb
                    replace HO_11 := kv HO_11 hb
                    replace HL1358_1 := kv HL1358_1 hb
                    replace HL1358_2 := kv HL1358_2 hb
                    replace HO1363 := kv HO1363 hb
                    replace HO1366 := kv HO1366 hb
                    have HO1372 := Aside0.mk (Kd.V_lower (Kd.V_mono (ok' := fun k_ => (P0_ k_ ∨ w.heap.size ≤ k_) ∧ some k_ ≠ (.slice Ao29 y1367.length co29 : Value).ownBlock ∧ k_ ≠ gb1351 ∧ k_ ≠ gb1359) ho0 (fun k_ hk_ => ⟨(.inr (Nat.le_trans (below_size (bu2 HB.out GE1351.out GE1359.out)) hk_)), (Kd.fresh' (Kd.N_lt (nu HO1369.out)) k_ hk_), (Kd.freshB (g := gb1351) (o := .cells #[.bool false, .slice none 0 0, .slice none 0 0] 67 (0, 0)) (ku BK1351.out) k_ hk_), (Kd.freshB (g := gb1359) (o := .cells #[.bool t1360, .slice Ao21 t1361.length co21, .slice Ao22 t1364.length co22] 67 (0, 0)) (ku BK1359.out) k_ hk_)⟩)) (below_size (bu2 HB.out GE1351.out GE1359.out)))
                    replace HO1369 := Aside0.mk (Kd.N_below (nu HO1369.out) hb)
                    replace BK1351 := kb BK1351 hb
                    replace BK1359 := kb BK1359 hb
                    replace HB := Aside0.mk (below_step (bu2 HB.out GE1351.out GE1359.out) hb)
                    (try clear hb)
                    (try clear hb2)
                    (try clear hk)
                    (try clear hi)
                    (try clear ho0)
                    refine hK.out _ _ ⟨bc BK1359 0, bc BK1359 1, bc BK1359 2⟩ (fun hHeld => ?_)
                    clear hK K
                    refine nq 27 ?_
                    exact norm_ (by first | (simp only [putAll, Act.put, List.setIfInBounds_toArray, List.set_cons_zero, List.set_cons_succ]; done) | (simp only [putAll, Act.put, List.setIfInBounds_toArray, List.set_cons_zero, List.set_cons_succ]; rfl)) (hJ7_8 (.slice Ao29 y1367.length co29, v1371) _ ⟨hHeld, (vu HL1358_1.out), (vu HL1358_2.out), (vu HO1363.out), (vu HO1366.out), (nu HO1369.out), (vu HO1372.out), (vu HO_11.out), (vu HO_4.out), (vu HO_5.out), (ku BK1351.out), (ku BK1359.out), (bu2 HB.out GE1351.out GE1359.out)⟩)
                   ·
                    skip
                    refine Kd.N_lit_step (Kd.slice 48 (Kd.int .u32)) _ 42 ?hg (N' := 31) ?hd (xs := ([x5_1, t1364] : List (List Int))) (inner := [.slice AoX5 x5_1.length coX5, .slice Ao22 t1364.length co22]) (ok := (fun k_ => (P0_ k_ ∨ w.heap.size ≤ k_) ∧ some k_ ≠ (.slice Ao29 y1367.length co29 : Value).ownBlock ∧ k_ ≠ gb1351 ∧ k_ ≠ gb1359)) (okp := (fun k_ => (P0_ k_ ∨ w.heap.size ≤ k_) ∧ some k_ ≠ (.slice Ao29 y1367.length co29 : Value).ownBlock ∧ k_ ≠ gb1351 ∧ k_ ≠ gb1359)) ?hr ?hp (fun _ hk => hk) ((show ∀ k_, w28.heap.size ≤ k_ → (fun k_ => (P0_ k_ ∨ w.heap.size ≤ k_) ∧ some k_ ≠ (.slice Ao29 y1367.length co29 : Value).ownBlock ∧ k_ ≠ gb1351 ∧ k_ ≠ gb1359) k_ from fun k_ hk => ⟨(.inr (Nat.le_trans (below_size (bu2 HB.out GE1351.out GE1359.out)) hk)), Kd.fresh' (Kd.N_lt (nu HO1369.out)) k_ hk, Kd.freshB (g := gb1351) (o := .cells #[.bool false, .slice none 0 0, .slice none 0 0] 67 (0, 0)) (ku BK1351.out) k_ hk, Kd.freshB (g := gb1359) (o := .cells #[.bool t1360, .slice Ao21 t1361.length co21, .slice Ao22 t1364.length co22] 67 (0, 0)) (ku BK1359.out) k_ hk⟩) _ (Nat.le_refl _)) (Below.refl _ _) (Nat.le_refl _) (by simp) ?_; (case hd => rfl); (case hg => rfl); (case hr => first | (go_simp; done) | (go_simp; rfl)); (case hp => exact (Reps.one (show Kd.FK (Kd.slice 48 (Kd.int .u32)) _ _ x5_1 [.slice AoX5 x5_1.length coX5] from (Kd.FK_slice_mk (Kd.V_reads' (vy ((fun k_ => (P0_ k_ ∨ w.heap.size ≤ k_) ∧ some k_ ≠ (.slice Ao29 y1367.length co29 : Value).ownBlock ∧ k_ ≠ gb1351 ∧ k_ ≠ gb1359)) HO_5.out)).2.1 (Kd.V_F (vy ((fun k_ => (P0_ k_ ∨ w.heap.size ≤ k_) ∧ some k_ ≠ (.slice Ao29 y1367.length co29 : Value).ownBlock ∧ k_ ≠ gb1351 ∧ k_ ≠ gb1359)) HO_5.out)))) (Reps.one (show Kd.FK (Kd.slice 48 (Kd.int .u32)) _ _ t1364 [.slice Ao22 t1364.length co22] from (Kd.FK_slice_mk (Kd.V_reads' (vy ((fun k_ => (P0_ k_ ∨ w.heap.size ≤ k_) ∧ some k_ ≠ (.slice Ao29 y1367.length co29 : Value).ownBlock ∧ k_ ≠ gb1351 ∧ k_ ≠ gb1359)) HO1366.out)).2.1 (Kd.V_F (vy ((fun k_ => (P0_ k_ ∨ w.heap.size ≤ k_) ∧ some k_ ≠ (.slice Ao29 y1367.length co29 : Value).ownBlock ∧ k_ ≠ gb1351 ∧ k_ ≠ gb1359)) HO1366.out)))) (Reps.none _ _))))
                    intro v1374 w30 ho31 hb hg_ hnew_
                    clear hg_ hnew_
                    (first | rw [← Ny1373.out] at ho31 | (simp only [Int.reduceToNat] at ho31; rw [← Ny1373.out] at ho31))
                    replace HO_4 := Aside0.mk (Kd.V_elder' (vu HO_4.out) (Kd.N_base ho31) hb)
                    replace HO_5 := Aside0.mk (Kd.V_elder' (vu HO_5.out) (Kd.N_base ho31) hb)
                    replace HO_11 := Aside0.mk (Kd.V_elder' (vu HO_11.out) (Kd.N_base ho31) hb)
                    replace HL1358_1 := Aside0.mk (Kd.V_elder' (vu HL1358_1.out) (Kd.N_base ho31) hb)
                    replace HL1358_2 := Aside0.mk (Kd.V_elder' (vu HL1358_2.out) (Kd.N_base ho31) hb)
                    replace HO1363 := Aside0.mk (Kd.V_elder' (vu HO1363.out) (Kd.N_base ho31) hb)
                    replace HO1366 := Aside0.mk (Kd.V_elder' (vu HO1366.out) (Kd.N_base ho31) hb)
                    replace HO1369 := Aside0.mk (Kd.N_elder' (nu HO1369.out) (Kd.N_base ho31) hb)
                    have HO1375 := Aside0.mk (Kd.N_lower ho31 (below_size (bu2 HB.out GE1351.out GE1359.out)))
                    replace BK1351 := kb BK1351 hb
                    replace BK1359 := kb BK1359 hb
                    replace HB := Aside0.mk (below_step (bu2 HB.out GE1351.out GE1359.out) hb)
                    clear hb ho31
                    refine hK.out _ _ ⟨bc BK1359 0, bc BK1359 1, bc BK1359 2⟩ (fun hHeld => ?_)
                    clear hK K
                    refine nq 31 ?_
                    exact norm_ (by first | (simp only [putAll, Act.put, List.setIfInBounds_toArray, List.set_cons_zero, List.set_cons_succ]; done) | (simp only [putAll, Act.put, List.setIfInBounds_toArray, List.set_cons_zero, List.set_cons_succ]; rfl)) (hJ7_12 ((.slice Ao29 y1367.length co29), v1374) _ ⟨hHeld, (vz HL1358_1.out), (vz HL1358_2.out), (vz HO1363.out), (vz HO1366.out), (by (with_reducible repeat (first | apply Kd.N_alloc | apply Kd.N_drewN | apply Kd.N_drew)); exact Kd.N_mono HO1369.out (fun _ hk => ⟨hk.1.1, ⟨hk.2, ⟨hk.1.2.1, hk.1.2.2⟩⟩⟩)), (nu HO1375.out), (vz HO_11.out), (vz HO_4.out), (vz HO_5.out), (ku BK1351.out), (ku BK1359.out), (bu2 HB.out GE1351.out GE1359.out)⟩)
                   ·
                    skip
                    refine box_step ?hg (N := 8) ?hd (cs := #[.bool false, .slice none 0 0, .slice none 0 0]) (t := 67) ?hr ?_; (case hd => rfl); (case hg => rfl); (case hr => first | (go_simp; done) | (go_simp; rfl))
                    intro gb1386 hg w29 hbox hb
                    replace HO_4 := ke HO_4 hg hb
                    replace HO_5 := ke HO_5 hg hb
                    replace HO_11 := ke HO_11 hg hb
                    replace HL1358_1 := ke HL1358_1 hg hb
                    replace HL1358_2 := ke HL1358_2 hg hb
                    replace HO1363 := ke HO1363 hg hb
                    replace HO1366 := ke HO1366 hg hb
                    replace HO1369 := Aside0.mk (Kd.N_below (Kd.N_elderB (nu HO1369.out) gb1386 (Nat.le_of_eq hg.symm)) hb)
                    have BK1386 := Aside0.mk (hbox)
                    have GW1386 := ng hg (bu2 HB.out GE1351.out GE1359.out)
                    have GE1386 := ng hg (bu2 HB.out GE1351.out GE1359.out)
                    replace HB := Aside0.mk (below_step (bu2 HB.out GE1351.out GE1359.out) hb)
                    have NB1351_1386 := nl hg BK1351
                    have NB1386_1351 := nr hg BK1351
                    replace BK1351 := kb BK1351 hb
                    have NB1359_1386 := nl hg BK1359
                    have NB1386_1359 := nr hg BK1359
                    replace BK1359 := kb BK1359 hb
                    clear hb hbox hg
                    refine hK.out _ _ ⟨bc BK1359 0, bc BK1359 1, bc BK1359 2⟩ (fun hHeld => ?_)
                    clear hK K
                    refine nq 8 ?_
                    exact norm_ (by first | (simp only [putAll, Act.put, List.setIfInBounds_toArray, List.set_cons_zero, List.set_cons_succ]; done) | (simp only [putAll, Act.put, List.setIfInBounds_toArray, List.set_cons_zero, List.set_cons_succ]; rfl)) (hJ7_15 ((.slice Ao29 y1367.length co29), gb1386) _ ⟨hHeld, (vz HL1358_1.out), (vz HL1358_2.out), (vz HO1363.out), (vz HO1366.out), (by (with_reducible repeat (first | apply Kd.N_alloc | apply Kd.N_drewN | apply Kd.N_drew)); exact Kd.N_mono HO1369.out (fun _ hk => ⟨hk.1.1, ⟨hk.1.2.1, ⟨hk.1.2.2, hk.2⟩⟩⟩)), (vz HO_11.out), (vz HO_4.out), (vz HO_5.out), (ku BK1351.out), (ku BK1359.out), (ku BK1386.out), GW1386.out, GE1386.out, NB1351_1386.out, NB1386_1351.out, NB1359_1386.out, NB1386_1359.out, (bu3 HB.out GE1351.out GE1359.out GE1386.out)⟩)
                 ·
                  skip
                  rintro ⟨v1374, gb1386⟩ w29 ⟨hS_, h0_, h1_, h2_, h3_, h4_, h5_, h6_, h7_, h8_, h9_, h10_, h11_, h12_, h13_, h14_, h15_, h16_, h17_⟩
                  have n0_ : Aside0 (Kd.V (Kd.int .u32) 48 w29 w.heap.size (fun k_ => (P0_ k_ ∨ w.heap.size ≤ k_) ∧ some k_ ≠ (v1374 : Value).ownBlock ∧ k_ ≠ gb1351 ∧ k_ ≠ gb1359 ∧ k_ ≠ gb1386) (.slice A1358_1 ((rd_T67 l0 x13_1).f1).length c1358_1) ((rd_T67 l0 x13_1).f1)) := ⟨h0_⟩
                  have n1_ : Aside0 (Kd.V (Kd.int .u32) 48 w29 w.heap.size (fun k_ => (P0_ k_ ∨ w.heap.size ≤ k_) ∧ some k_ ≠ (v1374 : Value).ownBlock ∧ k_ ≠ gb1351 ∧ k_ ≠ gb1359 ∧ k_ ≠ gb1386) (.slice A1358_2 ((rd_T67 l0 x13_1).f2).length c1358_2) ((rd_T67 l0 x13_1).f2)) := ⟨h1_⟩
                  have n2_ : Aside0 (Kd.V (Kd.int .u32) 48 w29 w.heap.size (fun k_ => (P0_ k_ ∨ w.heap.size ≤ k_) ∧ some k_ ≠ (v1374 : Value).ownBlock ∧ k_ ≠ gb1351 ∧ k_ ≠ gb1359 ∧ k_ ≠ gb1386) (.slice Ao21 t1361.length co21) t1361) := ⟨h2_⟩
                  have n3_ : Aside0 (Kd.V (Kd.int .u32) 48 w29 w.heap.size (fun k_ => (P0_ k_ ∨ w.heap.size ≤ k_) ∧ some k_ ≠ (v1374 : Value).ownBlock ∧ k_ ≠ gb1351 ∧ k_ ≠ gb1359 ∧ k_ ≠ gb1386) (.slice Ao22 t1364.length co22) t1364) := ⟨h3_⟩
                  have n4_ : Aside0 (Kd.N (Kd.slice 48 (Kd.int .u32)) 42 w29 w.heap.size (fun k_ => (P0_ k_ ∨ w.heap.size ≤ k_) ∧ k_ ≠ gb1351 ∧ k_ ≠ gb1359 ∧ k_ ≠ gb1386) v1374 y1373) := ⟨h4_⟩
                  have n5_ : Aside0 (Kd.V k67 67 w29 w.heap.size (fun k_ => (P0_ k_ ∨ w.heap.size ≤ k_) ∧ some k_ ≠ (v1374 : Value).ownBlock ∧ k_ ≠ gb1351 ∧ k_ ≠ gb1359 ∧ k_ ≠ gb1386) (.slice (some ad1358) l0.length c0) l0) := ⟨h5_⟩
                  have n6_ : Aside0 (Kd.V (Kd.int .u32) 48 w29 w.heap.size (fun k_ => (P0_ k_ ∨ w.heap.size ≤ k_) ∧ some k_ ≠ (v1374 : Value).ownBlock ∧ k_ ≠ gb1351 ∧ k_ ≠ gb1359 ∧ k_ ≠ gb1386) (.slice Ao25 x4_1.length co25) x4_1) := ⟨h6_⟩
                  have n7_ : Aside0 (Kd.V (Kd.int .u32) 48 w29 w.heap.size (fun k_ => (P0_ k_ ∨ w.heap.size ≤ k_) ∧ some k_ ≠ (v1374 : Value).ownBlock ∧ k_ ≠ gb1351 ∧ k_ ≠ gb1359 ∧ k_ ≠ gb1386) (.slice AoX5 x5_1.length coX5) x5_1) := ⟨h7_⟩
                  have n8_ : Aside0 (w29.heap[gb1351]? = some (.cells #[.bool false, .slice none 0 0, .slice none 0 0] 67 (0, 0))) := ⟨h8_⟩
                  have n9_ : Aside0 (w29.heap[gb1359]? = some (.cells #[.bool t1360, .slice Ao21 t1361.length co21, .slice Ao22 t1364.length co22] 67 (0, 0))) := ⟨h9_⟩
                  have n10_ : Aside0 (w29.heap[gb1386]? = some (.cells #[.bool false, .slice none 0 0, .slice none 0 0] 67 (0, 0))) := ⟨h10_⟩
                  have n11_ : Aside0 (w.heap.size ≤ gb1386) := ⟨h11_⟩
                  have n12_ : Aside0 (w.heap.size ≤ gb1386) := ⟨h12_⟩
                  have n13_ : Aside0 (gb1351 ≠ gb1386) := ⟨h13_⟩
                  have n14_ : Aside0 (gb1386 ≠ gb1351) := ⟨h14_⟩
                  have n15_ : Aside0 (gb1359 ≠ gb1386) := ⟨h15_⟩
                  have n16_ : Aside0 (gb1386 ≠ gb1359) := ⟨h16_⟩
                  have n17_ : Aside0 (Below w.heap.size w w29) := ⟨h17_⟩
                  clear HO_4 HO_5 HO_11 HL1358_1 HL1358_2 HO1363 HO1366 BK1351 BK1359 HB h0_ h1_ h2_ h3_ h4_ h5_ h6_ h7_ h8_ h9_ h10_ h11_ h12_ h13_ h14_ h15_ h16_ h17_
                  have HL1358_1 := n0_
                  have HL1358_2 := n1_
                  have HO1363 := n2_
                  have HO1366 := n3_
                  have HO1375 := n4_
                  have HO_11 := n5_
                  have HO_4 := n6_
                  have HO_5 := n7_
                  have BK1351 := n8_
                  have BK1359 := n9_
                  have BK1386 := n10_
                  have GW1386 := n11_
                  have GE1386 := n12_
                  have NB1351_1386 := n13_
                  have NB1386_1351 := n14_
                  have NB1359_1386 := n15_
                  have NB1386_1359 := n16_
                  have HB := n17_
                  clear n0_ n1_ n2_ n3_ n4_ n5_ n6_ n7_ n8_ n9_ n10_ n11_ n12_ n13_ n14_ n15_ n16_ n17_
                  have hHeld : w29.cell? ⟨gb1359, 0, none⟩ = some (.bool t1360) ∧ w29.cell? ⟨gb1359, 1, none⟩ = some (.slice Ao21 t1361.length co21) ∧ w29.cell? ⟨gb1359, 2, none⟩ = some (.slice Ao22 t1364.length co22) := hS_
                  refine norm_ (a' := ?_) ?_ ?_
                  rotate_left
                  ·
                   simp only [putAll, Act.put, List.setIfInBounds_toArray, List.set_cons_zero, List.set_cons_succ]
                   rfl
                  refine one_ (i := 7) (N := some 26) #[true, true, true, true, true, true, true, true, false, true, true, true, true, false, false, true, false] rfl rfl (one_of HT_.out (by kernel_rfl)) (by decide) (fun K hK => ?_)
                  refine Kd.N_lit_step (Kd.slice 48 (Kd.int .u32)) _ 42 ?hg (N' := 26) ?hd (xs := ([x4_1, t1361] : List (List Int))) (inner := [.slice Ao25 x4_1.length co25, .slice Ao21 t1361.length co21]) (ok := (fun k_ => (P0_ k_ ∨ w.heap.size ≤ k_) ∧ some k_ ≠ (v1374 : Value).ownBlock ∧ k_ ≠ gb1351 ∧ k_ ≠ gb1359 ∧ k_ ≠ gb1386)) (okp := (fun k_ => (P0_ k_ ∨ w.heap.size ≤ k_) ∧ some k_ ≠ (v1374 : Value).ownBlock ∧ k_ ≠ gb1351 ∧ k_ ≠ gb1359 ∧ k_ ≠ gb1386)) ?hr ?hp (fun _ hk => hk) ((show ∀ k_, w29.heap.size ≤ k_ → (fun k_ => (P0_ k_ ∨ w.heap.size ≤ k_) ∧ some k_ ≠ (v1374 : Value).ownBlock ∧ k_ ≠ gb1351 ∧ k_ ≠ gb1359 ∧ k_ ≠ gb1386) k_ from fun k_ hk => ⟨(.inr (Nat.le_trans (below_size (bu3 HB.out GE1351.out GE1359.out GE1386.out)) hk)), Kd.fresh' (Kd.N_lt (nu HO1375.out)) k_ hk, Kd.freshB (g := gb1351) (o := .cells #[.bool false, .slice none 0 0, .slice none 0 0] 67 (0, 0)) (ku BK1351.out) k_ hk, Kd.freshB (g := gb1359) (o := .cells #[.bool t1360, .slice Ao21 t1361.length co21, .slice Ao22 t1364.length co22] 67 (0, 0)) (ku BK1359.out) k_ hk, Kd.freshB (g := gb1386) (o := .cells #[.bool false, .slice none 0 0, .slice none 0 0] 67 (0, 0)) (ku BK1386.out) k_ hk⟩) _ (Nat.le_refl _)) (Below.refl _ _) (Nat.le_refl _) (by simp) ?_; (case hd => rfl); (case hg => rfl); (case hr => first | (go_simp; done) | (go_simp; rfl)); (case hp => exact (Reps.one (show Kd.FK (Kd.slice 48 (Kd.int .u32)) _ _ x4_1 [.slice Ao25 x4_1.length co25] from (Kd.FK_slice_mk (Kd.V_reads' (vy ((fun k_ => (P0_ k_ ∨ w.heap.size ≤ k_) ∧ some k_ ≠ (v1374 : Value).ownBlock ∧ k_ ≠ gb1351 ∧ k_ ≠ gb1359 ∧ k_ ≠ gb1386)) HO_4.out)).2.1 (Kd.V_F (vy ((fun k_ => (P0_ k_ ∨ w.heap.size ≤ k_) ∧ some k_ ≠ (v1374 : Value).ownBlock ∧ k_ ≠ gb1351 ∧ k_ ≠ gb1359 ∧ k_ ≠ gb1386)) HO_4.out)))) (Reps.one (show Kd.FK (Kd.slice 48 (Kd.int .u32)) _ _ t1361 [.slice Ao21 t1361.length co21] from (Kd.FK_slice_mk (Kd.V_reads' (vy ((fun k_ => (P0_ k_ ∨ w.heap.size ≤ k_) ∧ some k_ ≠ (v1374 : Value).ownBlock ∧ k_ ≠ gb1351 ∧ k_ ≠ gb1359 ∧ k_ ≠ gb1386)) HO1363.out)).2.1 (Kd.V_F (vy ((fun k_ => (P0_ k_ ∨ w.heap.size ≤ k_) ∧ some k_ ≠ (v1374 : Value).ownBlock ∧ k_ ≠ gb1351 ∧ k_ ≠ gb1359 ∧ k_ ≠ gb1386)) HO1363.out)))) (Reps.none _ _))))
                  intro v1368 w31 ho32 hb hg_ hnew_
                  clear hg_ hnew_
                  (first | rw [← Ny1367.out] at ho32 | (simp only [Int.reduceToNat] at ho32; rw [← Ny1367.out] at ho32))
                  replace HO_4 := Aside0.mk (Kd.V_elder' (vu HO_4.out) (Kd.N_base ho32) hb)
                  replace HO_5 := Aside0.mk (Kd.V_elder' (vu HO_5.out) (Kd.N_base ho32) hb)
                  replace HO_11 := Aside0.mk (Kd.V_elder' (vu HO_11.out) (Kd.N_base ho32) hb)
                  replace HL1358_1 := Aside0.mk (Kd.V_elder' (vu HL1358_1.out) (Kd.N_base ho32) hb)
                  replace HL1358_2 := Aside0.mk (Kd.V_elder' (vu HL1358_2.out) (Kd.N_base ho32) hb)
                  replace HO1363 := Aside0.mk (Kd.V_elder' (vu HO1363.out) (Kd.N_base ho32) hb)
                  replace HO1366 := Aside0.mk (Kd.V_elder' (vu HO1366.out) (Kd.N_base ho32) hb)
                  replace HO1375 := Aside0.mk (Kd.N_elder' (nu HO1375.out) (Kd.N_base ho32) hb)
                  have HO1369 := Aside0.mk (Kd.N_lower ho32 (below_size (bu3 HB.out GE1351.out GE1359.out GE1386.out)))
                  replace BK1351 := kb BK1351 hb
                  replace BK1359 := kb BK1359 hb
                  replace BK1386 := kb BK1386 hb
                  replace HB := Aside0.mk (below_step (bu3 HB.out GE1351.out GE1359.out GE1386.out) hb)
                  clear hb ho32
                  refine hK.out _ _ ⟨bc BK1359 0, bc BK1359 1, bc BK1359 2⟩ (fun hHeld => ?_)
                  clear hK K
                  refine nq 26 ?_
                  exact norm_ (by first | (simp only [putAll, Act.put, List.setIfInBounds_toArray, List.set_cons_zero, List.set_cons_succ]; done) | (simp only [putAll, Act.put, List.setIfInBounds_toArray, List.set_cons_zero, List.set_cons_succ]; rfl)) (hJ7_12_15 (v1368, v1374, gb1386) _ ⟨hHeld, (vz HL1358_1.out), (vz HL1358_2.out), (vz HO1363.out), (vz HO1366.out), (nu HO1369.out), (by (with_reducible repeat (first | apply Kd.N_alloc | apply Kd.N_drewN | apply Kd.N_drew)); exact Kd.N_mono HO1375.out (fun _ hk => ⟨hk.1.1, ⟨hk.2, ⟨hk.1.2.1, ⟨hk.1.2.2.1, hk.1.2.2.2⟩⟩⟩⟩)), (vz HO_11.out), (vz HO_4.out), (vz HO_5.out), (ku BK1351.out), (ku BK1359.out), (ku BK1386.out), GW1386.out, GE1386.out, NB1351_1386.out, NB1386_1351.out, NB1359_1386.out, NB1386_1359.out, (bu3 HB.out GE1351.out GE1359.out GE1386.out)⟩)
                ·
                 skip
                 rintro ⟨v1368, gb1386⟩ w29 ⟨hS_, h0_, h1_, h2_, h3_, h4_, h5_, h6_, h7_, h8_, h9_, h10_, h11_, h12_, h13_, h14_, h15_, h16_, h17_⟩
                 have n0_ : Aside0 (Kd.V (Kd.int .u32) 48 w29 w.heap.size (fun k_ => (P0_ k_ ∨ w.heap.size ≤ k_) ∧ some k_ ≠ (v1368 : Value).ownBlock ∧ k_ ≠ gb1351 ∧ k_ ≠ gb1359 ∧ k_ ≠ gb1386) (.slice A1358_1 ((rd_T67 l0 x13_1).f1).length c1358_1) ((rd_T67 l0 x13_1).f1)) := ⟨h0_⟩
                 have n1_ : Aside0 (Kd.V (Kd.int .u32) 48 w29 w.heap.size (fun k_ => (P0_ k_ ∨ w.heap.size ≤ k_) ∧ some k_ ≠ (v1368 : Value).ownBlock ∧ k_ ≠ gb1351 ∧ k_ ≠ gb1359 ∧ k_ ≠ gb1386) (.slice A1358_2 ((rd_T67 l0 x13_1).f2).length c1358_2) ((rd_T67 l0 x13_1).f2)) := ⟨h1_⟩
                 have n2_ : Aside0 (Kd.V (Kd.int .u32) 48 w29 w.heap.size (fun k_ => (P0_ k_ ∨ w.heap.size ≤ k_) ∧ some k_ ≠ (v1368 : Value).ownBlock ∧ k_ ≠ gb1351 ∧ k_ ≠ gb1359 ∧ k_ ≠ gb1386) (.slice Ao21 t1361.length co21) t1361) := ⟨h2_⟩
                 have n3_ : Aside0 (Kd.V (Kd.int .u32) 48 w29 w.heap.size (fun k_ => (P0_ k_ ∨ w.heap.size ≤ k_) ∧ some k_ ≠ (v1368 : Value).ownBlock ∧ k_ ≠ gb1351 ∧ k_ ≠ gb1359 ∧ k_ ≠ gb1386) (.slice Ao22 t1364.length co22) t1364) := ⟨h3_⟩
                 have n4_ : Aside0 (Kd.N (Kd.slice 48 (Kd.int .u32)) 42 w29 w.heap.size (fun k_ => (P0_ k_ ∨ w.heap.size ≤ k_) ∧ k_ ≠ gb1351 ∧ k_ ≠ gb1359 ∧ k_ ≠ gb1386) v1368 y1367) := ⟨h4_⟩
                 have n5_ : Aside0 (Kd.V k67 67 w29 w.heap.size (fun k_ => (P0_ k_ ∨ w.heap.size ≤ k_) ∧ some k_ ≠ (v1368 : Value).ownBlock ∧ k_ ≠ gb1351 ∧ k_ ≠ gb1359 ∧ k_ ≠ gb1386) (.slice (some ad1358) l0.length c0) l0) := ⟨h5_⟩
                 have n6_ : Aside0 (Kd.V (Kd.int .u32) 48 w29 w.heap.size (fun k_ => (P0_ k_ ∨ w.heap.size ≤ k_) ∧ some k_ ≠ (v1368 : Value).ownBlock ∧ k_ ≠ gb1351 ∧ k_ ≠ gb1359 ∧ k_ ≠ gb1386) (.slice Ao25 x4_1.length co25) x4_1) := ⟨h6_⟩
                 have n7_ : Aside0 (Kd.V (Kd.int .u32) 48 w29 w.heap.size (fun k_ => (P0_ k_ ∨ w.heap.size ≤ k_) ∧ some k_ ≠ (v1368 : Value).ownBlock ∧ k_ ≠ gb1351 ∧ k_ ≠ gb1359 ∧ k_ ≠ gb1386) (.slice AoX5 x5_1.length coX5) x5_1) := ⟨h7_⟩
                 have n8_ : Aside0 (w29.heap[gb1351]? = some (.cells #[.bool false, .slice none 0 0, .slice none 0 0] 67 (0, 0))) := ⟨h8_⟩
                 have n9_ : Aside0 (w29.heap[gb1359]? = some (.cells #[.bool t1360, .slice Ao21 t1361.length co21, .slice Ao22 t1364.length co22] 67 (0, 0))) := ⟨h9_⟩
                 have n10_ : Aside0 (w29.heap[gb1386]? = some (.cells #[.bool false, .slice none 0 0, .slice none 0 0] 67 (0, 0))) := ⟨h10_⟩
                 have n11_ : Aside0 (w.heap.size ≤ gb1386) := ⟨h11_⟩
                 have n12_ : Aside0 (w.heap.size ≤ gb1386) := ⟨h12_⟩
                 have n13_ : Aside0 (gb1351 ≠ gb1386) := ⟨h13_⟩
                 have n14_ : Aside0 (gb1386 ≠ gb1351) := ⟨h14_⟩
                 have n15_ : Aside0 (gb1359 ≠ gb1386) := ⟨h15_⟩
                 have n16_ : Aside0 (gb1386 ≠ gb1359) := ⟨h16_⟩
                 have n17_ : Aside0 (Below w.heap.size w w29) := ⟨h17_⟩
                 clear HO_4 HO_5 HO_11 HL1358_1 HL1358_2 HO1363 HO1366 BK1351 BK1359 HB h0_ h1_ h2_ h3_ h4_ h5_ h6_ h7_ h8_ h9_ h10_ h11_ h12_ h13_ h14_ h15_ h16_ h17_
                 have HL1358_1 := n0_
                 have HL1358_2 := n1_
                 have HO1363 := n2_
                 have HO1366 := n3_
                 have HO1369 := n4_
                 have HO_11 := n5_
                 have HO_4 := n6_
                 have HO_5 := n7_
                 have BK1351 := n8_
                 have BK1359 := n9_
                 have BK1386 := n10_
                 have GW1386 := n11_
                 have GE1386 := n12_
                 have NB1351_1386 := n13_
                 have NB1386_1351 := n14_
                 have NB1359_1386 := n15_
                 have NB1386_1359 := n16_
                 have HB := n17_
                 clear n0_ n1_ n2_ n3_ n4_ n5_ n6_ n7_ n8_ n9_ n10_ n11_ n12_ n13_ n14_ n15_ n16_ n17_
                 have hHeld : w29.cell? ⟨gb1359, 0, none⟩ = some (.bool t1360) ∧ w29.cell? ⟨gb1359, 1, none⟩ = some (.slice Ao21 t1361.length co21) ∧ w29.cell? ⟨gb1359, 2, none⟩ = some (.slice Ao22 t1364.length co22) := hS_
                 obtain ⟨Ao30, co30, eo30⟩ := Kd.N_slice HO1369.out
                 (first | subst eo30 | (injection eo30 with f1_ f2_ f3_; have f4_ := f1_.symm; have f5_ := f3_.symm; clear f1_ f2_ f3_; subst f4_; subst f5_))
                 refine norm_ (a' := ?_) ?_ ?_
                 rotate_left
                 ·
                  simp only [putAll, Act.put, List.setIfInBounds_toArray, List.set_cons_zero, List.set_cons_succ]
                  rfl
                 refine two_ (i := 8) (j := 12) (Ni := some 27) (Nj := some 31) #[true, true, true, true, true, true, true, true, true, true, true, true, false, false, false, true, false] #[true, true, true, true, true, true, true, true, false, true, true, true, true, false, false, true, false] rfl rfl rfl rfl (two_of HT_.out (by kernel_rfl)) (by decide) (by decide) (fun K hK => ?_) (fun K hK => ?_)
                 ·
                  skip
                  refine goes_ Try.func145 (by kernel_rfl) rfl #[.slice Ao30 y1367.length co30] (by rfl) rfl rfl lu ?_
                  with_reducible refine (nat_Mul.calls k1 _ _ y1367 t1370 _ ?side1 ?side2 A11.out).mono ?_
                  (case side1 => exact cu (Kd.N_reads' HO1369.out).2.2)
                  (case side2 => exact (Kd.N_reads' HO1369.out).2.1)
                  rintro e w31 ⟨v1371, rfl, ho0, hb⟩
                  refine ⟨_, rfl, ?_⟩
                  replace ho0 := R_V_base rfl ho0
                  replace HO_4 := kv HO_4 hb
                  replace HO_5 := kv HO_5 hb
                  replace HO_11 := kv HO_11 hb
                  replace HL1358_1 := kv HL1358_1 hb
                  replace HL1358_2 := kv HL1358_2 hb
                  replace HO1363 := kv HO1363 hb
                  replace HO1366 := kv HO1366 hb
                  have HO1372 := Aside0.mk (Kd.V_lower (Kd.V_mono (ok' := fun k_ => (P0_ k_ ∨ w.heap.size ≤ k_) ∧ some k_ ≠ (.slice Ao30 y1367.length co30 : Value).ownBlock ∧ k_ ≠ gb1351 ∧ k_ ≠ gb1359 ∧ k_ ≠ gb1386) ho0 (fun k_ hk_ => ⟨(.inr (Nat.le_trans (below_size (bu3 HB.out GE1351.out GE1359.out GE1386.out)) hk_)), (Kd.fresh' (Kd.N_lt (nu HO1369.out)) k_ hk_), (Kd.freshB (g := gb1351) (o := .cells #[.bool false, .slice none 0 0, .slice none 0 0] 67 (0, 0)) (ku BK1351.out) k_ hk_), (Kd.freshB (g := gb1359) (o := .cells #[.bool t1360, .slice Ao21 t1361.length co21, .slice Ao22 t1364.length co22] 67 (0, 0)) (ku BK1359.out) k_ hk_), (Kd.freshB (g := gb1386) (o := .cells #[.bool false, .slice none 0 0, .slice none 0 0] 67 (0, 0)) (ku BK1386.out) k_ hk_)⟩)) (below_size (bu3 HB.out GE1351.out GE1359.out GE1386.out)))
                  replace HO1369 := Aside0.mk (Kd.N_below (nu HO1369.out) hb)
                  replace BK1351 := kb BK1351 hb
                  replace BK1359 := kb BK1359 hb
                  replace BK1386 := kb BK1386 hb
                  replace HB := Aside0.mk (below_step (bu3 HB.out GE1351.out GE1359.out GE1386.out) hb)
                  (try clear hb)
                  (try clear hb2)
                  (try clear hk)
                  (try clear hi)
                  (try clear ho0)
                  refine hK.out _ _ ⟨bc BK1359 0, bc BK1359 1, bc BK1359 2⟩ (fun hHeld => ?_)
                  clear hK K
                  refine nq 27 ?_
                  exact norm_ (by first | (simp only [putAll, Act.put, List.setIfInBounds_toArray, List.set_cons_zero, List.set_cons_succ]; done) | (simp only [putAll, Act.put, List.setIfInBounds_toArray, List.set_cons_zero, List.set_cons_succ]; rfl)) (hJ7_8_15 (.slice Ao30 y1367.length co30, v1371, gb1386) _ ⟨hHeld, (vu HL1358_1.out), (vu HL1358_2.out), (vu HO1363.out), (vu HO1366.out), (nu HO1369.out), (vu HO1372.out), (vu HO_11.out), (vu HO_4.out), (vu HO_5.out), (ku BK1351.out), (ku BK1359.out), (ku BK1386.out), GW1386.out, GE1386.out, NB1351_1386.out, NB1386_1351.out, NB1359_1386.out, NB1386_1359.out, (bu3 HB.out GE1351.out GE1359.out GE1386.out)⟩)
                 ·
                  skip
                  refine Kd.N_lit_step (Kd.slice 48 (Kd.int .u32)) _ 42 ?hg (N' := 31) ?hd (xs := ([x5_1, t1364] : List (List Int))) (inner := [.slice AoX5 x5_1.length coX5, .slice Ao22 t1364.length co22]) (ok := (fun k_ => (P0_ k_ ∨ w.heap.size ≤ k_) ∧ some k_ ≠ (.slice Ao30 y1367.length co30 : Value).ownBlock ∧ k_ ≠ gb1351 ∧ k_ ≠ gb1359 ∧ k_ ≠ gb1386)) (okp := (fun k_ => (P0_ k_ ∨ w.heap.size ≤ k_) ∧ some k_ ≠ (.slice Ao30 y1367.length co30 : Value).ownBlock ∧ k_ ≠ gb1351 ∧ k_ ≠ gb1359 ∧ k_ ≠ gb1386)) ?hr ?hp (fun _ hk => hk) ((show ∀ k_, w29.heap.size ≤ k_ → (fun k_ => (P0_ k_ ∨ w.heap.size ≤ k_) ∧ some k_ ≠ (.slice Ao30 y1367.length co30 : Value).ownBlock ∧ k_ ≠ gb1351 ∧ k_ ≠ gb1359 ∧ k_ ≠ gb1386) k_ from fun k_ hk => ⟨(.inr (Nat.le_trans (below_size (bu3 HB.out GE1351.out GE1359.out GE1386.out)) hk)), Kd.fresh' (Kd.N_lt (nu HO1369.out)) k_ hk, Kd.freshB (g := gb1351) (o := .cells #[.bool false, .slice none 0 0, .slice none 0 0] 67 (0, 0)) (ku BK1351.out) k_ hk, Kd.freshB (g := gb1359) (o := .cells #[.bool t1360, .slice Ao21 t1361.length co21, .slice Ao22 t1364.length co22] 67 (0, 0)) (ku BK1359.out) k_ hk, Kd.freshB (g := gb1386) (o := .cells #[.bool false, .slice none 0 0, .slice none 0 0] 67 (0, 0)) (ku BK1386.out) k_ hk⟩) _ (Nat.le_refl _)) (Below.refl _ _) (Nat.le_refl _) (by simp) ?_; (case hd => rfl); (case hg => rfl); (case hr => first | (go_simp; done) | (go_simp; rfl)); (case hp => exact (Reps.one (show Kd.FK (Kd.slice 48 (Kd.int .u32)) _ _ x5_1 [.slice AoX5 x5_1.length coX5] from (Kd.FK_slice_mk (Kd.V_reads' (vy ((fun k_ => (P0_ k_ ∨ w.heap.size ≤ k_) ∧ some k_ ≠ (.slice Ao30 y1367.length co30 : Value).ownBlock ∧ k_ ≠ gb1351 ∧ k_ ≠ gb1359 ∧ k_ ≠ gb1386)) HO_5.out)).2.1 (Kd.V_F (vy ((fun k_ => (P0_ k_ ∨ w.heap.size ≤ k_) ∧ some k_ ≠ (.slice Ao30 y1367.length co30 : Value).ownBlock ∧ k_ ≠ gb1351 ∧ k_ ≠ gb1359 ∧ k_ ≠ gb1386)) HO_5.out)))) (Reps.one (show Kd.FK (Kd.slice 48 (Kd.int .u32)) _ _ t1364 [.slice Ao22 t1364.length co22] from (Kd.FK_slice_mk (Kd.V_reads' (vy ((fun k_ => (P0_ k_ ∨ w.heap.size ≤ k_) ∧ some k_ ≠ (.slice Ao30 y1367.length co30 : Value).ownBlock ∧ k_ ≠ gb1351 ∧ k_ ≠ gb1359 ∧ k_ ≠ gb1386)) HO1366.out)).2.1 (Kd.V_F (vy ((fun k_ => (P0_ k_ ∨ w.heap.size ≤ k_) ∧ some k_ ≠ (.slice Ao30 y1367.length co30 : Value).ownBlock ∧ k_ ≠ gb1351 ∧ k_ ≠ gb1359 ∧ k_ ≠ gb1386)) HO1366.out)))) (Reps.none _ _))))
                  intro v1374 w31 ho32 hb hg_ hnew_
                  clear hg_ hnew_
                  (first | rw [← Ny1373.out] at ho32 | (simp only [Int.reduceToNat] at ho32; rw [← Ny1373.out] at ho32))
                  replace HO_4 := Aside0.mk (Kd.V_elder' (vu HO_4.out) (Kd.N_base ho32) hb)
                  replace HO_5 := Aside0.mk (Kd.V_elder' (vu HO_5.out) (Kd.N_base ho32) hb)
                  replace HO_11 := Aside0.mk (Kd.V_elder' (vu HO_11.out) (Kd.N_base ho32) hb)
                  replace HL1358_1 := Aside0.mk (Kd.V_elder' (vu HL1358_1.out) (Kd.N_base ho32) hb)
                  replace HL1358_2 := Aside0.mk (Kd.V_elder' (vu HL1358_2.out) (Kd.N_base ho32) hb)
                  replace HO1363 := Aside0.mk (Kd.V_elder' (vu HO1363.out) (Kd.N_base ho32) hb)
                  replace HO1366 := Aside0.mk (Kd.V_elder' (vu HO1366.out) (Kd.N_base ho32) hb)
                  replace HO1369 := Aside0.mk (Kd.N_elder' (nu HO1369.out) (Kd.N_base ho32) hb)
                  have HO1375 := Aside0.mk (Kd.N_lower ho32 (below_size (bu3 HB.out GE1351.out GE1359.out GE1386.out)))
                  replace BK1351 := kb BK1351 hb
                  replace BK1359 := kb BK1359 hb
                  replace BK1386 := kb BK1386 hb
                  replace HB := Aside0.mk (below_step (bu3 HB.out GE1351.out GE1359.out GE1386.out) hb)
                  clear hb ho32
                  refine hK.out _ _ ⟨bc BK1359 0, bc BK1359 1, bc BK1359 2⟩ (fun hHeld => ?_)
                  clear hK K
                  refine nq 31 ?_
                  exact norm_ (by first | (simp only [putAll, Act.put, List.setIfInBounds_toArray, List.set_cons_zero, List.set_cons_succ]; done) | (simp only [putAll, Act.put, List.setIfInBounds_toArray, List.set_cons_zero, List.set_cons_succ]; rfl)) (hJ7_12_15 ((.slice Ao30 y1367.length co30), v1374, gb1386) _ ⟨hHeld, (vz HL1358_1.out), (vz HL1358_2.out), (vz HO1363.out), (vz HO1366.out), (by (with_reducible repeat (first | apply Kd.N_alloc | apply Kd.N_drewN | apply Kd.N_drew)); exact Kd.N_mono HO1369.out (fun _ hk => ⟨hk.1.1, ⟨hk.2, ⟨hk.1.2.1, ⟨hk.1.2.2.1, hk.1.2.2.2⟩⟩⟩⟩)), (nu HO1375.out), (vz HO_11.out), (vz HO_4.out), (vz HO_5.out), (ku BK1351.out), (ku BK1359.out), (ku BK1386.out), GW1386.out, GE1386.out, NB1351_1386.out, NB1386_1351.out, NB1359_1386.out, NB1386_1359.out, (bu3 HB.out GE1351.out GE1359.out GE1386.out)⟩)
               ·
                skip
                rintro ⟨v1368, v1374⟩ w31 ⟨hS_, h0_, h1_, h2_, h3_, h4_, h5_, h6_, h7_, h8_, h9_, h10_, h11_⟩
                have n0_ : Aside0 (Kd.V (Kd.int .u32) 48 w31 w.heap.size (fun k_ => (P0_ k_ ∨ w.heap.size ≤ k_) ∧ some k_ ≠ (v1368 : Value).ownBlock ∧ some k_ ≠ (v1374 : Value).ownBlock ∧ k_ ≠ gb1351 ∧ k_ ≠ gb1359) (.slice A1358_1 ((rd_T67 l0 x13_1).f1).length c1358_1) ((rd_T67 l0 x13_1).f1)) := ⟨h0_⟩
                have n1_ : Aside0 (Kd.V (Kd.int .u32) 48 w31 w.heap.size (fun k_ => (P0_ k_ ∨ w.heap.size ≤ k_) ∧ some k_ ≠ (v1368 : Value).ownBlock ∧ some k_ ≠ (v1374 : Value).ownBlock ∧ k_ ≠ gb1351 ∧ k_ ≠ gb1359) (.slice A1358_2 ((rd_T67 l0 x13_1).f2).length c1358_2) ((rd_T67 l0 x13_1).f2)) := ⟨h1_⟩
                have n2_ : Aside0 (Kd.V (Kd.int .u32) 48 w31 w.heap.size (fun k_ => (P0_ k_ ∨ w.heap.size ≤ k_) ∧ some k_ ≠ (v1368 : Value).ownBlock ∧ some k_ ≠ (v1374 : Value).ownBlock ∧ k_ ≠ gb1351 ∧ k_ ≠ gb1359) (.slice Ao21 t1361.length co21) t1361) := ⟨h2_⟩
                have n3_ : Aside0 (Kd.V (Kd.int .u32) 48 w31 w.heap.size (fun k_ => (P0_ k_ ∨ w.heap.size ≤ k_) ∧ some k_ ≠ (v1368 : Value).ownBlock ∧ some k_ ≠ (v1374 : Value).ownBlock ∧ k_ ≠ gb1351 ∧ k_ ≠ gb1359) (.slice Ao22 t1364.length co22) t1364) := ⟨h3_⟩
                have n4_ : Aside0 (Kd.N (Kd.slice 48 (Kd.int .u32)) 42 w31 w.heap.size (fun k_ => (P0_ k_ ∨ w.heap.size ≤ k_) ∧ some k_ ≠ (v1374 : Value).ownBlock ∧ k_ ≠ gb1351 ∧ k_ ≠ gb1359) v1368 y1367) := ⟨h4_⟩
                have n5_ : Aside0 (Kd.N (Kd.slice 48 (Kd.int .u32)) 42 w31 w.heap.size (fun k_ => (P0_ k_ ∨ w.heap.size ≤ k_) ∧ some k_ ≠ (v1368 : Value).ownBlock ∧ k_ ≠ gb1351 ∧ k_ ≠ gb1359) v1374 y1373) := ⟨h5_⟩
                have n6_ : Aside0 (Kd.V k67 67 w31 w.heap.size (fun k_ => (P0_ k_ ∨ w.heap.size ≤ k_) ∧ some k_ ≠ (v1368 : Value).ownBlock ∧ some k_ ≠ (v1374 : Value).ownBlock ∧ k_ ≠ gb1351 ∧ k_ ≠ gb1359) (.slice (some ad1358) l0.length c0) l0) := ⟨h6_⟩
                have n7_ : Aside0 (Kd.V (Kd.int .u32) 48 w31 w.heap.size (fun k_ => (P0_ k_ ∨ w.heap.size ≤ k_) ∧ some k_ ≠ (v1368 : Value).ownBlock ∧ some k_ ≠ (v1374 : Value).ownBlock ∧ k_ ≠ gb1351 ∧ k_ ≠ gb1359) (.slice Ao25 x4_1.length co25) x4_1) := ⟨h7_⟩
                have n8_ : Aside0 (Kd.V (Kd.int .u32) 48 w31 w.heap.size (fun k_ => (P0_ k_ ∨ w.heap.size ≤ k_) ∧ some k_ ≠ (v1368 : Value).ownBlock ∧ some k_ ≠ (v1374 : Value).ownBlock ∧ k_ ≠ gb1351 ∧ k_ ≠ gb1359) (.slice AoX5 x5_1.length coX5) x5_1) := ⟨h8_⟩
                have n9_ : Aside0 (w31.heap[gb1351]? = some (.cells #[.bool false, .slice none 0 0, .slice none 0 0] 67 (0, 0))) := ⟨h9_⟩
                have n10_ : Aside0 (w31.heap[gb1359]? = some (.cells #[.bool t1360, .slice Ao21 t1361.length co21, .slice Ao22 t1364.length co22] 67 (0, 0))) := ⟨h10_⟩
                have n11_ : Aside0 (Below w.heap.size w w31) := ⟨h11_⟩
                clear HO_4 HO_5 HO_11 HL1358_1 HL1358_2 HO1363 HO1366 BK1351 BK1359 HB h0_ h1_ h2_ h3_ h4_ h5_ h6_ h7_ h8_ h9_ h10_ h11_
                have HL1358_1 := n0_
                have HL1358_2 := n1_
                have HO1363 := n2_
                have HO1366 := n3_
                have HO1369 := n4_
                have HO1375 := n5_
                have HO_11 := n6_
                have HO_4 := n7_
                have HO_5 := n8_
                have BK1351 := n9_
                have BK1359 := n10_
                have HB := n11_
                clear n0_ n1_ n2_ n3_ n4_ n5_ n6_ n7_ n8_ n9_ n10_ n11_
                have hHeld : w31.cell? ⟨gb1359, 0, none⟩ = some (.bool t1360) ∧ w31.cell? ⟨gb1359, 1, none⟩ = some (.slice Ao21 t1361.length co21) ∧ w31.cell? ⟨gb1359, 2, none⟩ = some (.slice Ao22 t1364.length co22) := hS_
                obtain ⟨Ao32, co32, eo32⟩ := Kd.N_slice HO1369.out
                (first | subst eo32 | (injection eo32 with f1_ f2_ f3_; have f4_ := f1_.symm; have f5_ := f3_.symm; clear f1_ f2_ f3_; subst f4_; subst f5_))
                refine norm_ (a' := ?_) ?_ ?_
                rotate_left
                ·
                 simp only [putAll, Act.put, List.setIfInBounds_toArray, List.set_cons_zero, List.set_cons_succ]
                 rfl
                refine two_ (i := 8) (j := 15) (Ni := some 27) (Nj := some 8) #[true, true, true, true, true, true, true, true, true, true, true, true, true, false, false, false, false] #[true, true, true, true, true, true, true, true, false, true, true, true, true, false, false, true, false] rfl rfl rfl rfl (two_of HT_.out (by kernel_rfl)) (by decide) (by decide) (fun K hK => ?_) (fun K hK => ?_)
                ·
                 skip
                 refine goes_ Try.func145 (by kernel_rfl) rfl #[.slice Ao32 y1367.length co32] (by rfl) rfl rfl lu ?_
                 with_reducible refine (nat_Mul.calls k1 _ _ y1367 t1370 _ ?side1 ?side2 A11.out).mono ?_
                 (case side1 => exact cu (Kd.N_reads' HO1369.out).2.2)
                 (case side2 => exact (Kd.N_reads' HO1369.out).2.1)
                 rintro e w33 ⟨v1371, rfl, ho0, hb⟩
                 refine ⟨_, rfl, ?_⟩
                 replace ho0 := R_V_base rfl ho0
                 replace HO_4 := kv HO_4 hb
                 replace HO_5 := kv HO_5 hb
                 replace HO_11 := kv HO_11 hb
                 replace HL1358_1 := kv HL1358_1 hb
                 replace HL1358_2 := kv HL1358_2 hb
                 replace HO1363 := kv HO1363 hb
                 replace HO1366 := kv HO1366 hb
                 have HO1372 := Aside0.mk (Kd.V_lower (Kd.V_mono (ok' := fun k_ => (P0_ k_ ∨ w.heap.size ≤ k_) ∧ some k_ ≠ (.slice Ao32 y1367.length co32 : Value).ownBlock ∧ some k_ ≠ (v1374 : Value).ownBlock ∧ k_ ≠ gb1351 ∧ k_ ≠ gb1359) ho0 (fun k_ hk_ => ⟨(.inr (Nat.le_trans (below_size (bu2 HB.out GE1351.out GE1359.out)) hk_)), (Kd.fresh' (Kd.N_lt (nu HO1369.out)) k_ hk_), (Kd.fresh' (Kd.N_lt (nu HO1375.out)) k_ hk_), (Kd.freshB (g := gb1351) (o := .cells #[.bool false, .slice none 0 0, .slice none 0 0] 67 (0, 0)) (ku BK1351.out) k_ hk_), (Kd.freshB (g := gb1359) (o := .cells #[.bool t1360, .slice Ao21 t1361.length co21, .slice Ao22 t1364.length co22] 67 (0, 0)) (ku BK1359.out) k_ hk_)⟩)) (below_size (bu2 HB.out GE1351.out GE1359.out)))
                 replace HO1369 := Aside0.mk (Kd.N_below (nu HO1369.out) hb)
                 replace HO1375 := Aside0.mk (Kd.N_below (nu HO1375.out) hb)
                 replace BK1351 := kb BK1351 hb
                 replace BK1359 := kb BK1359 hb
                 replace HB := Aside0.mk (below_step (bu2 HB.out GE1351.out GE1359.out) hb)
                 (try clear hb)
                 (try clear hb2)
                 (try clear hk)
                 (try clear hi)
                 (try clear ho0)
                 refine hK.out _ _ ⟨bc BK1359 0, bc BK1359 1, bc BK1359 2⟩ (fun hHeld => ?_)
                 clear hK K
                 refine nq 27 ?_
                 exact norm_ (by first | (simp only [putAll, Act.put, List.setIfInBounds_toArray, List.set_cons_zero, List.set_cons_succ]; done) | (simp only [putAll, Act.put, List.setIfInBounds_toArray, List.set_cons_zero, List.set_cons_succ]; rfl)) (hJ7_8_12 (.slice Ao32 y1367.length co32, v1371, v1374) _ ⟨hHeld, (vu HL1358_1.out), (vu HL1358_2.out), (vu HO1363.out), (vu HO1366.out), (nu HO1369.out), (vu HO1372.out), (nu HO1375.out), (vu HO_11.out), (vu HO_4.out), (vu HO_5.out), (ku BK1351.out), (ku BK1359.out), (bu2 HB.out GE1351.out GE1359.out)⟩)
                ·
                 skip
                 refine box_step ?hg (N := 8) ?hd (cs := #[.bool false, .slice none 0 0, .slice none 0 0]) (t := 67) ?hr ?_; (case hd => rfl); (case hg => rfl); (case hr => first | (go_simp; done) | (go_simp; rfl))
                 intro gb1386 hg w32 hbox hb
                 replace HO_4 := ke HO_4 hg hb
                 replace HO_5 := ke HO_5 hg hb
                 replace HO_11 := ke HO_11 hg hb
                 replace HL1358_1 := ke HL1358_1 hg hb
                 replace HL1358_2 := ke HL1358_2 hg hb
                 replace HO1363 := ke HO1363 hg hb
                 replace HO1366 := ke HO1366 hg hb
                 replace HO1369 := Aside0.mk (Kd.N_below (Kd.N_elderB (nu HO1369.out) gb1386 (Nat.le_of_eq hg.symm)) hb)
                 replace HO1375 := Aside0.mk (Kd.N_below (Kd.N_elderB (nu HO1375.out) gb1386 (Nat.le_of_eq hg.symm)) hb)
                 have BK1386 := Aside0.mk (hbox)
                 have GW1386 := ng hg (bu2 HB.out GE1351.out GE1359.out)
                 have GE1386 := ng hg (bu2 HB.out GE1351.out GE1359.out)
                 replace HB := Aside0.mk (below_step (bu2 HB.out GE1351.out GE1359.out) hb)
                 have NB1351_1386 := nl hg BK1351
                 have NB1386_1351 := nr hg BK1351
                 replace BK1351 := kb BK1351 hb
                 have NB1359_1386 := nl hg BK1359
                 have NB1386_1359 := nr hg BK1359
                 replace BK1359 := kb BK1359 hb
                 clear hb hbox hg
                 refine hK.out _ _ ⟨bc BK1359 0, bc BK1359 1, bc BK1359 2⟩ (fun hHeld => ?_)
                 clear hK K
                 refine nq 8 ?_
                 exact norm_ (by first | (simp only [putAll, Act.put, List.setIfInBounds_toArray, List.set_cons_zero, List.set_cons_succ]; done) | (simp only [putAll, Act.put, List.setIfInBounds_toArray, List.set_cons_zero, List.set_cons_succ]; rfl)) (hJ7_12_15 ((.slice Ao32 y1367.length co32), v1374, gb1386) _ ⟨hHeld, (vz HL1358_1.out), (vz HL1358_2.out), (vz HO1363.out), (vz HO1366.out), (by (with_reducible repeat (first | apply Kd.N_alloc | apply Kd.N_drewN | apply Kd.N_drew)); exact Kd.N_mono HO1369.out (fun _ hk => ⟨hk.1.1, ⟨hk.1.2.1, ⟨hk.1.2.2.1, ⟨hk.1.2.2.2, hk.2⟩⟩⟩⟩)), (by (with_reducible repeat (first | apply Kd.N_alloc | apply Kd.N_drewN | apply Kd.N_drew)); exact Kd.N_mono HO1375.out (fun _ hk => ⟨hk.1.1, ⟨hk.1.2.1, ⟨hk.1.2.2.1, ⟨hk.1.2.2.2, hk.2⟩⟩⟩⟩)), (vz HO_11.out), (vz HO_4.out), (vz HO_5.out), (ku BK1351.out), (ku BK1359.out), (ku BK1386.out), GW1386.out, GE1386.out, NB1351_1386.out, NB1386_1351.out, NB1359_1386.out, NB1386_1359.out, (bu3 HB.out GE1351.out GE1359.out GE1386.out)⟩)
              ·
               skip
               rintro ⟨v1368, v1371⟩ w30 ⟨hS_, h0_, h1_, h2_, h3_, h4_, h5_, h6_, h7_, h8_, h9_, h10_, h11_⟩
               have n0_ : Aside0 (Kd.V (Kd.int .u32) 48 w30 w.heap.size (fun k_ => (P0_ k_ ∨ w.heap.size ≤ k_) ∧ some k_ ≠ (v1368 : Value).ownBlock ∧ k_ ≠ gb1351 ∧ k_ ≠ gb1359) (.slice A1358_1 ((rd_T67 l0 x13_1).f1).length c1358_1) ((rd_T67 l0 x13_1).f1)) := ⟨h0_⟩
               have n1_ : Aside0 (Kd.V (Kd.int .u32) 48 w30 w.heap.size (fun k_ => (P0_ k_ ∨ w.heap.size ≤ k_) ∧ some k_ ≠ (v1368 : Value).ownBlock ∧ k_ ≠ gb1351 ∧ k_ ≠ gb1359) (.slice A1358_2 ((rd_T67 l0 x13_1).f2).length c1358_2) ((rd_T67 l0 x13_1).f2)) := ⟨h1_⟩
               have n2_ : Aside0 (Kd.V (Kd.int .u32) 48 w30 w.heap.size (fun k_ => (P0_ k_ ∨ w.heap.size ≤ k_) ∧ some k_ ≠ (v1368 : Value).ownBlock ∧ k_ ≠ gb1351 ∧ k_ ≠ gb1359) (.slice Ao21 t1361.length co21) t1361) := ⟨h2_⟩
               have n3_ : Aside0 (Kd.V (Kd.int .u32) 48 w30 w.heap.size (fun k_ => (P0_ k_ ∨ w.heap.size ≤ k_) ∧ some k_ ≠ (v1368 : Value).ownBlock ∧ k_ ≠ gb1351 ∧ k_ ≠ gb1359) (.slice Ao22 t1364.length co22) t1364) := ⟨h3_⟩
               have n4_ : Aside0 (Kd.N (Kd.slice 48 (Kd.int .u32)) 42 w30 w.heap.size (fun k_ => (P0_ k_ ∨ w.heap.size ≤ k_) ∧ k_ ≠ gb1351 ∧ k_ ≠ gb1359) v1368 y1367) := ⟨h4_⟩
               have n5_ : Aside0 (Kd.V (Kd.int .u32) 48 w30 w.heap.size (fun k_ => (P0_ k_ ∨ w.heap.size ≤ k_) ∧ some k_ ≠ (v1368 : Value).ownBlock ∧ k_ ≠ gb1351 ∧ k_ ≠ gb1359) v1371 t1370) := ⟨h5_⟩
               have n6_ : Aside0 (Kd.V k67 67 w30 w.heap.size (fun k_ => (P0_ k_ ∨ w.heap.size ≤ k_) ∧ some k_ ≠ (v1368 : Value).ownBlock ∧ k_ ≠ gb1351 ∧ k_ ≠ gb1359) (.slice (some ad1358) l0.length c0) l0) := ⟨h6_⟩
               have n7_ : Aside0 (Kd.V (Kd.int .u32) 48 w30 w.heap.size (fun k_ => (P0_ k_ ∨ w.heap.size ≤ k_) ∧ some k_ ≠ (v1368 : Value).ownBlock ∧ k_ ≠ gb1351 ∧ k_ ≠ gb1359) (.slice Ao25 x4_1.length co25) x4_1) := ⟨h7_⟩
               have n8_ : Aside0 (Kd.V (Kd.int .u32) 48 w30 w.heap.size (fun k_ => (P0_ k_ ∨ w.heap.size ≤ k_) ∧ some k_ ≠ (v1368 : Value).ownBlock ∧ k_ ≠ gb1351 ∧ k_ ≠ gb1359) (.slice AoX5 x5_1.length coX5) x5_1) := ⟨h8_⟩
               have n9_ : Aside0 (w30.heap[gb1351]? = some (.cells #[.bool false, .slice none 0 0, .slice none 0 0] 67 (0, 0))) := ⟨h9_⟩
               have n10_ : Aside0 (w30.heap[gb1359]? = some (.cells #[.bool t1360, .slice Ao21 t1361.length co21, .slice Ao22 t1364.length co22] 67 (0, 0))) := ⟨h10_⟩
               have n11_ : Aside0 (Below w.heap.size w w30) := ⟨h11_⟩
               clear HO_4 HO_5 HO_11 HL1358_1 HL1358_2 HO1363 HO1366 BK1351 BK1359 HB h0_ h1_ h2_ h3_ h4_ h5_ h6_ h7_ h8_ h9_ h10_ h11_
               have HL1358_1 := n0_
               have HL1358_2 := n1_
               have HO1363 := n2_
               have HO1366 := n3_
               have HO1369 := n4_
               have HO1372 := n5_
               have HO_11 := n6_
               have HO_4 := n7_
               have HO_5 := n8_
               have BK1351 := n9_
               have BK1359 := n10_
               have HB := n11_
               clear n0_ n1_ n2_ n3_ n4_ n5_ n6_ n7_ n8_ n9_ n10_ n11_
               have hHeld : w30.cell? ⟨gb1359, 0, none⟩ = some (.bool t1360) ∧ w30.cell? ⟨gb1359, 1, none⟩ = some (.slice Ao21 t1361.length co21) ∧ w30.cell? ⟨gb1359, 2, none⟩ = some (.slice Ao22 t1364.length co22) := hS_
               refine norm_ (a' := ?_) ?_ ?_
               rotate_left
               ·
                simp only [putAll, Act.put, List.setIfInBounds_toArray, List.set_cons_zero, List.set_cons_succ]
                rfl
               refine two_ (i := 12) (j := 15) (Ni := some 31) (Nj := some 8) #[true, true, true, true, true, true, true, true, true, true, true, true, true, false, false, false, false] #[true, true, true, true, true, true, true, true, true, true, true, true, false, false, false, true, false] rfl rfl rfl rfl (two_of HT_.out (by kernel_rfl)) (by decide) (by decide) (fun K hK => ?_) (fun K hK => ?_)
               ·
                skip
                refine Kd.N_lit_step (Kd.slice 48 (Kd.int .u32)) _ 42 ?hg (N' := 31) ?hd (xs := ([x5_1, t1364] : List (List Int))) (inner := [.slice AoX5 x5_1.length coX5, .slice Ao22 t1364.length co22]) (ok := (fun k_ => (P0_ k_ ∨ w.heap.size ≤ k_) ∧ some k_ ≠ (v1368 : Value).ownBlock ∧ k_ ≠ gb1351 ∧ k_ ≠ gb1359)) (okp := (fun k_ => (P0_ k_ ∨ w.heap.size ≤ k_) ∧ some k_ ≠ (v1368 : Value).ownBlock ∧ k_ ≠ gb1351 ∧ k_ ≠ gb1359)) ?hr ?hp (fun _ hk => hk) ((show ∀ k_, w30.heap.size ≤ k_ → (fun k_ => (P0_ k_ ∨ w.heap.size ≤ k_) ∧ some k_ ≠ (v1368 : Value).ownBlock ∧ k_ ≠ gb1351 ∧ k_ ≠ gb1359) k_ from fun k_ hk => ⟨(.inr (Nat.le_trans (below_size (bu2 HB.out GE1351.out GE1359.out)) hk)), Kd.fresh' (Kd.N_lt (nu HO1369.out)) k_ hk, Kd.freshB (g := gb1351) (o := .cells #[.bool false, .slice none 0 0, .slice none 0 0] 67 (0, 0)) (ku BK1351.out) k_ hk, Kd.freshB (g := gb1359) (o := .cells #[.bool t1360, .slice Ao21 t1361.length co21, .slice Ao22 t1364.length co22] 67 (0, 0)) (ku BK1359.out) k_ hk⟩) _ (Nat.le_refl _)) (Below.refl _ _) (Nat.le_refl _) (by simp) ?_; (case hd => rfl); (case hg => rfl); (case hr => first | (go_simp; done) | (go_simp; rfl)); (case hp => exact (Reps.one (show Kd.FK (Kd.slice 48 (Kd.int .u32)) _ _ x5_1 [.slice AoX5 x5_1.length coX5] from (Kd.FK_slice_mk (Kd.V_reads' (vy ((fun k_ => (P0_ k_ ∨ w.heap.size ≤ k_) ∧ some k_ ≠ (v1368 : Value).ownBlock ∧ k_ ≠ gb1351 ∧ k_ ≠ gb1359)) HO_5.out)).2.1 (Kd.V_F (vy ((fun k_ => (P0_ k_ ∨ w.heap.size ≤ k_) ∧ some k_ ≠ (v1368 : Value).ownBlock ∧ k_ ≠ gb1351 ∧ k_ ≠ gb1359)) HO_5.out)))) (Reps.one (show Kd.FK (Kd.slice 48 (Kd.int .u32)) _ _ t1364 [.slice Ao22 t1364.length co22] from (Kd.FK_slice_mk (Kd.V_reads' (vy ((fun k_ => (P0_ k_ ∨ w.heap.size ≤ k_) ∧ some k_ ≠ (v1368 : Value).ownBlock ∧ k_ ≠ gb1351 ∧ k_ ≠ gb1359)) HO1366.out)).2.1 (Kd.V_F (vy ((fun k_ => (P0_ k_ ∨ w.heap.size ≤ k_) ∧ some k_ ≠ (v1368 : Value).ownBlock ∧ k_ ≠ gb1351 ∧ k_ ≠ gb1359)) HO1366.out)))) (Reps.none _ _))))
                intro v1374 w32 ho33 hb hg_ hnew_
                clear hg_ hnew_
                (first | rw [← Ny1373.out] at ho33 | (simp only [Int.reduceToNat] at ho33; rw [← Ny1373.out] at ho33))
                replace HO_4 := Aside0.mk (Kd.V_elder' (vu HO_4.out) (Kd.N_base ho33) hb)
                replace HO_5 := Aside0.mk (Kd.V_elder' (vu HO_5.out) (Kd.N_base ho33) hb)
                replace HO_11 := Aside0.mk (Kd.V_elder' (vu HO_11.out) (Kd.N_base ho33) hb)
                replace HL1358_1 := Aside0.mk (Kd.V_elder' (vu HL1358_1.out) (Kd.N_base ho33) hb)
                replace HL1358_2 := Aside0.mk (Kd.V_elder' (vu HL1358_2.out) (Kd.N_base ho33) hb)
                replace HO1363 := Aside0.mk (Kd.V_elder' (vu HO1363.out) (Kd.N_base ho33) hb)
                replace HO1366 := Aside0.mk (Kd.V_elder' (vu HO1366.out) (Kd.N_base ho33) hb)
                replace HO1369 := Aside0.mk (Kd.N_elder' (nu HO1369.out) (Kd.N_base ho33) hb)
                replace HO1372 := Aside0.mk (Kd.V_elder' (vu HO1372.out) (Kd.N_base ho33) hb)
                have HO1375 := Aside0.mk (Kd.N_lower ho33 (below_size (bu2 HB.out GE1351.out GE1359.out)))
                replace BK1351 := kb BK1351 hb
                replace BK1359 := kb BK1359 hb
                replace HB := Aside0.mk (below_step (bu2 HB.out GE1351.out GE1359.out) hb)
                clear hb ho33
                refine hK.out _ _ ⟨bc BK1359 0, bc BK1359 1, bc BK1359 2⟩ (fun hHeld => ?_)
                clear hK K
                refine nq 31 ?_
                exact norm_ (by first | (simp only [putAll, Act.put, List.setIfInBounds_toArray, List.set_cons_zero, List.set_cons_succ]; done) | (simp only [putAll, Act.put, List.setIfInBounds_toArray, List.set_cons_zero, List.set_cons_succ]; rfl)) (hJ7_8_12 (v1368, v1371, v1374) _ ⟨hHeld, (vz HL1358_1.out), (vz HL1358_2.out), (vz HO1363.out), (vz HO1366.out), (by (with_reducible repeat (first | apply Kd.N_alloc | apply Kd.N_drewN | apply Kd.N_drew)); exact Kd.N_mono HO1369.out (fun _ hk => ⟨hk.1.1, ⟨hk.2, ⟨hk.1.2.1, hk.1.2.2⟩⟩⟩)), (vz HO1372.out), (nu HO1375.out), (vz HO_11.out), (vz HO_4.out), (vz HO_5.out), (ku BK1351.out), (ku BK1359.out), (bu2 HB.out GE1351.out GE1359.out)⟩)
               ·
                skip
                refine box_step ?hg (N := 8) ?hd (cs := #[.bool false, .slice none 0 0, .slice none 0 0]) (t := 67) ?hr ?_; (case hd => rfl); (case hg => rfl); (case hr => first | (go_simp; done) | (go_simp; rfl))
                intro gb1386 hg w31 hbox hb
                replace HO_4 := ke HO_4 hg hb
                replace HO_5 := ke HO_5 hg hb
                replace HO_11 := ke HO_11 hg hb
                replace HL1358_1 := ke HL1358_1 hg hb
                replace HL1358_2 := ke HL1358_2 hg hb
                replace HO1363 := ke HO1363 hg hb
                replace HO1366 := ke HO1366 hg hb
                replace HO1369 := Aside0.mk (Kd.N_below (Kd.N_elderB (nu HO1369.out) gb1386 (Nat.le_of_eq hg.symm)) hb)
                replace HO1372 := ke HO1372 hg hb
                have BK1386 := Aside0.mk (hbox)
                have GW1386 := ng hg (bu2 HB.out GE1351.out GE1359.out)
                have GE1386 := ng hg (bu2 HB.out GE1351.out GE1359.out)
                replace HB := Aside0.mk (below_step (bu2 HB.out GE1351.out GE1359.out) hb)
                have NB1351_1386 := nl hg BK1351
                have NB1386_1351 := nr hg BK1351
                replace BK1351 := kb BK1351 hb
                have NB1359_1386 := nl hg BK1359
                have NB1386_1359 := nr hg BK1359
                replace BK1359 := kb BK1359 hb
                clear hb hbox hg
                refine hK.out _ _ ⟨bc BK1359 0, bc BK1359 1, bc BK1359 2⟩ (fun hHeld => ?_)
                clear hK K
                refine nq 8 ?_
                exact norm_ (by first | (simp only [putAll, Act.put, List.setIfInBounds_toArray, List.set_cons_zero, List.set_cons_succ]; done) | (simp only [putAll, Act.put, List.setIfInBounds_toArray, List.set_cons_zero, List.set_cons_succ]; rfl)) (hJ7_8_15 (v1368, v1371, gb1386) _ ⟨hHeld, (vz HL1358_1.out), (vz HL1358_2.out), (vz HO1363.out), (vz HO1366.out), (by (with_reducible repeat (first | apply Kd.N_alloc | apply Kd.N_drewN | apply Kd.N_drew)); exact Kd.N_mono HO1369.out (fun _ hk => ⟨hk.1.1, ⟨hk.1.2.1, ⟨hk.1.2.2, hk.2⟩⟩⟩)), (vz HO1372.out), (vz HO_11.out), (vz HO_4.out), (vz HO_5.out), (ku BK1351.out), (ku BK1359.out), (ku BK1386.out), GW1386.out, GE1386.out, NB1351_1386.out, NB1386_1351.out, NB1359_1386.out, NB1386_1359.out, (bu3 HB.out GE1351.out GE1359.out GE1386.out)⟩)
             ·
              skip
              rintro ⟨v1368, v1374, gb1386⟩ w32 ⟨hS_, h0_, h1_, h2_, h3_, h4_, h5_, h6_, h7_, h8_, h9_, h10_, h11_, h12_, h13_, h14_, h15_, h16_, h17_, h18_⟩
              have n0_ : Aside0 (Kd.V (Kd.int .u32) 48 w32 w.heap.size (fun k_ => (P0_ k_ ∨ w.heap.size ≤ k_) ∧ some k_ ≠ (v1368 : Value).ownBlock ∧ some k_ ≠ (v1374 : Value).ownBlock ∧ k_ ≠ gb1351 ∧ k_ ≠ gb1359 ∧ k_ ≠ gb1386) (.slice A1358_1 ((rd_T67 l0 x13_1).f1).length c1358_1) ((rd_T67 l0 x13_1).f1)) := ⟨h0_⟩
              have n1_ : Aside0 (Kd.V (Kd.int .u32) 48 w32 w.heap.size (fun k_ => (P0_ k_ ∨ w.heap.size ≤ k_) ∧ some k_ ≠ (v1368 : Value).ownBlock ∧ some k_ ≠ (v1374 : Value).ownBlock ∧ k_ ≠ gb1351 ∧ k_ ≠ gb1359 ∧ k_ ≠ gb1386) (.slice A1358_2 ((rd_T67 l0 x13_1).f2).length c1358_2) ((rd_T67 l0 x13_1).f2)) := ⟨h1_⟩
              have n2_ : Aside0 (Kd.V (Kd.int .u32) 48 w32 w.heap.size (fun k_ => (P0_ k_ ∨ w.heap.size ≤ k_) ∧ some k_ ≠ (v1368 : Value).ownBlock ∧ some k_ ≠ (v1374 : Value).ownBlock ∧ k_ ≠ gb1351 ∧ k_ ≠ gb1359 ∧ k_ ≠ gb1386) (.slice Ao21 t1361.length co21) t1361) := ⟨h2_⟩
              have n3_ : Aside0 (Kd.V (Kd.int .u32) 48 w32 w.heap.size (fun k_ => (P0_ k_ ∨ w.heap.size ≤ k_) ∧ some k_ ≠ (v1368 : Value).ownBlock ∧ some k_ ≠ (v1374 : Value).ownBlock ∧ k_ ≠ gb1351 ∧ k_ ≠ gb1359 ∧ k_ ≠ gb1386) (.slice Ao22 t1364.length co22) t1364) := ⟨h3_⟩
              have n4_ : Aside0 (Kd.N (Kd.slice 48 (Kd.int .u32)) 42 w32 w.heap.size (fun k_ => (P0_ k_ ∨ w.heap.size ≤ k_) ∧ some k_ ≠ (v1374 : Value).ownBlock ∧ k_ ≠ gb1351 ∧ k_ ≠ gb1359 ∧ k_ ≠ gb1386) v1368 y1367) := ⟨h4_⟩
              have n5_ : Aside0 (Kd.N (Kd.slice 48 (Kd.int .u32)) 42 w32 w.heap.size (fun k_ => (P0_ k_ ∨ w.heap.size ≤ k_) ∧ some k_ ≠ (v1368 : Value).ownBlock ∧ k_ ≠ gb1351 ∧ k_ ≠ gb1359 ∧ k_ ≠ gb1386) v1374 y1373) := ⟨h5_⟩
              have n6_ : Aside0 (Kd.V k67 67 w32 w.heap.size (fun k_ => (P0_ k_ ∨ w.heap.size ≤ k_) ∧ some k_ ≠ (v1368 : Value).ownBlock ∧ some k_ ≠ (v1374 : Value).ownBlock ∧ k_ ≠ gb1351 ∧ k_ ≠ gb1359 ∧ k_ ≠ gb1386) (.slice (some ad1358) l0.length c0) l0) := ⟨h6_⟩
              have n7_ : Aside0 (Kd.V (Kd.int .u32) 48 w32 w.heap.size (fun k_ => (P0_ k_ ∨ w.heap.size ≤ k_) ∧ some k_ ≠ (v1368 : Value).ownBlock ∧ some k_ ≠ (v1374 : Value).ownBlock ∧ k_ ≠ gb1351 ∧ k_ ≠ gb1359 ∧ k_ ≠ gb1386) (.slice Ao25 x4_1.length co25) x4_1) := ⟨h7_⟩
              have n8_ : Aside0 (Kd.V (Kd.int .u32) 48 w32 w.heap.size (fun k_ => (P0_ k_ ∨ w.heap.size ≤ k_) ∧ some k_ ≠ (v1368 : Value).ownBlock ∧ some k_ ≠ (v1374 : Value).ownBlock ∧ k_ ≠ gb1351 ∧ k_ ≠ gb1359 ∧ k_ ≠ gb1386) (.slice AoX5 x5_1.length coX5) x5_1) := ⟨h8_⟩
              have n9_ : Aside0 (w32.heap[gb1351]? = some (.cells #[.bool false, .slice none 0 0, .slice none 0 0] 67 (0, 0))) := ⟨h9_⟩
              have n10_ : Aside0 (w32.heap[gb1359]? = some (.cells #[.bool t1360, .slice Ao21 t1361.length co21, .slice Ao22 t1364.length co22] 67 (0, 0))) := ⟨h10_⟩
              have n11_ : Aside0 (w32.heap[gb1386]? = some (.cells #[.bool false, .slice none 0 0, .slice none 0 0] 67 (0, 0))) := ⟨h11_⟩
              have n12_ : Aside0 (w.heap.size ≤ gb1386) := ⟨h12_⟩
              have n13_ : Aside0 (w.heap.size ≤ gb1386) := ⟨h13_⟩
              have n14_ : Aside0 (gb1351 ≠ gb1386) := ⟨h14_⟩
              have n15_ : Aside0 (gb1386 ≠ gb1351) := ⟨h15_⟩
              have n16_ : Aside0 (gb1359 ≠ gb1386) := ⟨h16_⟩
              have n17_ : Aside0 (gb1386 ≠ gb1359) := ⟨h17_⟩
              have n18_ : Aside0 (Below w.heap.size w w32) := ⟨h18_⟩
              clear HO_4 HO_5 HO_11 HL1358_1 HL1358_2 HO1363 HO1366 BK1351 BK1359 HB h0_ h1_ h2_ h3_ h4_ h5_ h6_ h7_ h8_ h9_ h10_ h11_ h12_ h13_ h14_ h15_ h16_ h17_ h18_
              have HL1358_1 := n0_
              have HL1358_2 := n1_
              have HO1363 := n2_
              have HO1366 := n3_
              have HO1369 := n4_
              have HO1375 := n5_
              have HO_11 := n6_
              have HO_4 := n7_
              have HO_5 := n8_
              have BK1351 := n9_
              have BK1359 := n10_
              have BK1386 := n11_
              have GW1386 := n12_
              have GE1386 := n13_
              have NB1351_1386 := n14_
              have NB1386_1351 := n15_
              have NB1359_1386 := n16_
              have NB1386_1359 := n17_
              have HB := n18_
              clear n0_ n1_ n2_ n3_ n4_ n5_ n6_ n7_ n8_ n9_ n10_ n11_ n12_ n13_ n14_ n15_ n16_ n17_ n18_
              have hHeld : w32.cell? ⟨gb1359, 0, none⟩ = some (.bool t1360) ∧ w32.cell? ⟨gb1359, 1, none⟩ = some (.slice Ao21 t1361.length co21) ∧ w32.cell? ⟨gb1359, 2, none⟩ = some (.slice Ao22 t1364.length co22) := hS_
              obtain ⟨Ao33, co33, eo33⟩ := Kd.N_slice HO1369.out
              (first | subst eo33 | (injection eo33 with f1_ f2_ f3_; have f4_ := f1_.symm; have f5_ := f3_.symm; clear f1_ f2_ f3_; subst f4_; subst f5_))
              refine norm_ (a' := ?_) ?_ ?_
              rotate_left
              ·
               simp only [putAll, Act.put, List.setIfInBounds_toArray, List.set_cons_zero, List.set_cons_succ]
               rfl
              refine one_ (i := 8) (N := some 27) #[true, true, true, true, true, true, true, true, true, true, true, true, true, false, false, true, false] rfl rfl (one_of HT_.out (by kernel_rfl)) (by decide) (fun K hK => ?_)
              refine goes_ Try.func145 (by kernel_rfl) rfl #[.slice Ao33 y1367.length co33] (by rfl) rfl rfl lu ?_
              with_reducible refine (nat_Mul.calls k1 _ _ y1367 t1370 _ ?side1 ?side2 A11.out).mono ?_
              (case side1 => exact cu (Kd.N_reads' HO1369.out).2.2)
              (case side2 => exact (Kd.N_reads' HO1369.out).2.1)
              rintro e w34 ⟨v1371, rfl, ho0, hb⟩
              refine ⟨_, rfl, ?_⟩
              replace ho0 := R_V_base rfl ho0
              replace HO_4 := kv HO_4 hb
              replace HO_5 := kv HO_5 hb
              replace HO_11 := kv HO_11 hb
              replace HL1358_1 := kv HL1358_1 hb
              replace HL1358_2 := kv HL1358_2 hb
              replace HO1363 := kv HO1363 hb
              replace HO1366 := kv HO1366 hb
              have HO1372 := Aside0.mk (Kd.V_lower (Kd.V_mono (ok' := fun k_ => (P0_ k_ ∨ w.heap.size ≤ k_) ∧ some k_ ≠ (.slice Ao33 y1367.length co33 : Value).ownBlock ∧ some k_ ≠ (v1374 : Value).ownBlock ∧ k_ ≠ gb1351 ∧ k_ ≠ gb1359 ∧ k_ ≠ gb1386) ho0 (fun k_ hk_ => ⟨(.inr (Nat.le_trans (below_size (bu3 HB.out GE1351.out GE1359.out GE1386.out)) hk_)), (Kd.fresh' (Kd.N_lt (nu HO1369.out)) k_ hk_), (Kd.fresh' (Kd.N_lt (nu HO1375.out)) k_ hk_), (Kd.freshB (g := gb1351) (o := .cells #[.bool false, .slice none 0 0, .slice none 0 0] 67 (0, 0)) (ku BK1351.out) k_ hk_), (Kd.freshB (g := gb1359) (o := .cells #[.bool t1360, .slice Ao21 t1361.length co21, .slice Ao22 t1364.length co22] 67 (0, 0)) (ku BK1359.out) k_ hk_), (Kd.freshB (g := gb1386) (o := .cells #[.bool false, .slice none 0 0, .slice none 0 0] 67 (0, 0)) (ku BK1386.out) k_ hk_)⟩)) (below_size (bu3 HB.out GE1351.out GE1359.out GE1386.out)))
              replace HO1369 := Aside0.mk (Kd.N_below (nu HO1369.out) hb)
              replace HO1375 := Aside0.mk (Kd.N_below (nu HO1375.out) hb)
              replace BK1351 := kb BK1351 hb
              replace BK1359 := kb BK1359 hb
              replace BK1386 := kb BK1386 hb
              replace HB := Aside0.mk (below_step (bu3 HB.out GE1351.out GE1359.out GE1386.out) hb)
              (try clear hb)
              (try clear hb2)
              (try clear hk)
              (try clear hi)
              (try clear ho0)
              refine hK.out _ _ ⟨bc BK1359 0, bc BK1359 1, bc BK1359 2⟩ (fun hHeld => ?_)
              clear hK K
              refine nq 27 ?_
              exact norm_ (by first | (simp only [putAll, Act.put, List.setIfInBounds_toArray, List.set_cons_zero, List.set_cons_succ]; done) | (simp only [putAll, Act.put, List.setIfInBounds_toArray, List.set_cons_zero, List.set_cons_succ]; rfl)) (hJ7_8_12_15 (.slice Ao33 y1367.length co33, v1371, v1374, gb1386) _ ⟨hHeld, (vu HL1358_1.out), (vu HL1358_2.out), (vu HO1363.out), (vu HO1366.out), (nu HO1369.out), (vu HO1372.out), (nu HO1375.out), (vu HO_11.out), (vu HO_4.out), (vu HO_5.out), (ku BK1351.out), (ku BK1359.out), (ku BK1386.out), GW1386.out, GE1386.out, NB1351_1386.out, NB1386_1351.out, NB1359_1386.out, NB1386_1359.out, (bu3 HB.out GE1351.out GE1359.out GE1386.out)⟩)
            ·
             skip
             rintro ⟨v1368, v1371, gb1386⟩ w31 ⟨hS_, h0_, h1_, h2_, h3_, h4_, h5_, h6_, h7_, h8_, h9_, h10_, h11_, h12_, h13_, h14_, h15_, h16_, h17_, h18_⟩
             have n0_ : Aside0 (Kd.V (Kd.int .u32) 48 w31 w.heap.size (fun k_ => (P0_ k_ ∨ w.heap.size ≤ k_) ∧ some k_ ≠ (v1368 : Value).ownBlock ∧ k_ ≠ gb1351 ∧ k_ ≠ gb1359 ∧ k_ ≠ gb1386) (.slice A1358_1 ((rd_T67 l0 x13_1).f1).length c1358_1) ((rd_T67 l0 x13_1).f1)) := ⟨h0_⟩
             have n1_ : Aside0 (Kd.V (Kd.int .u32) 48 w31 w.heap.size (fun k_ => (P0_ k_ ∨ w.heap.size ≤ k_) ∧ some k_ ≠ (v1368 : Value).ownBlock ∧ k_ ≠ gb1351 ∧ k_ ≠ gb1359 ∧ k_ ≠ gb1386) (.slice A1358_2 ((rd_T67 l0 x13_1).f2).length c1358_2) ((rd_T67 l0 x13_1).f2)) := ⟨h1_⟩
             have n2_ : Aside0 (Kd.V (Kd.int .u32) 48 w31 w.heap.size (fun k_ => (P0_ k_ ∨ w.heap.size ≤ k_) ∧ some k_ ≠ (v1368 : Value).ownBlock ∧ k_ ≠ gb1351 ∧ k_ ≠ gb1359 ∧ k_ ≠ gb1386) (.slice Ao21 t1361.length co21) t1361) := ⟨h2_⟩
             have n3_ : Aside0 (Kd.V (Kd.int .u32) 48 w31 w.heap.size (fun k_ => (P0_ k_ ∨ w.heap.size ≤ k_) ∧ some k_ ≠ (v1368 : Value).ownBlock ∧ k_ ≠ gb1351 ∧ k_ ≠ gb1359 ∧ k_ ≠ gb1386) (.slice Ao22 t1364.length co22) t1364) := ⟨h3_⟩
             have n4_ : Aside0 (Kd.N (Kd.slice 48 (Kd.int .u32)) 42 w31 w.heap.size (fun k_ => (P0_ k_ ∨ w.heap.size ≤ k_) ∧ k_ ≠ gb1351 ∧ k_ ≠ gb1359 ∧ k_ ≠ gb1386) v1368 y1367) := ⟨h4_⟩
             have n5_ : Aside0 (Kd.V (Kd.int .u32) 48 w31 w.heap.size (fun k_ => (P0_ k_ ∨ w.heap.size ≤ k_) ∧ some k_ ≠ (v1368 : Value).ownBlock ∧ k_ ≠ gb1351 ∧ k_ ≠ gb1359 ∧ k_ ≠ gb1386) v1371 t1370) := ⟨h5_⟩
             have n6_ : Aside0 (Kd.V k67 67 w31 w.heap.size (fun k_ => (P0_ k_ ∨ w.heap.size ≤ k_) ∧ some k_ ≠ (v1368 : Value).ownBlock ∧ k_ ≠ gb1351 ∧ k_ ≠ gb1359 ∧ k_ ≠ gb1386) (.slice (some ad1358) l0.length c0) l0) := ⟨h6_⟩
             have n7_ : Aside0 (Kd.V (Kd.int .u32) 48 w31 w.heap.size (fun k_ => (P0_ k_ ∨ w.heap.size ≤ k_) ∧ some k_ ≠ (v1368 : Value).ownBlock ∧ k_ ≠ gb1351 ∧ k_ ≠ gb1359 ∧ k_ ≠ gb1386) (.slice Ao25 x4_1.length co25) x4_1) := ⟨h7_⟩
             have n8_ : Aside0 (Kd.V (Kd.int .u32) 48 w31 w.heap.size (fun k_ => (P0_ k_ ∨ w.heap.size ≤ k_) ∧ some k_ ≠ (v1368 : Value).ownBlock ∧ k_ ≠ gb1351 ∧ k_ ≠ gb1359 ∧ k_ ≠ gb1386) (.slice AoX5 x5_1.length coX5) x5_1) := ⟨h8_⟩
             have n9_ : Aside0 (w31.heap[gb1351]? = some (.cells #[.bool false, .slice none 0 0, .slice none 0 0] 67 (0, 0))) := ⟨h9_⟩
             have n10_ : Aside0 (w31.heap[gb1359]? = some (.cells #[.bool t1360, .slice Ao21 t1361.length co21, .slice Ao22 t1364.length co22] 67 (0, 0))) := ⟨h10_⟩
             have n11_ : Aside0 (w31.heap[gb1386]? = some (.cells #[.bool false, .slice none 0 0, .slice none 0 0] 67 (0, 0))) := ⟨h11_⟩
             have n12_ : Aside0 (w.heap.size ≤ gb1386) := ⟨h12_⟩
             have n13_ : Aside0 (w.heap.size ≤ gb1386) := ⟨h13_⟩
             have n14_ : Aside0 (gb1351 ≠ gb1386) := ⟨h14_⟩
             have n15_ : Aside0 (gb1386 ≠ gb1351) := ⟨h15_⟩
             have n16_ : Aside0 (gb1359 ≠ gb1386) := ⟨h16_⟩
             have n17_ : Aside0 (gb1386 ≠ gb1359) := ⟨h17_⟩
             have n18_ : Aside0 (Below w.heap.size w w31) := ⟨h18_⟩
             clear HO_4 HO_5 HO_11 HL1358_1 HL1358_2 HO1363 HO1366 BK1351 BK1359 HB h0_ h1_ h2_ h3_ h4_ h5_ h6_ h7_ h8_ h9_ h10_ h11_ h12_ h13_ h14_ h15_ h16_ h17_ h18_
             have HL1358_1 := n0_
             have HL1358_2 := n1_
             have HO1363 := n2_
             have HO1366 := n3_
             have HO1369 := n4_
             have HO1372 := n5_
             have HO_11 := n6_
             have HO_4 := n7_
             have HO_5 := n8_
             have BK1351 := n9_
             have BK1359 := n10_
             have BK1386 := n11_
             have GW1386 := n12_
             have GE1386 := n13_
             have NB1351_1386 := n14_
             have NB1386_1351 := n15_
             have NB1359_1386 := n16_
             have NB1386_1359 := n17_
             have HB := n18_
             clear n0_ n1_ n2_ n3_ n4_ n5_ n6_ n7_ n8_ n9_ n10_ n11_ n12_ n13_ n14_ n15_ n16_ n17_ n18_
             have hHeld : w31.cell? ⟨gb1359, 0, none⟩ = some (.bool t1360) ∧ w31.cell? ⟨gb1359, 1, none⟩ = some (.slice Ao21 t1361.length co21) ∧ w31.cell? ⟨gb1359, 2, none⟩ = some (.slice Ao22 t1364.length co22) := hS_
             refine norm_ (a' := ?_) ?_ ?_
             rotate_left
             ·
              simp only [putAll, Act.put, List.setIfInBounds_toArray, List.set_cons_zero, List.set_cons_succ]
              rfl
             refine one_ (i := 12) (N := some 31) #[true, true, true, true, true, true, true, true, true, true, true, true, true, false, false, true, false] rfl rfl (one_of HT_.out (by kernel_rfl)) (by decide) (fun K hK => ?_)
             refine Kd.N_lit_step (Kd.slice 48 (Kd.int .u32)) _ 42 ?hg (N' := 31) ?hd (xs := ([x5_1, t1364] : List (List Int))) (inner := [.slice AoX5 x5_1.length coX5, .slice Ao22 t1364.length co22]) (ok := (fun k_ => (P0_ k_ ∨ w.heap.size ≤ k_) ∧ some k_ ≠ (v1368 : Value).ownBlock ∧ k_ ≠ gb1351 ∧ k_ ≠ gb1359 ∧ k_ ≠ gb1386)) (okp := (fun k_ => (P0_ k_ ∨ w.heap.size ≤ k_) ∧ some k_ ≠ (v1368 : Value).ownBlock ∧ k_ ≠ gb1351 ∧ k_ ≠ gb1359 ∧ k_ ≠ gb1386)) ?hr ?hp (fun _ hk => hk) ((show ∀ k_, w31.heap.size ≤ k_ → (fun k_ => (P0_ k_ ∨ w.heap.size ≤ k_) ∧ some k_ ≠ (v1368 : Value).ownBlock ∧ k_ ≠ gb1351 ∧ k_ ≠ gb1359 ∧ k_ ≠ gb1386) k_ from fun k_ hk => ⟨(.inr (Nat.le_trans (below_size (bu3 HB.out GE1351.out GE1359.out GE1386.out)) hk)), Kd.fresh' (Kd.N_lt (nu HO1369.out)) k_ hk, Kd.freshB (g := gb1351) (o := .cells #[.bool false, .slice none 0 0, .slice none 0 0] 67 (0, 0)) (ku BK1351.out) k_ hk, Kd.freshB (g := gb1359) (o := .cells #[.bool t1360, .slice Ao21 t1361.length co21, .slice Ao22 t1364.length co22] 67 (0, 0)) (ku BK1359.out) k_ hk, Kd.freshB (g := gb1386) (o := .cells #[.bool false, .slice none 0 0, .slice none 0 0] 67 (0, 0)) (ku BK1386.out) k_ hk⟩) _ (Nat.le_refl _)) (Below.refl _ _) (Nat.le_refl _) (by simp) ?_; (case hd => rfl); (case hg => rfl); (case hr => first | (go_simp; done) | (go_simp; rfl)); (case hp => exact (Reps.one (show Kd.FK (Kd.slice 48 (Kd.int .u32)) _ _ x5_1 [.slice AoX5 x5_1.length coX5] from (Kd.FK_slice_mk (Kd.V_reads' (vy ((fun k_ => (P0_ k_ ∨ w.heap.size ≤ k_) ∧ some k_ ≠ (v1368 : Value).ownBlock ∧ k_ ≠ gb1351 ∧ k_ ≠ gb1359 ∧ k_ ≠ gb1386)) HO_5.out)).2.1 (Kd.V_F (vy ((fun k_ => (P0_ k_ ∨ w.heap.size ≤ k_) ∧ some k_ ≠ (v1368 : Value).ownBlock ∧ k_ ≠ gb1351 ∧ k_ ≠ gb1359 ∧ k_ ≠ gb1386)) HO_5.out)))) (Reps.one (show Kd.FK (Kd.slice 48 (Kd.int .u32)) _ _ t1364 [.slice Ao22 t1364.length co22] from (Kd.FK_slice_mk (Kd.V_reads' (vy ((fun k_ => (P0_ k_ ∨ w.heap.size ≤ k_) ∧ some k_ ≠ (v1368 : Value).ownBlock ∧ k_ ≠ gb1351 ∧ k_ ≠ gb1359 ∧ k_ ≠ gb1386)) HO1366.out)).2.1 (Kd.V_F (vy ((fun k_ => (P0_ k_ ∨ w.heap.size ≤ k_) ∧ some k_ ≠ (v1368 : Value).ownBlock ∧ k_ ≠ gb1351 ∧ k_ ≠ gb1359 ∧ k_ ≠ gb1386)) HO1366.out)))) (Reps.none _ _))))
             intro v1374 w33 ho34 hb hg_ hnew_
             clear hg_ hnew_
             (first | rw [← Ny1373.out] at ho34 | (simp only [Int.reduceToNat] at ho34; rw [← Ny1373.out] at ho34))
             replace HO_4 := Aside0.mk (Kd.V_elder' (vu HO_4.out) (Kd.N_base ho34) hb)
             replace HO_5 := Aside0.mk (Kd.V_elder' (vu HO_5.out) (Kd.N_base ho34) hb)
             replace HO_11 := Aside0.mk (Kd.V_elder' (vu HO_11.out) (Kd.N_base ho34) hb)
             replace HL1358_1 := Aside0.mk (Kd.V_elder' (vu HL1358_1.out) (Kd.N_base ho34) hb)
             replace HL1358_2 := Aside0.mk (Kd.V_elder' (vu HL1358_2.out) (Kd.N_base ho34) hb)
             replace HO1363 := Aside0.mk (Kd.V_elder' (vu HO1363.out) (Kd.N_base ho34) hb)
             replace HO1366 := Aside0.mk (Kd.V_elder' (vu HO1366.out) (Kd.N_base ho34) hb)
             replace HO1369 := Aside0.mk (Kd.N_elder' (nu HO1369.out) (Kd.N_base ho34) hb)
             replace HO1372 := Aside0.mk (Kd.V_elder' (vu HO1372.out) (Kd.N_base ho34) hb)
             have HO1375 := Aside0.mk (Kd.N_lower ho34 (below_size (bu3 HB.out GE1351.out GE1359.out GE1386.out)))
             replace BK1351 := kb BK1351 hb
             replace BK1359 := kb BK1359 hb
             replace BK1386 := kb BK1386 hb
             replace HB := Aside0.mk (below_step (bu3 HB.out GE1351.out GE1359.out GE1386.out) hb)
             clear hb ho34
             refine hK.out _ _ ⟨bc BK1359 0, bc BK1359 1, bc BK1359 2⟩ (fun hHeld => ?_)
             clear hK K
             refine nq 31 ?_
             exact norm_ (by first | (simp only [putAll, Act.put, List.setIfInBounds_toArray, List.set_cons_zero, List.set_cons_succ]; done) | (simp only [putAll, Act.put, List.setIfInBounds_toArray, List.set_cons_zero, List.set_cons_succ]; rfl)) (hJ7_8_12_15 (v1368, v1371, v1374, gb1386) _ ⟨hHeld, (vz HL1358_1.out), (vz HL1358_2.out), (vz HO1363.out), (vz HO1366.out), (by (with_reducible repeat (first | apply Kd.N_alloc | apply Kd.N_drewN | apply Kd.N_drew)); exact Kd.N_mono HO1369.out (fun _ hk => ⟨hk.1.1, ⟨hk.2, ⟨hk.1.2.1, ⟨hk.1.2.2.1, hk.1.2.2.2⟩⟩⟩⟩)), (vz HO1372.out), (nu HO1375.out), (vz HO_11.out), (vz HO_4.out), (vz HO_5.out), (ku BK1351.out), (ku BK1359.out), (ku BK1386.out), GW1386.out, GE1386.out, NB1351_1386.out, NB1386_1351.out, NB1359_1386.out, NB1386_1359.out, (bu3 HB.out GE1351.out GE1359.out GE1386.out)⟩)
           ·
            skip
            rintro ⟨v1368, v1371, v1374⟩ w33 ⟨hS_, h0_, h1_, h2_, h3_, h4_, h5_, h6_, h7_, h8_, h9_, h10_, h11_, h12_⟩
            have n0_ : Aside0 (Kd.V (Kd.int .u32) 48 w33 w.heap.size (fun k_ => (P0_ k_ ∨ w.heap.size ≤ k_) ∧ some k_ ≠ (v1368 : Value).ownBlock ∧ some k_ ≠ (v1374 : Value).ownBlock ∧ k_ ≠ gb1351 ∧ k_ ≠ gb1359) (.slice A1358_1 ((rd_T67 l0 x13_1).f1).length c1358_1) ((rd_T67 l0 x13_1).f1)) := ⟨h0_⟩
            have n1_ : Aside0 (Kd.V (Kd.int .u32) 48 w33 w.heap.size (fun k_ => (P0_ k_ ∨ w.heap.size ≤ k_) ∧ some k_ ≠ (v1368 : Value).ownBlock ∧ some k_ ≠ (v1374 : Value).ownBlock ∧ k_ ≠ gb1351 ∧ k_ ≠ gb1359) (.slice A1358_2 ((rd_T67 l0 x13_1).f2).length c1358_2) ((rd_T67 l0 x13_1).f2)) := ⟨h1_⟩
            have n2_ : Aside0 (Kd.V (Kd.int .u32) 48 w33 w.heap.size (fun k_ => (P0_ k_ ∨ w.heap.size ≤ k_) ∧ some k_ ≠ (v1368 : Value).ownBlock ∧ some k_ ≠ (v1374 : Value).ownBlock ∧ k_ ≠ gb1351 ∧ k_ ≠ gb1359) (.slice Ao21 t1361.length co21) t1361) := ⟨h2_⟩
            have n3_ : Aside0 (Kd.V (Kd.int .u32) 48 w33 w.heap.size (fun k_ => (P0_ k_ ∨ w.heap.size ≤ k_) ∧ some k_ ≠ (v1368 : Value).ownBlock ∧ some k_ ≠ (v1374 : Value).ownBlock ∧ k_ ≠ gb1351 ∧ k_ ≠ gb1359) (.slice Ao22 t1364.length co22) t1364) := ⟨h3_⟩
            have n4_ : Aside0 (Kd.N (Kd.slice 48 (Kd.int .u32)) 42 w33 w.heap.size (fun k_ => (P0_ k_ ∨ w.heap.size ≤ k_) ∧ some k_ ≠ (v1374 : Value).ownBlock ∧ k_ ≠ gb1351 ∧ k_ ≠ gb1359) v1368 y1367) := ⟨h4_⟩
            have n5_ : Aside0 (Kd.V (Kd.int .u32) 48 w33 w.heap.size (fun k_ => (P0_ k_ ∨ w.heap.size ≤ k_) ∧ some k_ ≠ (v1368 : Value).ownBlock ∧ some k_ ≠ (v1374 : Value).ownBlock ∧ k_ ≠ gb1351 ∧ k_ ≠ gb1359) v1371 t1370) := ⟨h5_⟩
            have n6_ : Aside0 (Kd.N (Kd.slice 48 (Kd.int .u32)) 42 w33 w.heap.size (fun k_ => (P0_ k_ ∨ w.heap.size ≤ k_) ∧ some k_ ≠ (v1368 : Value).ownBlock ∧ k_ ≠ gb1351 ∧ k_ ≠ gb1359) v1374 y1373) := ⟨h6_⟩
            have n7_ : Aside0 (Kd.V k67 67 w33 w.heap.size (fun k_ => (P0_ k_ ∨ w.heap.size ≤ k_) ∧ some k_ ≠ (v1368 : Value).ownBlock ∧ some k_ ≠ (v1374 : Value).ownBlock ∧ k_ ≠ gb1351 ∧ k_ ≠ gb1359) (.slice (some ad1358) l0.length c0) l0) := ⟨h7_⟩
            have n8_ : Aside0 (Kd.V (Kd.int .u32) 48 w33 w.heap.size (fun k_ => (P0_ k_ ∨ w.heap.size ≤ k_) ∧ some k_ ≠ (v1368 : Value).ownBlock ∧ some k_ ≠ (v1374 : Value).ownBlock ∧ k_ ≠ gb1351 ∧ k_ ≠ gb1359) (.slice Ao25 x4_1.length co25) x4_1) := ⟨h8_⟩
            have n9_ : Aside0 (Kd.V (Kd.int .u32) 48 w33 w.heap.size (fun k_ => (P0_ k_ ∨ w.heap.size ≤ k_) ∧ some k_ ≠ (v1368 : Value).ownBlock ∧ some k_ ≠ (v1374 : Value).ownBlock ∧ k_ ≠ gb1351 ∧ k_ ≠ gb1359) (.slice AoX5 x5_1.length coX5) x5_1) := ⟨h9_⟩
            have n10_ : Aside0 (w33.heap[gb1351]? = some (.cells #[.bool false, .slice none 0 0, .slice none 0 0] 67 (0, 0))) := ⟨h10_⟩
            have n11_ : Aside0 (w33.heap[gb1359]? = some (.cells #[.bool t1360, .slice Ao21 t1361.length co21, .slice Ao22 t1364.length co22] 67 (0, 0))) := ⟨h11_⟩
            have n12_ : Aside0 (Below w.heap.size w w33) := ⟨h12_⟩
            clear HO_4 HO_5 HO_11 HL1358_1 HL1358_2 HO1363 HO1366 BK1351 BK1359 HB h0_ h1_ h2_ h3_ h4_ h5_ h6_ h7_ h8_ h9_ h10_ h11_ h12_
            have HL1358_1 := n0_
            have HL1358_2 := n1_
            have HO1363 := n2_
            have HO1366 := n3_
            have HO1369 := n4_
            have HO1372 := n5_
            have HO1375 := n6_
            have HO_11 := n7_
            have HO_4 := n8_
            have HO_5 := n9_
            have BK1351 := n10_
            have BK1359 := n11_
            have HB := n12_
            clear n0_ n1_ n2_ n3_ n4_ n5_ n6_ n7_ n8_ n9_ n10_ n11_ n12_
            have hHeld : w33.cell? ⟨gb1359, 0, none⟩ = some (.bool t1360) ∧ w33.cell? ⟨gb1359, 1, none⟩ = some (.slice Ao21 t1361.length co21) ∧ w33.cell? ⟨gb1359, 2, none⟩ = some (.slice Ao22 t1364.length co22) := hS_
            obtain ⟨Ao34, co34, eo34⟩ := Kd.N_slice HO1375.out
            (first | subst eo34 | (injection eo34 with f1_ f2_ f3_; have f4_ := f1_.symm; have f5_ := f3_.symm; clear f1_ f2_ f3_; subst f4_; subst f5_))
            refine norm_ (a' := ?_) ?_ ?_
            rotate_left
            ·
             simp only [putAll, Act.put, List.setIfInBounds_toArray, List.set_cons_zero, List.set_cons_succ]
             rfl
            refine two_ (i := 13) (j := 15) (Ni := some 32) (Nj := some 8) #[true, true, true, true, true, true, true, true, true, true, true, true, true, true, false, false, false] #[true, true, true, true, true, true, true, true, true, true, true, true, true, false, false, true, false] rfl rfl rfl rfl (two_of HT_.out (by kernel_rfl)) (by decide) (by decide) (fun K hK => ?_) (fun K hK => ?_)
            ·
             skip
             refine goes_ Try.func145 (by kernel_rfl) rfl #[.slice Ao34 y1373.length co34] (by rfl) rfl rfl lu ?_
             with_reducible refine (nat_Mul.calls k1 _ _ y1373 t1376 _ ?side1 ?side2 A12.out).mono ?_
             (case side1 => exact cu (Kd.N_reads' HO1375.out).2.2)
             (case side2 => exact (Kd.N_reads' HO1375.out).2.1)
             rintro e w35 ⟨v1377, rfl, ho0, hb⟩
             refine ⟨_, rfl, ?_⟩
             replace ho0 := R_V_base rfl ho0
             replace HO_4 := kv HO_4 hb
             replace HO_5 := kv HO_5 hb
             replace HO_11 := kv HO_11 hb
             replace HL1358_1 := kv HL1358_1 hb
             replace HL1358_2 := kv HL1358_2 hb
             replace HO1363 := kv HO1363 hb
             replace HO1366 := kv HO1366 hb
             replace HO1372 := kv HO1372 hb
             have HO1378 := Aside0.mk (Kd.V_lower (Kd.V_mono (ok' := fun k_ => (P0_ k_ ∨ w.heap.size ≤ k_) ∧ some k_ ≠ (v1368 : Value).ownBlock ∧ some k_ ≠ (.slice Ao34 y1373.length co34 : Value).ownBlock ∧ k_ ≠ gb1351 ∧ k_ ≠ gb1359) ho0 (fun k_ hk_ => ⟨(.inr (Nat.le_trans (below_size (bu2 HB.out GE1351.out GE1359.out)) hk_)), (Kd.fresh' (Kd.N_lt (nu HO1369.out)) k_ hk_), (Kd.fresh' (Kd.N_lt (nu HO1375.out)) k_ hk_), (Kd.freshB (g := gb1351) (o := .cells #[.bool false, .slice none 0 0, .slice none 0 0] 67 (0, 0)) (ku BK1351.out) k_ hk_), (Kd.freshB (g := gb1359) (o := .cells #[.bool t1360, .slice Ao21 t1361.length co21, .slice Ao22 t1364.length co22] 67 (0, 0)) (ku BK1359.out) k_ hk_)⟩)) (below_size (bu2 HB.out GE1351.out GE1359.out)))
             replace HO1369 := Aside0.mk (Kd.N_below (nu HO1369.out) hb)
             replace HO1375 := Aside0.mk (Kd.N_below (nu HO1375.out) hb)
             replace BK1351 := kb BK1351 hb
             replace BK1359 := kb BK1359 hb
             replace HB := Aside0.mk (below_step (bu2 HB.out GE1351.out GE1359.out) hb)
             (try clear hb)
             (try clear hb2)
             (try clear hk)
             (try clear hi)
             (try clear ho0)
             refine hK.out _ _ ⟨bc BK1359 0, bc BK1359 1, bc BK1359 2⟩ (fun hHeld => ?_)
             clear hK K
             refine nq 32 ?_
             exact norm_ (by first | (simp only [putAll, Act.put, List.setIfInBounds_toArray, List.set_cons_zero, List.set_cons_succ]; done) | (simp only [putAll, Act.put, List.setIfInBounds_toArray, List.set_cons_zero, List.set_cons_succ]; rfl)) (hJ7_8_12_13 (v1368, v1371, .slice Ao34 y1373.length co34, v1377) _ ⟨hHeld, (vu HL1358_1.out), (vu HL1358_2.out), (vu HO1363.out), (vu HO1366.out), (nu HO1369.out), (vu HO1372.out), (nu HO1375.out), (vu HO1378.out), (vu HO_11.out), (vu HO_4.out), (vu HO_5.out), (ku BK1351.out), (ku BK1359.out), (bu2 HB.out GE1351.out GE1359.out)⟩)
            ·
             skip
             refine box_step ?hg (N := 8) ?hd (cs := #[.bool false, .slice none 0 0, .slice none 0 0]) (t := 67) ?hr ?_; (case hd => rfl); (case hg => rfl); (case hr => first | (go_simp; done) | (go_simp; rfl))
             intro gb1386 hg w34 hbox hb
             replace HO_4 := ke HO_4 hg hb
             replace HO_5 := ke HO_5 hg hb
             replace HO_11 := ke HO_11 hg hb
             replace HL1358_1 := ke HL1358_1 hg hb
             replace HL1358_2 := ke HL1358_2 hg hb
             replace HO1363 := ke HO1363 hg hb
             replace HO1366 := ke HO1366 hg hb
             replace HO1369 := Aside0.mk (Kd.N_below (Kd.N_elderB (nu HO1369.out) gb1386 (Nat.le_of_eq hg.symm)) hb)
             replace HO1372 := ke HO1372 hg hb
             replace HO1375 := Aside0.mk (Kd.N_below (Kd.N_elderB (nu HO1375.out) gb1386 (Nat.le_of_eq hg.symm)) hb)
             have BK1386 := Aside0.mk (hbox)
             have GW1386 := ng hg (bu2 HB.out GE1351.out GE1359.out)
             have GE1386 := ng hg (bu2 HB.out GE1351.out GE1359.out)
             replace HB := Aside0.mk (below_step (bu2 HB.out GE1351.out GE1359.out) hb)
             have NB1351_1386 := nl hg BK1351
             have NB1386_1351 := nr hg BK1351
             replace BK1351 := kb BK1351 hb
             have NB1359_1386 := nl hg BK1359
             have NB1386_1359 := nr hg BK1359
             replace BK1359 := kb BK1359 hb
             clear hb hbox hg
             refine hK.out _ _ ⟨bc BK1359 0, bc BK1359 1, bc BK1359 2⟩ (fun hHeld => ?_)
             clear hK K
             refine nq 8 ?_
             exact norm_ (by first | (simp only [putAll, Act.put, List.setIfInBounds_toArray, List.set_cons_zero, List.set_cons_succ]; done) | (simp only [putAll, Act.put, List.setIfInBounds_toArray, List.set_cons_zero, List.set_cons_succ]; rfl)) (hJ7_8_12_15 (v1368, v1371, (.slice Ao34 y1373.length co34), gb1386) _ ⟨hHeld, (vz HL1358_1.out), (vz HL1358_2.out), (vz HO1363.out), (vz HO1366.out), (by (with_reducible repeat (first | apply Kd.N_alloc | apply Kd.N_drewN | apply Kd.N_drew)); exact Kd.N_mono HO1369.out (fun _ hk => ⟨hk.1.1, ⟨hk.1.2.1, ⟨hk.1.2.2.1, ⟨hk.1.2.2.2, hk.2⟩⟩⟩⟩)), (vz HO1372.out), (by (with_reducible repeat (first | apply Kd.N_alloc | apply Kd.N_drewN | apply Kd.N_drew)); exact Kd.N_mono HO1375.out (fun _ hk => ⟨hk.1.1, ⟨hk.1.2.1, ⟨hk.1.2.2.1, ⟨hk.1.2.2.2, hk.2⟩⟩⟩⟩)), (vz HO_11.out), (vz HO_4.out), (vz HO_5.out), (ku BK1351.out), (ku BK1359.out), (ku BK1386.out), GW1386.out, GE1386.out, NB1351_1386.out, NB1386_1351.out, NB1359_1386.out, NB1386_1359.out, (bu3 HB.out GE1351.out GE1359.out GE1386.out)⟩)
          ·
           skip
           rintro ⟨v1368, v1371, v1374, gb1386⟩ w34 ⟨hS_, h0_, h1_, h2_, h3_, h4_, h5_, h6_, h7_, h8_, h9_, h10_, h11_, h12_, h13_, h14_, h15_, h16_, h17_, h18_, h19_⟩
           have n0_ : Aside0 (Kd.V (Kd.int .u32) 48 w34 w.heap.size (fun k_ => (P0_ k_ ∨ w.heap.size ≤ k_) ∧ some k_ ≠ (v1368 : Value).ownBlock ∧ some k_ ≠ (v1374 : Value).ownBlock ∧ k_ ≠ gb1351 ∧ k_ ≠ gb1359 ∧ k_ ≠ gb1386) (.slice A1358_1 ((rd_T67 l0 x13_1).f1).length c1358_1) ((rd_T67 l0 x13_1).f1)) := ⟨h0_⟩
           have n1_ : Aside0 (Kd.V (Kd.int .u32) 48 w34 w.heap.size (fun k_ => (P0_ k_ ∨ w.heap.size ≤ k_) ∧ some k_ ≠ (v1368 : Value).ownBlock ∧ some k_ ≠ (v1374 : Value).ownBlock ∧ k_ ≠ gb1351 ∧ k_ ≠ gb1359 ∧ k_ ≠ gb1386) (.slice A1358_2 ((rd_T67 l0 x13_1).f2).length c1358_2) ((rd_T67 l0 x13_1).f2)) := ⟨h1_⟩
           have n2_ : Aside0 (Kd.V (Kd.int .u32) 48 w34 w.heap.size (fun k_ => (P0_ k_ ∨ w.heap.size ≤ k_) ∧ some k_ ≠ (v1368 : Value).ownBlock ∧ some k_ ≠ (v1374 : Value).ownBlock ∧ k_ ≠ gb1351 ∧ k_ ≠ gb1359 ∧ k_ ≠ gb1386) (.slice Ao21 t1361.length co21) t1361) := ⟨h2_⟩
           have n3_ : Aside0 (Kd.V (Kd.int .u32) 48 w34 w.heap.size (fun k_ => (P0_ k_ ∨ w.heap.size ≤ k_) ∧ some k_ ≠ (v1368 : Value).ownBlock ∧ some k_ ≠ (v1374 : Value).ownBlock ∧ k_ ≠ gb1351 ∧ k_ ≠ gb1359 ∧ k_ ≠ gb1386) (.slice Ao22 t1364.length co22) t1364) := ⟨h3_⟩
           have n4_ : Aside0 (Kd.N (Kd.slice 48 (Kd.int .u32)) 42 w34 w.heap.size (fun k_ => (P0_ k_ ∨ w.heap.size ≤ k_) ∧ some k_ ≠ (v1374 : Value).ownBlock ∧ k_ ≠ gb1351 ∧ k_ ≠ gb1359 ∧ k_ ≠ gb1386) v1368 y1367) := ⟨h4_⟩
           have n5_ : Aside0 (Kd.V (Kd.int .u32) 48 w34 w.heap.size (fun k_ => (P0_ k_ ∨ w.heap.size ≤ k_) ∧ some k_ ≠ (v1368 : Value).ownBlock ∧ some k_ ≠ (v1374 : Value).ownBlock ∧ k_ ≠ gb1351 ∧ k_ ≠ gb1359 ∧ k_ ≠ gb1386) v1371 t1370) := ⟨h5_⟩
           have n6_ : Aside0 (Kd.N (Kd.slice 48 (Kd.int .u32)) 42 w34 w.heap.size (fun k_ => (P0_ k_ ∨ w.heap.size ≤ k_) ∧ some k_ ≠ (v1368 : Value).ownBlock ∧ k_ ≠ gb1351 ∧ k_ ≠ gb1359 ∧ k_ ≠ gb1386) v1374 y1373) := ⟨h6_⟩
           have n7_ : Aside0 (Kd.V k67 67 w34 w.heap.size (fun k_ => (P0_ k_ ∨ w.heap.size ≤ k_) ∧ some k_ ≠ (v1368 : Value).ownBlock ∧ some k_ ≠ (v1374 : Value).ownBlock ∧ k_ ≠ gb1351 ∧ k_ ≠ gb1359 ∧ k_ ≠ gb1386) (.slice (some ad1358) l0.length c0) l0) := ⟨h7_⟩
           have n8_ : Aside0 (Kd.V (Kd.int .u32) 48 w34 w.heap.size (fun k_ => (P0_ k_ ∨ w.heap.size ≤ k_) ∧ some k_ ≠ (v1368 : Value).ownBlock ∧ some k_ ≠ (v1374 : Value).ownBlock ∧ k_ ≠ gb1351 ∧ k_ ≠ gb1359 ∧ k_ ≠ gb1386) (.slice Ao25 x4_1.length co25) x4_1) := ⟨h8_⟩
           have n9_ : Aside0 (Kd.V (Kd.int .u32) 48 w34 w.heap.size (fun k_ => (P0_ k_ ∨ w.heap.size ≤ k_) ∧ some k_ ≠ (v1368 : Value).ownBlock ∧ some k_ ≠ (v1374 : Value).ownBlock ∧ k_ ≠ gb1351 ∧ k_ ≠ gb1359 ∧ k_ ≠ gb1386) (.slice AoX5 x5_1.length coX5) x5_1) := ⟨h9_⟩
           have n10_ : Aside0 (w34.heap[gb1351]? = some (.cells #[.bool false, .slice none 0 0, .slice none 0 0] 67 (0, 0))) := ⟨h10_⟩
           have n11_ : Aside0 (w34.heap[gb1359]? = some (.cells #[.bool t1360, .slice Ao21 t1361.length co21, .slice Ao22 t1364.length co22] 67 (0, 0))) := ⟨h11_⟩
           have n12_ : Aside0 (w34.heap[gb1386]? = some (.cells #[.bool false, .slice none 0 0, .slice none 0 0] 67 (0, 0))) := ⟨h12_⟩
           have n13_ : Aside0 (w.heap.size ≤ gb1386) := ⟨h13_⟩
           have n14_ : Aside0 (w.heap.size ≤ gb1386) := ⟨h14_⟩
           have n15_ : Aside0 (gb1351 ≠ gb1386) := ⟨h15_⟩
           have n16_ : Aside0 (gb1386 ≠ gb1351) := ⟨h16_⟩
           have n17_ : Aside0 (gb1359 ≠ gb1386) := ⟨h17_⟩
           have n18_ : Aside0 (gb1386 ≠ gb1359) := ⟨h18_⟩
           have n19_ : Aside0 (Below w.heap.size w w34) := ⟨h19_⟩
           clear HO_4 HO_5 HO_11 HL1358_1 HL1358_2 HO1363 HO1366 BK1351 BK1359 HB h0_ h1_ h2_ h3_ h4_ h5_ h6_ h7_ h8_ h9_ h10_ h11_ h12_ h13_ h14_ h15_ h16_ h17_ h18_ h19_
           have HL1358_1 := n0_
           have HL1358_2 := n1_
           have HO1363 := n2_
           have HO1366 := n3_
           have HO1369 := n4_
           have HO1372 := n5_
           have HO1375 := n6_
           have HO_11 := n7_
           have HO_4 := n8_
           have HO_5 := n9_
           have BK1351 := n10_
           have BK1359 := n11_
           have BK1386 := n12_
           have GW1386 := n13_
           have GE1386 := n14_
           have NB1351_1386 := n15_
           have NB1386_1351 := n16_
           have NB1359_1386 := n17_
           have NB1386_1359 := n18_
           have HB := n19_
           clear n0_ n1_ n2_ n3_ n4_ n5_ n6_ n7_ n8_ n9_ n10_ n11_ n12_ n13_ n14_ n15_ n16_ n17_ n18_ n19_
           have hHeld : w34.cell? ⟨gb1359, 0, none⟩ = some (.bool t1360) ∧ w34.cell? ⟨gb1359, 1, none⟩ = some (.slice Ao21 t1361.length co21) ∧ w34.cell? ⟨gb1359, 2, none⟩ = some (.slice Ao22 t1364.length co22) := hS_
           obtain ⟨Ao35, co35, eo35⟩ := Kd.N_slice HO1375.out
           (first | subst eo35 | (injection eo35 with f1_ f2_ f3_; have f4_ := f1_.symm; have f5_ := f3_.symm; clear f1_ f2_ f3_; subst f4_; subst f5_))
           refine norm_ (a' := ?_) ?_ ?_
           rotate_left
           ·
            simp only [putAll, Act.put, List.setIfInBounds_toArray, List.set_cons_zero, List.set_cons_succ]
            rfl
           refine one_ (i := 13) (N := some 32) #[true, true, true, true, true, true, true, true, true, true, true, true, true, true, false, true, false] rfl rfl (one_of HT_.out (by kernel_rfl)) (by decide) (fun K hK => ?_)
           refine goes_ Try.func145 (by kernel_rfl) rfl #[.slice Ao35 y1373.length co35] (by rfl) rfl rfl lu ?_
           with_reducible refine (nat_Mul.calls k1 _ _ y1373 t1376 _ ?side1 ?side2 A12.out).mono ?_
           (case side1 => exact cu (Kd.N_reads' HO1375.out).2.2)
           (case side2 => exact (Kd.N_reads' HO1375.out).2.1)
           rintro e w36 ⟨v1377, rfl, ho0, hb⟩
           refine ⟨_, rfl, ?_⟩
           replace ho0 := R_V_base rfl ho0
           replace HO_4 := kv HO_4 hb
           replace HO_5 := kv HO_5 hb
           replace HO_11 := kv HO_11 hb
           replace HL1358_1 := kv HL1358_1 hb
           replace HL1358_2 := kv HL1358_2 hb
           replace HO1363 := kv HO1363 hb
           replace HO1366 := kv HO1366 hb
           replace HO1372 := kv HO1372 hb
           have HO1378 := Aside0.mk (Kd.V_lower (Kd.V_mono (ok' := fun k_ => (P0_ k_ ∨ w.heap.size ≤ k_) ∧ some k_ ≠ (v1368 : Value).ownBlock ∧ some k_ ≠ (.slice Ao35 y1373.length co35 : Value).ownBlock ∧ k_ ≠ gb1351 ∧ k_ ≠ gb1359 ∧ k_ ≠ gb1386) ho0 (fun k_ hk_ => ⟨(.inr (Nat.le_trans (below_size (bu3 HB.out GE1351.out GE1359.out GE1386.out)) hk_)), (Kd.fresh' (Kd.N_lt (nu HO1369.out)) k_ hk_), (Kd.fresh' (Kd.N_lt (nu HO1375.out)) k_ hk_), (Kd.freshB (g := gb1351) (o := .cells #[.bool false, .slice none 0 0, .slice none 0 0] 67 (0, 0)) (ku BK1351.out) k_ hk_), (Kd.freshB (g := gb1359) (o := .cells #[.bool t1360, .slice Ao21 t1361.length co21, .slice Ao22 t1364.length co22] 67 (0, 0)) (ku BK1359.out) k_ hk_), (Kd.freshB (g := gb1386) (o := .cells #[.bool false, .slice none 0 0, .slice none 0 0] 67 (0, 0)) (ku BK1386.out) k_ hk_)⟩)) (below_size (bu3 HB.out GE1351.out GE1359.out GE1386.out)))
           replace HO1369 := Aside0.mk (Kd.N_below (nu HO1369.out) hb)
           replace HO1375 := Aside0.mk (Kd.N_below (nu HO1375.out) hb)
           replace BK1351 := kb BK1351 hb
           replace BK1359 := kb BK1359 hb
           replace BK1386 := kb BK1386 hb
           replace HB := Aside0.mk (below_step (bu3 HB.out GE1351.out GE1359.out GE1386.out) hb)
           (try clear hb)
           (try clear hb2)
           (try clear hk)
           (try clear hi)
           (try clear ho0)
           refine hK.out _ _ ⟨bc BK1359 0, bc BK1359 1, bc BK1359 2⟩ (fun hHeld => ?_)
           clear hK K
           refine nq 32 ?_
           exact norm_ (by first | (simp only [putAll, Act.put, List.setIfInBounds_toArray, List.set_cons_zero, List.set_cons_succ]; done) | (simp only [putAll, Act.put, List.setIfInBounds_toArray, List.set_cons_zero, List.set_cons_succ]; rfl)) (hJ7_8_12_13_15 (v1368, v1371, .slice Ao35 y1373.length co35, v1377, gb1386) _ ⟨hHeld, (vu HL1358_1.out), (vu HL1358_2.out), (vu HO1363.out), (vu HO1366.out), (nu HO1369.out), (vu HO1372.out), (nu HO1375.out), (vu HO1378.out), (vu HO_11.out), (vu HO_4.out), (vu HO_5.out), (ku BK1351.out), (ku BK1359.out), (ku BK1386.out), GW1386.out, GE1386.out, NB1351_1386.out, NB1386_1351.out, NB1359_1386.out, NB1386_1359.out, (bu3 HB.out GE1351.out GE1359.out GE1386.out)⟩)
         ·
          skip
          rintro ⟨v1368, v1371, v1374, v1377⟩ w35 ⟨hS_, h0_, h1_, h2_, h3_, h4_, h5_, h6_, h7_, h8_, h9_, h10_, h11_, h12_, h13_⟩
          have n0_ : Aside0 (Kd.V (Kd.int .u32) 48 w35 w.heap.size (fun k_ => (P0_ k_ ∨ w.heap.size ≤ k_) ∧ some k_ ≠ (v1368 : Value).ownBlock ∧ some k_ ≠ (v1374 : Value).ownBlock ∧ k_ ≠ gb1351 ∧ k_ ≠ gb1359) (.slice A1358_1 ((rd_T67 l0 x13_1).f1).length c1358_1) ((rd_T67 l0 x13_1).f1)) := ⟨h0_⟩
          have n1_ : Aside0 (Kd.V (Kd.int .u32) 48 w35 w.heap.size (fun k_ => (P0_ k_ ∨ w.heap.size ≤ k_) ∧ some k_ ≠ (v1368 : Value).ownBlock ∧ some k_ ≠ (v1374 : Value).ownBlock ∧ k_ ≠ gb1351 ∧ k_ ≠ gb1359) (.slice A1358_2 ((rd_T67 l0 x13_1).f2).length c1358_2) ((rd_T67 l0 x13_1).f2)) := ⟨h1_⟩
          have n2_ : Aside0 (Kd.V (Kd.int .u32) 48 w35 w.heap.size (fun k_ => (P0_ k_ ∨ w.heap.size ≤ k_) ∧ some k_ ≠ (v1368 : Value).ownBlock ∧ some k_ ≠ (v1374 : Value).ownBlock ∧ k_ ≠ gb1351 ∧ k_ ≠ gb1359) (.slice Ao21 t1361.length co21) t1361) := ⟨h2_⟩
          have n3_ : Aside0 (Kd.V (Kd.int .u32) 48 w35 w.heap.size (fun k_ => (P0_ k_ ∨ w.heap.size ≤ k_) ∧ some k_ ≠ (v1368 : Value).ownBlock ∧ some k_ ≠ (v1374 : Value).ownBlock ∧ k_ ≠ gb1351 ∧ k_ ≠ gb1359) (.slice Ao22 t1364.length co22) t1364) := ⟨h3_⟩
          have n4_ : Aside0 (Kd.N (Kd.slice 48 (Kd.int .u32)) 42 w35 w.heap.size (fun k_ => (P0_ k_ ∨ w.heap.size ≤ k_) ∧ some k_ ≠ (v1374 : Value).ownBlock ∧ k_ ≠ gb1351 ∧ k_ ≠ gb1359) v1368 y1367) := ⟨h4_⟩
          have n5_ : Aside0 (Kd.V (Kd.int .u32) 48 w35 w.heap.size (fun k_ => (P0_ k_ ∨ w.heap.size ≤ k_) ∧ some k_ ≠ (v1368 : Value).ownBlock ∧ some k_ ≠ (v1374 : Value).ownBlock ∧ k_ ≠ gb1351 ∧ k_ ≠ gb1359) v1371 t1370) := ⟨h5_⟩
          have n6_ : Aside0 (Kd.N (Kd.slice 48 (Kd.int .u32)) 42 w35 w.heap.size (fun k_ => (P0_ k_ ∨ w.heap.size ≤ k_) ∧ some k_ ≠ (v1368 : Value).ownBlock ∧ k_ ≠ gb1351 ∧ k_ ≠ gb1359) v1374 y1373) := ⟨h6_⟩
          have n7_ : Aside0 (Kd.V (Kd.int .u32) 48 w35 w.heap.size (fun k_ => (P0_ k_ ∨ w.heap.size ≤ k_) ∧ some k_ ≠ (v1368 : Value).ownBlock ∧ some k_ ≠ (v1374 : Value).ownBlock ∧ k_ ≠ gb1351 ∧ k_ ≠ gb1359) v1377 t1376) := ⟨h7_⟩
          have n8_ : Aside0 (Kd.V k67 67 w35 w.heap.size (fun k_ => (P0_ k_ ∨ w.heap.size ≤ k_) ∧ some k_ ≠ (v1368 : Value).ownBlock ∧ some k_ ≠ (v1374 : Value).ownBlock ∧ k_ ≠ gb1351 ∧ k_ ≠ gb1359) (.slice (some ad1358) l0.length c0) l0) := ⟨h8_⟩
          have n9_ : Aside0 (Kd.V (Kd.int .u32) 48 w35 w.heap.size (fun k_ => (P0_ k_ ∨ w.heap.size ≤ k_) ∧ some k_ ≠ (v1368 : Value).ownBlock ∧ some k_ ≠ (v1374 : Value).ownBlock ∧ k_ ≠ gb1351 ∧ k_ ≠ gb1359) (.slice Ao25 x4_1.length co25) x4_1) := ⟨h9_⟩
          have n10_ : Aside0 (Kd.V (Kd.int .u32) 48 w35 w.heap.size (fun k_ => (P0_ k_ ∨ w.heap.size ≤ k_) ∧ some k_ ≠ (v1368 : Value).ownBlock ∧ some k_ ≠ (v1374 : Value).ownBlock ∧ k_ ≠ gb1351 ∧ k_ ≠ gb1359) (.slice AoX5 x5_1.length coX5) x5_1) := ⟨h10_⟩
          have n11_ : Aside0 (w35.heap[gb1351]? = some (.cells #[.bool false, .slice none 0 0, .slice none 0 0] 67 (0, 0))) := ⟨h11_⟩
          have n12_ : Aside0 (w35.heap[gb1359]? = some (.cells #[.bool t1360, .slice Ao21 t1361.length co21, .slice Ao22 t1364.length co22] 67 (0, 0))) := ⟨h12_⟩
          have n13_ : Aside0 (Below w.heap.size w w35) := ⟨h13_⟩
          clear HO_4 HO_5 HO_11 HL1358_1 HL1358_2 HO1363 HO1366 BK1351 BK1359 HB h0_ h1_ h2_ h3_ h4_ h5_ h6_ h7_ h8_ h9_ h10_ h11_ h12_ h13_
          have HL1358_1 := n0_
          have HL1358_2 := n1_
          have HO1363 := n2_
          have HO1366 := n3_
          have HO1369 := n4_
          have HO1372 := n5_
          have HO1375 := n6_
          have HO1378 := n7_
          have HO_11 := n8_
          have HO_4 := n9_
          have HO_5 := n10_
          have BK1351 := n11_
          have BK1359 := n12_
          have HB := n13_
          clear n0_ n1_ n2_ n3_ n4_ n5_ n6_ n7_ n8_ n9_ n10_ n11_ n12_ n13_
          have hHeld : w35.cell? ⟨gb1359, 0, none⟩ = some (.bool t1360) ∧ w35.cell? ⟨gb1359, 1, none⟩ = some (.slice Ao21 t1361.length co21) ∧ w35.cell? ⟨gb1359, 2, none⟩ = some (.slice Ao22 t1364.length co22) := hS_
          obtain ⟨Ao36, co36, eo36⟩ := Kd.V_slice HO1372.out
          (first | subst eo36 | (injection eo36 with f1_ f2_ f3_; have f4_ := f1_.symm; have f5_ := f3_.symm; clear f1_ f2_ f3_; subst f4_; subst f5_))
          obtain ⟨Ao37, co37, eo37⟩ := Kd.V_slice HO1378.out
          (first | subst eo37 | (injection eo37 with f1_ f2_ f3_; have f4_ := f1_.symm; have f5_ := f3_.symm; clear f1_ f2_ f3_; subst f4_; subst f5_))
          refine norm_ (a' := ?_) ?_ ?_
          rotate_left
          ·
           simp only [putAll, Act.put, List.setIfInBounds_toArray, List.set_cons_zero, List.set_cons_succ]
           rfl
          refine two_ (i := 14) (j := 15) (Ni := some 33) (Nj := some 8) #[true, true, true, true, true, true, true, true, true, true, true, true, true, true, true, false, false] #[true, true, true, true, true, true, true, true, true, true, true, true, true, true, false, true, false] rfl rfl rfl rfl (two_of HT_.out (by kernel_rfl)) (by decide) (by decide) (fun K hK => ?_) (fun K hK => ?_)
          ·
           skip
           refine goes_ Try.func155 (by kernel_rfl) rfl #[.bool (x3_1 != t1360), .slice Ao36 t1370.length co36, .slice Ao37 t1376.length co37] (by rfl) rfl rfl lu ?_
           with_reducible refine (rational_canonical.calls k1 (x3_1 != t1360) (fun k_ => ((P0_ k_ ∨ w.heap.size ≤ k_) ∧ (some k_ ≠ (v1368 : Value).ownBlock ∧ (some k_ ≠ (v1374 : Value).ownBlock ∧ (k_ ≠ gb1351 ∧ k_ ≠ gb1359))))) _ _ t1370 (fun k_ => ((P0_ k_ ∨ w.heap.size ≤ k_) ∧ (some k_ ≠ (v1368 : Value).ownBlock ∧ (some k_ ≠ (v1374 : Value).ownBlock ∧ (k_ ≠ gb1351 ∧ k_ ≠ gb1359))))) _ _ t1376 t1379 t1380 t1383 _ ?side1 ?side2 A13.out).mono ?_
           (case side1 => first | exact HO1372.out | exact vz HO1372.out)
           (case side2 => first | exact HO1378.out | exact vz HO1378.out)
           rintro e w38 ⟨v1381, v1384, rfl, ho0, ho1, hb⟩
           refine ⟨_, rfl, ?_⟩
           replace HO_4 := kv HO_4 hb
           replace HO_5 := kv HO_5 hb
           replace HO_11 := kv HO_11 hb
           replace HL1358_1 := kv HL1358_1 hb
           replace HL1358_2 := kv HL1358_2 hb
           replace HO1363 := kv HO1363 hb
           replace HO1366 := kv HO1366 hb
           replace HO1372 := kv HO1372 hb
           replace HO1378 := kv HO1378 hb
           have HO1382 := Aside0.mk (Kd.V_lower (Kd.V_mono (ok' := fun k_ => (P0_ k_ ∨ w.heap.size ≤ k_) ∧ some k_ ≠ (v1368 : Value).ownBlock ∧ some k_ ≠ (v1374 : Value).ownBlock ∧ k_ ≠ gb1351 ∧ k_ ≠ gb1359) ho0 (fun k_ hk_ => ⟨Or.elim hk_ (fun hs_ => Or.elim hs_ (fun hs_ => hs_.1) (fun hs_ => hs_.1)) (fun hn_ => (.inr (Nat.le_trans (below_size (bu2 HB.out GE1351.out GE1359.out)) hn_))), Or.elim hk_ (fun hs_ => Or.elim hs_ (fun hs_ => hs_.2.1) (fun hs_ => hs_.2.1)) (fun hn_ => (Kd.fresh' (Kd.N_lt (nu HO1369.out)) k_ hn_)), Or.elim hk_ (fun hs_ => Or.elim hs_ (fun hs_ => hs_.2.2.1) (fun hs_ => hs_.2.2.1)) (fun hn_ => (Kd.fresh' (Kd.N_lt (nu HO1375.out)) k_ hn_)), Or.elim hk_ (fun hs_ => Or.elim hs_ (fun hs_ => hs_.2.2.2.1) (fun hs_ => hs_.2.2.2.1)) (fun hn_ => (Kd.freshB (g := gb1351) (o := .cells #[.bool false, .slice none 0 0, .slice none 0 0] 67 (0, 0)) (ku BK1351.out) k_ hn_)), Or.elim hk_ (fun hs_ => Or.elim hs_ (fun hs_ => hs_.2.2.2.2) (fun hs_ => hs_.2.2.2.2)) (fun hn_ => (Kd.freshB (g := gb1359) (o := .cells #[.bool t1360, .slice Ao21 t1361.length co21, .slice Ao22 t1364.length co22] 67 (0, 0)) (ku BK1359.out) k_ hn_))⟩)) (below_size (bu2 HB.out GE1351.out GE1359.out)))
           have HO1385 := Aside0.mk (Kd.V_lower (Kd.V_mono (ok' := fun k_ => (P0_ k_ ∨ w.heap.size ≤ k_) ∧ some k_ ≠ (v1368 : Value).ownBlock ∧ some k_ ≠ (v1374 : Value).ownBlock ∧ k_ ≠ gb1351 ∧ k_ ≠ gb1359) ho1 (fun k_ hk_ => ⟨Or.elim hk_ (fun hs_ => Or.elim hs_ (fun hs_ => hs_.1) (fun hs_ => hs_.1)) (fun hn_ => (.inr (Nat.le_trans (below_size (bu2 HB.out GE1351.out GE1359.out)) hn_))), Or.elim hk_ (fun hs_ => Or.elim hs_ (fun hs_ => hs_.2.1) (fun hs_ => hs_.2.1)) (fun hn_ => (Kd.fresh' (Kd.N_lt (nu HO1369.out)) k_ hn_)), Or.elim hk_ (fun hs_ => Or.elim hs_ (fun hs_ => hs_.2.2.1) (fun hs_ => hs_.2.2.1)) (fun hn_ => (Kd.fresh' (Kd.N_lt (nu HO1375.out)) k_ hn_)), Or.elim hk_ (fun hs_ => Or.elim hs_ (fun hs_ => hs_.2.2.2.1) (fun hs_ => hs_.2.2.2.1)) (fun hn_ => (Kd.freshB (g := gb1351) (o := .cells #[.bool false, .slice none 0 0, .slice none 0 0] 67 (0, 0)) (ku BK1351.out) k_ hn_)), Or.elim hk_ (fun hs_ => Or.elim hs_ (fun hs_ => hs_.2.2.2.2) (fun hs_ => hs_.2.2.2.2)) (fun hn_ => (Kd.freshB (g := gb1359) (o := .cells #[.bool t1360, .slice Ao21 t1361.length co21, .slice Ao22 t1364.length co22] 67 (0, 0)) (ku BK1359.out) k_ hn_))⟩)) (below_size (bu2 HB.out GE1351.out GE1359.out)))
           replace HO1369 := Aside0.mk (Kd.N_below (nu HO1369.out) hb)
           replace HO1375 := Aside0.mk (Kd.N_below (nu HO1375.out) hb)
           replace BK1351 := kb BK1351 hb
           replace BK1359 := kb BK1359 hb
           replace HB := Aside0.mk (below_step (bu2 HB.out GE1351.out GE1359.out) hb)
           (try clear hb)
           (try clear hb2)
           (try clear hk)
           (try clear hi)
           (try clear ho0)
           (try clear ho1)
           refine hK.out _ _ ⟨bc BK1359 0, bc BK1359 1, bc BK1359 2⟩ (fun hHeld => ?_)
           clear hK K
           refine nq 33 ?_
           exact norm_ (by first | (simp only [putAll, Act.put, List.setIfInBounds_toArray, List.set_cons_zero, List.set_cons_succ]; done) | (simp only [putAll, Act.put, List.setIfInBounds_toArray, List.set_cons_zero, List.set_cons_succ]; rfl)) (hJ7_8_12_13_14 (v1368, .slice Ao36 t1370.length co36, v1374, .slice Ao37 t1376.length co37, v1381, v1384) _ ⟨hHeld, (vu HL1358_1.out), (vu HL1358_2.out), (vu HO1363.out), (vu HO1366.out), (nu HO1369.out), (vu HO1372.out), (nu HO1375.out), (vu HO1378.out), (vu HO1382.out), (vu HO1385.out), (vu HO_11.out), (vu HO_4.out), (vu HO_5.out), (ku BK1351.out), (ku BK1359.out), (bu2 HB.out GE1351.out GE1359.out)⟩)
          ·
           skip
           refine box_step ?hg (N := 8) ?hd (cs := #[.bool false, .slice none 0 0, .slice none 0 0]) (t := 67) ?hr ?_; (case hd => rfl); (case hg => rfl); (case hr => first | (go_simp; done) | (go_simp; rfl))
           intro gb1386 hg w36 hbox hb
           replace HO_4 := ke HO_4 hg hb
           replace HO_5 := ke HO_5 hg hb
           replace HO_11 := ke HO_11 hg hb
           replace HL1358_1 := ke HL1358_1 hg hb
           replace HL1358_2 := ke HL1358_2 hg hb
           replace HO1363 := ke HO1363 hg hb
           replace HO1366 := ke HO1366 hg hb
           replace HO1369 := Aside0.mk (Kd.N_below (Kd.N_elderB (nu HO1369.out) gb1386 (Nat.le_of_eq hg.symm)) hb)
           replace HO1372 := ke HO1372 hg hb
           replace HO1375 := Aside0.mk (Kd.N_below (Kd.N_elderB (nu HO1375.out) gb1386 (Nat.le_of_eq hg.symm)) hb)
           replace HO1378 := ke HO1378 hg hb
           have BK1386 := Aside0.mk (hbox)
           have GW1386 := ng hg (bu2 HB.out GE1351.out GE1359.out)
           have GE1386 := ng hg (bu2 HB.out GE1351.out GE1359.out)
           replace HB := Aside0.mk (below_step (bu2 HB.out GE1351.out GE1359.out) hb)
           have NB1351_1386 := nl hg BK1351
           have NB1386_1351 := nr hg BK1351
           replace BK1351 := kb BK1351 hb
           have NB1359_1386 := nl hg BK1359
           have NB1386_1359 := nr hg BK1359
           replace BK1359 := kb BK1359 hb
           clear hb hbox hg
           refine hK.out _ _ ⟨bc BK1359 0, bc BK1359 1, bc BK1359 2⟩ (fun hHeld => ?_)
           clear hK K
           refine nq 8 ?_
           exact norm_ (by first | (simp only [putAll, Act.put, List.setIfInBounds_toArray, List.set_cons_zero, List.set_cons_succ]; done) | (simp only [putAll, Act.put, List.setIfInBounds_toArray, List.set_cons_zero, List.set_cons_succ]; rfl)) (hJ7_8_12_13_15 (v1368, (.slice Ao36 t1370.length co36), v1374, (.slice Ao37 t1376.length co37), gb1386) _ ⟨hHeld, (vz HL1358_1.out), (vz HL1358_2.out), (vz HO1363.out), (vz HO1366.out), (by (with_reducible repeat (first | apply Kd.N_alloc | apply Kd.N_drewN | apply Kd.N_drew)); exact Kd.N_mono HO1369.out (fun _ hk => ⟨hk.1.1, ⟨hk.1.2.1, ⟨hk.1.2.2.1, ⟨hk.1.2.2.2, hk.2⟩⟩⟩⟩)), (vz HO1372.out), (by (with_reducible repeat (first | apply Kd.N_alloc | apply Kd.N_drewN | apply Kd.N_drew)); exact Kd.N_mono HO1375.out (fun _ hk => ⟨hk.1.1, ⟨hk.1.2.1, ⟨hk.1.2.2.1, ⟨hk.1.2.2.2, hk.2⟩⟩⟩⟩)), (vz HO1378.out), (vz HO_11.out), (vz HO_4.out), (vz HO_5.out), (ku BK1351.out), (ku BK1359.out), (ku BK1386.out), GW1386.out, GE1386.out, NB1351_1386.out, NB1386_1351.out, NB1359_1386.out, NB1386_1359.out, (bu3 HB.out GE1351.out GE1359.out GE1386.out)⟩)
        ·
         skip
         rintro ⟨v1368, v1371, v1374, v1377, gb1386⟩ w36 ⟨hS_, h0_, h1_, h2_, h3_, h4_, h5_, h6_, h7_, h8_, h9_, h10_, h11_, h12_, h13_, h14_, h15_, h16_, h17_, h18_, h19_, h20_⟩
         have n0_ : Aside0 (Kd.V (Kd.int .u32) 48 w36 w.heap.size (fun k_ => (P0_ k_ ∨ w.heap.size ≤ k_) ∧ some k_ ≠ (v1368 : Value).ownBlock ∧ some k_ ≠ (v1374 : Value).ownBlock ∧ k_ ≠ gb1351 ∧ k_ ≠ gb1359 ∧ k_ ≠ gb1386) (.slice A1358_1 ((rd_T67 l0 x13_1).f1).length c1358_1) ((rd_T67 l0 x13_1).f1)) := ⟨h0_⟩
         have n1_ : Aside0 (Kd.V (Kd.int .u32) 48 w36 w.heap.size (fun k_ => (P0_ k_ ∨ w.heap.size ≤ k_) ∧ some k_ ≠ (v1368 : Value).ownBlock ∧ some k_ ≠ (v1374 : Value).ownBlock ∧ k_ ≠ gb1351 ∧ k_ ≠ gb1359 ∧ k_ ≠ gb1386) (.slice A1358_2 ((rd_T67 l0 x13_1).f2).length c1358_2) ((rd_T67 l0 x13_1).f2)) := ⟨h1_⟩
         have n2_ : Aside0 (Kd.V (Kd.int .u32) 48 w36 w.heap.size (fun k_ => (P0_ k_ ∨ w.heap.size ≤ k_) ∧ some k_ ≠ (v1368 : Value).ownBlock ∧ some k_ ≠ (v1374 : Value).ownBlock ∧ k_ ≠ gb1351 ∧ k_ ≠ gb1359 ∧ k_ ≠ gb1386) (.slice Ao21 t1361.length co21) t1361) := ⟨h2_⟩
         have n3_ : Aside0 (Kd.V (Kd.int .u32) 48 w36 w.heap.size (fun k_ => (P0_ k_ ∨ w.heap.size ≤ k_) ∧ some k_ ≠ (v1368 : Value).ownBlock ∧ some k_ ≠ (v1374 : Value).ownBlock ∧ k_ ≠ gb1351 ∧ k_ ≠ gb1359 ∧ k_ ≠ gb1386) (.slice Ao22 t1364.length co22) t1364) := ⟨h3_⟩
         have n4_ : Aside0 (Kd.N (Kd.slice 48 (Kd.int .u32)) 42 w36 w.heap.size (fun k_ => (P0_ k_ ∨ w.heap.size ≤ k_) ∧ some k_ ≠ (v1374 : Value).ownBlock ∧ k_ ≠ gb1351 ∧ k_ ≠ gb1359 ∧ k_ ≠ gb1386) v1368 y1367) := ⟨h4_⟩
         have n5_ : Aside0 (Kd.V (Kd.int .u32) 48 w36 w.heap.size (fun k_ => (P0_ k_ ∨ w.heap.size ≤ k_) ∧ some k_ ≠ (v1368 : Value).ownBlock ∧ some k_ ≠ (v1374 : Value).ownBlock ∧ k_ ≠ gb1351 ∧ k_ ≠ gb1359 ∧ k_ ≠ gb1386) v1371 t1370) := ⟨h5_⟩
         have n6_ : Aside0 (Kd.N (Kd.slice 48 (Kd.int .u32)) 42 w36 w.heap.size (fun k_ => (P0_ k_ ∨ w.heap.size ≤ k_) ∧ some k_ ≠ (v1368 : Value).ownBlock ∧ k_ ≠ gb1351 ∧ k_ ≠ gb1359 ∧ k_ ≠ gb1386) v1374 y1373) := ⟨h6_⟩
         have n7_ : Aside0 (Kd.V (Kd.int .u32) 48 w36 w.heap.size (fun k_ => (P0_ k_ ∨ w.heap.size ≤ k_) ∧ some k_ ≠ (v1368 : Value).ownBlock ∧ some k_ ≠ (v1374 : Value).ownBlock ∧ k_ ≠ gb1351 ∧ k_ ≠ gb1359 ∧ k_ ≠ gb1386) v1377 t1376) := ⟨h7_⟩
         have n8_ : Aside0 (Kd.V k67 67 w36 w.heap.size (fun k_ => (P0_ k_ ∨ w.heap.size ≤ k_) ∧ some k_ ≠ (v1368 : Value).ownBlock ∧ some k_ ≠ (v1374 : Value).ownBlock ∧ k_ ≠ gb1351 ∧ k_ ≠ gb1359 ∧ k_ ≠ gb1386) (.slice (some ad1358) l0.length c0) l0) := ⟨h8_⟩
         have n9_ : Aside0 (Kd.V (Kd.int .u32) 48 w36 w.heap.size (fun k_ => (P0_ k_ ∨ w.heap.size ≤ k_) ∧ some k_ ≠ (v1368 : Value).ownBlock ∧ some k_ ≠ (v1374 : Value).ownBlock ∧ k_ ≠ gb1351 ∧ k_ ≠ gb1359 ∧ k_ ≠ gb1386) (.slice Ao25 x4_1.length co25) x4_1) := ⟨h9_⟩
         have n10_ : Aside0 (Kd.V (Kd.int .u32) 48 w36 w.heap.size (fun k_ => (P0_ k_ ∨ w.heap.size ≤ k_) ∧ some k_ ≠ (v1368 : Value).ownBlock ∧ some k_ ≠ (v1374 : Value).ownBlock ∧ k_ ≠ gb1351 ∧ k_ ≠ gb1359 ∧ k_ ≠ gb1386) (.slice AoX5 x5_1.length coX5) x5_1) := ⟨h10_⟩
         have n11_ : Aside0 (w36.heap[gb1351]? = some (.cells #[.bool false, .slice none 0 0, .slice none 0 0] 67 (0, 0))) := ⟨h11_⟩
         have n12_ : Aside0 (w36.heap[gb1359]? = some (.cells #[.bool t1360, .slice Ao21 t1361.length co21, .slice Ao22 t1364.length co22] 67 (0, 0))) := ⟨h12_⟩
         have n13_ : Aside0 (w36.heap[gb1386]? = some (.cells #[.bool false, .slice none 0 0, .slice none 0 0] 67 (0, 0))) := ⟨h13_⟩
         have n14_ : Aside0 (w.heap.size ≤ gb1386) := ⟨h14_⟩
         have n15_ : Aside0 (w.heap.size ≤ gb1386) := ⟨h15_⟩
         have n16_ : Aside0 (gb1351 ≠ gb1386) := ⟨h16_⟩
         have n17_ : Aside0 (gb1386 ≠ gb1351) := ⟨h17_⟩
         have n18_ : Aside0 (gb1359 ≠ gb1386) := ⟨h18_⟩
         have n19_ : Aside0 (gb1386 ≠ gb1359) := ⟨h19_⟩
         have n20_ : Aside0 (Below w.heap.size w w36) := ⟨h20_⟩
         clear HO_4 HO_5 HO_11 HL1358_1 HL1358_2 HO1363 HO1366 BK1351 BK1359 HB h0_ h1_ h2_ h3_ h4_ h5_ h6_ h7_ h8_ h9_ h10_ h11_ h12_ h13_ h14_ h15_ h16_ h17_ h18_ h19_ h20_
         have HL1358_1 := n0_
         have HL1358_2 := n1_
         have HO1363 := n2_
         have HO1366 := n3_
         have HO1369 := n4_
         have HO1372 := n5_
         have HO1375 := n6_
         have HO1378 := n7_
         have HO_11 := n8_
         have HO_4 := n9_
         have HO_5 := n10_
         have BK1351 := n11_
         have BK1359 := n12_
         have BK1386 := n13_
         have GW1386 := n14_
         have GE1386 := n15_
         have NB1351_1386 := n16_
         have NB1386_1351 := n17_
         have NB1359_1386 := n18_
         have NB1386_1359 := n19_
         have HB := n20_
         clear n0_ n1_ n2_ n3_ n4_ n5_ n6_ n7_ n8_ n9_ n10_ n11_ n12_ n13_ n14_ n15_ n16_ n17_ n18_ n19_ n20_
         have hHeld : w36.cell? ⟨gb1359, 0, none⟩ = some (.bool t1360) ∧ w36.cell? ⟨gb1359, 1, none⟩ = some (.slice Ao21 t1361.length co21) ∧ w36.cell? ⟨gb1359, 2, none⟩ = some (.slice Ao22 t1364.length co22) := hS_
         obtain ⟨Ao37, co37, eo37⟩ := Kd.V_slice HO1372.out
         (first | subst eo37 | (injection eo37 with f1_ f2_ f3_; have f4_ := f1_.symm; have f5_ := f3_.symm; clear f1_ f2_ f3_; subst f4_; subst f5_))
         obtain ⟨Ao38, co38, eo38⟩ := Kd.V_slice HO1378.out
         (first | subst eo38 | (injection eo38 with f1_ f2_ f3_; have f4_ := f1_.symm; have f5_ := f3_.symm; clear f1_ f2_ f3_; subst f4_; subst f5_))
         refine norm_ (a' := ?_) ?_ ?_
         rotate_left
         ·
          simp only [putAll, Act.put, List.setIfInBounds_toArray, List.set_cons_zero, List.set_cons_succ]
          rfl
         refine one_ (i := 14) (N := some 33) #[true, true, true, true, true, true, true, true, true, true, true, true, true, true, true, true, false] rfl rfl (one_of HT_.out (by kernel_rfl)) (by decide) (fun K hK => ?_)
         refine goes_ Try.func155 (by kernel_rfl) rfl #[.bool (x3_1 != t1360), .slice Ao37 t1370.length co37, .slice Ao38 t1376.length co38] (by rfl) rfl rfl lu ?_
         with_reducible refine (rational_canonical.calls k1 (x3_1 != t1360) (fun k_ => ((P0_ k_ ∨ w.heap.size ≤ k_) ∧ (some k_ ≠ (v1368 : Value).ownBlock ∧ (some k_ ≠ (v1374 : Value).ownBlock ∧ (k_ ≠ gb1351 ∧ (k_ ≠ gb1359 ∧ k_ ≠ gb1386)))))) _ _ t1370 (fun k_ => ((P0_ k_ ∨ w.heap.size ≤ k_) ∧ (some k_ ≠ (v1368 : Value).ownBlock ∧ (some k_ ≠ (v1374 : Value).ownBlock ∧ (k_ ≠ gb1351 ∧ (k_ ≠ gb1359 ∧ k_ ≠ gb1386)))))) _ _ t1376 t1379 t1380 t1383 _ ?side1 ?side2 A13.out).mono ?_
         (case side1 => first | exact HO1372.out | exact vz HO1372.out)
         (case side2 => first | exact HO1378.out | exact vz HO1378.out)
         rintro e w39 ⟨v1381, v1384, rfl, ho0, ho1, hb⟩
         refine ⟨_, rfl, ?_⟩
         replace HO_4 := kv HO_4 hb
         replace HO_5 := kv HO_5 hb
         replace HO_11 := kv HO_11 hb
         replace HL1358_1 := kv HL1358_1 hb
         replace HL1358_2 := kv HL1358_2 hb
         replace HO1363 := kv HO1363 hb
         replace HO1366 := kv HO1366 hb
         replace HO1372 := kv HO1372 hb
         replace HO1378 := kv HO1378 hb
         have HO1382 := Aside0.mk (Kd.V_lower (Kd.V_mono (ok' := fun k_ => (P0_ k_ ∨ w.heap.size ≤ k_) ∧ some k_ ≠ (v1368 : Value).ownBlock ∧ some k_ ≠ (v1374 : Value).ownBlock ∧ k_ ≠ gb1351 ∧ k_ ≠ gb1359 ∧ k_ ≠ gb1386) ho0 (fun k_ hk_ => ⟨Or.elim hk_ (fun hs_ => Or.elim hs_ (fun hs_ => hs_.1) (fun hs_ => hs_.1)) (fun hn_ => (.inr (Nat.le_trans (below_size (bu3 HB.out GE1351.out GE1359.out GE1386.out)) hn_))), Or.elim hk_ (fun hs_ => Or.elim hs_ (fun hs_ => hs_.2.1) (fun hs_ => hs_.2.1)) (fun hn_ => (Kd.fresh' (Kd.N_lt (nu HO1369.out)) k_ hn_)), Or.elim hk_ (fun hs_ => Or.elim hs_ (fun hs_ => hs_.2.2.1) (fun hs_ => hs_.2.2.1)) (fun hn_ => (Kd.fresh' (Kd.N_lt (nu HO1375.out)) k_ hn_)), Or.elim hk_ (fun hs_ => Or.elim hs_ (fun hs_ => hs_.2.2.2.1) (fun hs_ => hs_.2.2.2.1)) (fun hn_ => (Kd.freshB (g := gb1351) (o := .cells #[.bool false, .slice none 0 0, .slice none 0 0] 67 (0, 0)) (ku BK1351.out) k_ hn_)), Or.elim hk_ (fun hs_ => Or.elim hs_ (fun hs_ => hs_.2.2.2.2.1) (fun hs_ => hs_.2.2.2.2.1)) (fun hn_ => (Kd.freshB (g := gb1359) (o := .cells #[.bool t1360, .slice Ao21 t1361.length co21, .slice Ao22 t1364.length co22] 67 (0, 0)) (ku BK1359.out) k_ hn_)), Or.elim hk_ (fun hs_ => Or.elim hs_ (fun hs_ => hs_.2.2.2.2.2) (fun hs_ => hs_.2.2.2.2.2)) (fun hn_ => (Kd.freshB (g := gb1386) (o := .cells #[.bool false, .slice none 0 0, .slice none 0 0] 67 (0, 0)) (ku BK1386.out) k_ hn_))⟩)) (below_size (bu3 HB.out GE1351.out GE1359.out GE1386.out)))
         have HO1385 := Aside0.mk (Kd.V_lower (Kd.V_mono (ok' := fun k_ => (P0_ k_ ∨ w.heap.size ≤ k_) ∧ some k_ ≠ (v1368 : Value).ownBlock ∧ some k_ ≠ (v1374 : Value).ownBlock ∧ k_ ≠ gb1351 ∧ k_ ≠ gb1359 ∧ k_ ≠ gb1386) ho1 (fun k_ hk_ => ⟨Or.elim hk_ (fun hs_ => Or.elim hs_ (fun hs_ => hs_.1) (fun hs_ => hs_.1)) (fun hn_ => (.inr (Nat.le_trans (below_size (bu3 HB.out GE1351.out GE1359.out GE1386.out)) hn_))), Or.elim hk_ (fun hs_ => Or.elim hs_ (fun hs_ => hs_.2.1) (fun hs_ => hs_.2.1)) (fun hn_ => (Kd.fresh' (Kd.N_lt (nu HO1369.out)) k_ hn_)), Or.elim hk_ (fun hs_ => Or.elim hs_ (fun hs_ => hs_.2.2.1) (fun hs_ => hs_.2.2.1)) (fun hn_ => (Kd.fresh' (Kd.N_lt (nu HO1375.out)) k_ hn_)), Or.elim hk_ (fun hs_ => Or.elim hs_ (fun hs_ => hs_.2.2.2.1) (fun hs_ => hs_.2.2.2.1)) (fun hn_ => (Kd.freshB (g := gb1351) (o := .cells #[.bool false, .slice none 0 0, .slice none 0 0] 67 (0, 0)) (ku BK1351.out) k_ hn_)), Or.elim hk_ (fun hs_ => Or.elim hs_ (fun hs_ => hs_.2.2.2.2.1) (fun hs_ => hs_.2.2.2.2.1)) (fun hn_ => (Kd.freshB (g := gb1359) (o := .cells #[.bool t1360, .slice Ao21 t1361.length co21, .slice Ao22 t1364.length co22] 67 (0, 0)) (ku BK1359.out) k_ hn_)), Or.elim hk_ (fun hs_ => Or.elim hs_ (fun hs_ => hs_.2.2.2.2.2) (fun hs_ => hs_.2.2.2.2.2)) (fun hn_ => (Kd.freshB (g := gb1386) (o := .cells #[.bool false, .slice none 0 0, .slice none 0 0] 67 (0, 0)) (ku BK1386.out) k_ hn_))⟩)) (below_size (bu3 HB.out GE1351.out GE1359.out GE1386.out)))
         replace HO1369 := Aside0.mk (Kd.N_below (nu HO1369.out) hb)
         replace HO1375 := Aside0.mk (Kd.N_below (nu HO1375.out) hb)
         replace BK1351 := kb BK1351 hb
         replace BK1359 := kb BK1359 hb
         replace BK1386 := kb BK1386 hb
         replace HB := Aside0.mk (below_step (bu3 HB.out GE1351.out GE1359.out GE1386.out) hb)
         (try clear hb)
         (try clear hb2)
         (try clear hk)
         (try clear hi)
         (try clear ho0)
         (try clear ho1)
         refine hK.out _ _ ⟨bc BK1359 0, bc BK1359 1, bc BK1359 2⟩ (fun hHeld => ?_)
         clear hK K
         refine nq 33 ?_
         exact norm_ (by first | (simp only [putAll, Act.put, List.setIfInBounds_toArray, List.set_cons_zero, List.set_cons_succ]; done) | (simp only [putAll, Act.put, List.setIfInBounds_toArray, List.set_cons_zero, List.set_cons_succ]; rfl)) (hJ7_8_12_13_14_15 (v1368, .slice Ao37 t1370.length co37, v1374, .slice Ao38 t1376.length co38, v1381, v1384, gb1386) _ ⟨hHeld, (vu HL1358_1.out), (vu HL1358_2.out), (vu HO1363.out), (vu HO1366.out), (nu HO1369.out), (vu HO1372.out), (nu HO1375.out), (vu HO1378.out), (vu HO1382.out), (vu HO1385.out), (vu HO_11.out), (vu HO_4.out), (vu HO_5.out), (ku BK1351.out), (ku BK1359.out), (ku BK1386.out), GW1386.out, GE1386.out, NB1351_1386.out, NB1386_1351.out, NB1359_1386.out, NB1386_1359.out, (bu3 HB.out GE1351.out GE1359.out GE1386.out)⟩)
       ·
        skip
        rintro ⟨v1368, v1371, v1374, v1377, v1381, v1384⟩ w38 ⟨hS_, h0_, h1_, h2_, h3_, h4_, h5_, h6_, h7_, h8_, h9_, h10_, h11_, h12_, h13_, h14_, h15_⟩
        have n0_ : Aside0 (Kd.V (Kd.int .u32) 48 w38 w.heap.size (fun k_ => (P0_ k_ ∨ w.heap.size ≤ k_) ∧ some k_ ≠ (v1368 : Value).ownBlock ∧ some k_ ≠ (v1374 : Value).ownBlock ∧ k_ ≠ gb1351 ∧ k_ ≠ gb1359) (.slice A1358_1 ((rd_T67 l0 x13_1).f1).length c1358_1) ((rd_T67 l0 x13_1).f1)) := ⟨h0_⟩
        have n1_ : Aside0 (Kd.V (Kd.int .u32) 48 w38 w.heap.size (fun k_ => (P0_ k_ ∨ w.heap.size ≤ k_) ∧ some k_ ≠ (v1368 : Value).ownBlock ∧ some k_ ≠ (v1374 : Value).ownBlock ∧ k_ ≠ gb1351 ∧ k_ ≠ gb1359) (.slice A1358_2 ((rd_T67 l0 x13_1).f2).length c1358_2) ((rd_T67 l0 x13_1).f2)) := ⟨h1_⟩
        have n2_ : Aside0 (Kd.V (Kd.int .u32) 48 w38 w.heap.size (fun k_ => (P0_ k_ ∨ w.heap.size ≤ k_) ∧ some k_ ≠ (v1368 : Value).ownBlock ∧ some k_ ≠ (v1374 : Value).ownBlock ∧ k_ ≠ gb1351 ∧ k_ ≠ gb1359) (.slice Ao21 t1361.length co21) t1361) := ⟨h2_⟩
        have n3_ : Aside0 (Kd.V (Kd.int .u32) 48 w38 w.heap.size (fun k_ => (P0_ k_ ∨ w.heap.size ≤ k_) ∧ some k_ ≠ (v1368 : Value).ownBlock ∧ some k_ ≠ (v1374 : Value).ownBlock ∧ k_ ≠ gb1351 ∧ k_ ≠ gb1359) (.slice Ao22 t1364.length co22) t1364) := ⟨h3_⟩
        have n4_ : Aside0 (Kd.N (Kd.slice 48 (Kd.int .u32)) 42 w38 w.heap.size (fun k_ => (P0_ k_ ∨ w.heap.size ≤ k_) ∧ some k_ ≠ (v1374 : Value).ownBlock ∧ k_ ≠ gb1351 ∧ k_ ≠ gb1359) v1368 y1367) := ⟨h4_⟩
        have n5_ : Aside0 (Kd.V (Kd.int .u32) 48 w38 w.heap.size (fun k_ => (P0_ k_ ∨ w.heap.size ≤ k_) ∧ some k_ ≠ (v1368 : Value).ownBlock ∧ some k_ ≠ (v1374 : Value).ownBlock ∧ k_ ≠ gb1351 ∧ k_ ≠ gb1359) v1371 t1370) := ⟨h5_⟩
        have n6_ : Aside0 (Kd.N (Kd.slice 48 (Kd.int .u32)) 42 w38 w.heap.size (fun k_ => (P0_ k_ ∨ w.heap.size ≤ k_) ∧ some k_ ≠ (v1368 : Value).ownBlock ∧ k_ ≠ gb1351 ∧ k_ ≠ gb1359) v1374 y1373) := ⟨h6_⟩
        have n7_ : Aside0 (Kd.V (Kd.int .u32) 48 w38 w.heap.size (fun k_ => (P0_ k_ ∨ w.heap.size ≤ k_) ∧ some k_ ≠ (v1368 : Value).ownBlock ∧ some k_ ≠ (v1374 : Value).ownBlock ∧ k_ ≠ gb1351 ∧ k_ ≠ gb1359) v1377 t1376) := ⟨h7_⟩
        have n8_ : Aside0 (Kd.V (Kd.int .u32) 48 w38 w.heap.size (fun k_ => (P0_ k_ ∨ w.heap.size ≤ k_) ∧ some k_ ≠ (v1368 : Value).ownBlock ∧ some k_ ≠ (v1374 : Value).ownBlock ∧ k_ ≠ gb1351 ∧ k_ ≠ gb1359) v1381 t1380) := ⟨h8_⟩
        have n9_ : Aside0 (Kd.V (Kd.int .u32) 48 w38 w.heap.size (fun k_ => (P0_ k_ ∨ w.heap.size ≤ k_) ∧ some k_ ≠ (v1368 : Value).ownBlock ∧ some k_ ≠ (v1374 : Value).ownBlock ∧ k_ ≠ gb1351 ∧ k_ ≠ gb1359) v1384 t1383) := ⟨h9_⟩
        have n10_ : Aside0 (Kd.V k67 67 w38 w.heap.size (fun k_ => (P0_ k_ ∨ w.heap.size ≤ k_) ∧ some k_ ≠ (v1368 : Value).ownBlock ∧ some k_ ≠ (v1374 : Value).ownBlock ∧ k_ ≠ gb1351 ∧ k_ ≠ gb1359) (.slice (some ad1358) l0.length c0) l0) := ⟨h10_⟩
        have n11_ : Aside0 (Kd.V (Kd.int .u32) 48 w38 w.heap.size (fun k_ => (P0_ k_ ∨ w.heap.size ≤ k_) ∧ some k_ ≠ (v1368 : Value).ownBlock ∧ some k_ ≠ (v1374 : Value).ownBlock ∧ k_ ≠ gb1351 ∧ k_ ≠ gb1359) (.slice Ao25 x4_1.length co25) x4_1) := ⟨h11_⟩
        have n12_ : Aside0 (Kd.V (Kd.int .u32) 48 w38 w.heap.size (fun k_ => (P0_ k_ ∨ w.heap.size ≤ k_) ∧ some k_ ≠ (v1368 : Value).ownBlock ∧ some k_ ≠ (v1374 : Value).ownBlock ∧ k_ ≠ gb1351 ∧ k_ ≠ gb1359) (.slice AoX5 x5_1.length coX5) x5_1) := ⟨h12_⟩
        have n13_ : Aside0 (w38.heap[gb1351]? = some (.cells #[.bool false, .slice none 0 0, .slice none 0 0] 67 (0, 0))) := ⟨h13_⟩
        have n14_ : Aside0 (w38.heap[gb1359]? = some (.cells #[.bool t1360, .slice Ao21 t1361.length co21, .slice Ao22 t1364.length co22] 67 (0, 0))) := ⟨h14_⟩
        have n15_ : Aside0 (Below w.heap.size w w38) := ⟨h15_⟩
        clear HO_4 HO_5 HO_11 HL1358_1 HL1358_2 HO1363 HO1366 BK1351 BK1359 HB h0_ h1_ h2_ h3_ h4_ h5_ h6_ h7_ h8_ h9_ h10_ h11_ h12_ h13_ h14_ h15_
        have HL1358_1 := n0_
        have HL1358_2 := n1_
        have HO1363 := n2_
        have HO1366 := n3_
        have HO1369 := n4_
        have HO1372 := n5_
        have HO1375 := n6_
        have HO1378 := n7_
        have HO1382 := n8_
        have HO1385 := n9_
        have HO_11 := n10_
        have HO_4 := n11_
        have HO_5 := n12_
        have BK1351 := n13_
        have BK1359 := n14_
        have HB := n15_
        clear n0_ n1_ n2_ n3_ n4_ n5_ n6_ n7_ n8_ n9_ n10_ n11_ n12_ n13_ n14_ n15_
        have hHeld : w38.cell? ⟨gb1359, 0, none⟩ = some (.bool t1360) ∧ w38.cell? ⟨gb1359, 1, none⟩ = some (.slice Ao21 t1361.length co21) ∧ w38.cell? ⟨gb1359, 2, none⟩ = some (.slice Ao22 t1364.length co22) := hS_
        refine norm_ (a' := ?_) ?_ ?_
        rotate_left
        ·
         simp only [putAll, Act.put, List.setIfInBounds_toArray, List.set_cons_zero, List.set_cons_succ]
         rfl
        refine one_ (i := 15) (N := some 8) #[true, true, true, true, true, true, true, true, true, true, true, true, true, true, true, true, false] rfl rfl (one_of HT_.out (by kernel_rfl)) (by decide) (fun K hK => ?_)
        refine box_step ?hg (N := 8) ?hd (cs := #[.bool false, .slice none 0 0, .slice none 0 0]) (t := 67) ?hr ?_; (case hd => rfl); (case hg => rfl); (case hr => first | (go_simp; done) | (go_simp; rfl))
        intro gb1386 hg w39 hbox hb
        replace HO_4 := ke HO_4 hg hb
        replace HO_5 := ke HO_5 hg hb
        replace HO_11 := ke HO_11 hg hb
        replace HL1358_1 := ke HL1358_1 hg hb
        replace HL1358_2 := ke HL1358_2 hg hb
        replace HO1363 := ke HO1363 hg hb
        replace HO1366 := ke HO1366 hg hb
        replace HO1369 := Aside0.mk (Kd.N_below (Kd.N_elderB (nu HO1369.out) gb1386 (Nat.le_of_eq hg.symm)) hb)
        replace HO1372 := ke HO1372 hg hb
        replace HO1375 := Aside0.mk (Kd.N_below (Kd.N_elderB (nu HO1375.out) gb1386 (Nat.le_of_eq hg.symm)) hb)
        replace HO1378 := ke HO1378 hg hb
        replace HO1382 := ke HO1382 hg hb
        replace HO1385 := ke HO1385 hg hb
        have BK1386 := Aside0.mk (hbox)
        have GW1386 := ng hg (bu2 HB.out GE1351.out GE1359.out)
        have GE1386 := ng hg (bu2 HB.out GE1351.out GE1359.out)
        replace HB := Aside0.mk (below_step (bu2 HB.out GE1351.out GE1359.out) hb)
        have NB1351_1386 := nl hg BK1351
        have NB1386_1351 := nr hg BK1351
        replace BK1351 := kb BK1351 hb
        have NB1359_1386 := nl hg BK1359
        have NB1386_1359 := nr hg BK1359
        replace BK1359 := kb BK1359 hb
        clear hb hbox hg
        refine hK.out _ _ ⟨bc BK1359 0, bc BK1359 1, bc BK1359 2⟩ (fun hHeld => ?_)
        clear hK K
        refine nq 8 ?_
        exact norm_ (by first | (simp only [putAll, Act.put, List.setIfInBounds_toArray, List.set_cons_zero, List.set_cons_succ]; done) | (simp only [putAll, Act.put, List.setIfInBounds_toArray, List.set_cons_zero, List.set_cons_succ]; rfl)) (hJ7_8_12_13_14_15 (v1368, v1371, v1374, v1377, v1381, v1384, gb1386) _ ⟨hHeld, (vz HL1358_1.out), (vz HL1358_2.out), (vz HO1363.out), (vz HO1366.out), (by (with_reducible repeat (first | apply Kd.N_alloc | apply Kd.N_drewN | apply Kd.N_drew)); exact Kd.N_mono HO1369.out (fun _ hk => ⟨hk.1.1, ⟨hk.1.2.1, ⟨hk.1.2.2.1, ⟨hk.1.2.2.2, hk.2⟩⟩⟩⟩)), (vz HO1372.out), (by (with_reducible repeat (first | apply Kd.N_alloc | apply Kd.N_drewN | apply Kd.N_drew)); exact Kd.N_mono HO1375.out (fun _ hk => ⟨hk.1.1, ⟨hk.1.2.1, ⟨hk.1.2.2.1, ⟨hk.1.2.2.2, hk.2⟩⟩⟩⟩)), (vz HO1378.out), (vz HO1382.out), (vz HO1385.out), (vz HO_11.out), (vz HO_4.out), (vz HO_5.out), (ku BK1351.out), (ku BK1359.out), (ku BK1386.out), GW1386.out, GE1386.out, NB1351_1386.out, NB1386_1351.out, NB1359_1386.out, NB1386_1359.out, (bu3 HB.out GE1351.out GE1359.out GE1386.out)⟩)
      rintro ⟨v1368, v1371, v1374, v1377, v1381, v1384, gb1386⟩ w39 ⟨hS_, h0_, h1_, h2_, h3_, h4_, h5_, h6_, h7_, h8_, h9_, h10_, h11_, h12_, h13_, h14_, h15_, h16_, h17_, h18_, h19_, h20_, h21_, h22_⟩
      have n0_ : Aside0 (Kd.V (Kd.int .u32) 48 w39 w.heap.size (fun k_ => (P0_ k_ ∨ w.heap.size ≤ k_) ∧ some k_ ≠ (v1368 : Value).ownBlock ∧ some k_ ≠ (v1374 : Value).ownBlock ∧ k_ ≠ gb1351 ∧ k_ ≠ gb1359 ∧ k_ ≠ gb1386) (.slice A1358_1 ((rd_T67 l0 x13_1).f1).length c1358_1) ((rd_T67 l0 x13_1).f1)) := ⟨h0_⟩
      have n1_ : Aside0 (Kd.V (Kd.int .u32) 48 w39 w.heap.size (fun k_ => (P0_ k_ ∨ w.heap.size ≤ k_) ∧ some k_ ≠ (v1368 : Value).ownBlock ∧ some k_ ≠ (v1374 : Value).ownBlock ∧ k_ ≠ gb1351 ∧ k_ ≠ gb1359 ∧ k_ ≠ gb1386) (.slice A1358_2 ((rd_T67 l0 x13_1).f2).length c1358_2) ((rd_T67 l0 x13_1).f2)) := ⟨h1_⟩
      have n2_ : Aside0 (Kd.V (Kd.int .u32) 48 w39 w.heap.size (fun k_ => (P0_ k_ ∨ w.heap.size ≤ k_) ∧ some k_ ≠ (v1368 : Value).ownBlock ∧ some k_ ≠ (v1374 : Value).ownBlock ∧ k_ ≠ gb1351 ∧ k_ ≠ gb1359 ∧ k_ ≠ gb1386) (.slice Ao21 t1361.length co21) t1361) := ⟨h2_⟩
      have n3_ : Aside0 (Kd.V (Kd.int .u32) 48 w39 w.heap.size (fun k_ => (P0_ k_ ∨ w.heap.size ≤ k_) ∧ some k_ ≠ (v1368 : Value).ownBlock ∧ some k_ ≠ (v1374 : Value).ownBlock ∧ k_ ≠ gb1351 ∧ k_ ≠ gb1359 ∧ k_ ≠ gb1386) (.slice Ao22 t1364.length co22) t1364) := ⟨h3_⟩
      have n4_ : Aside0 (Kd.N (Kd.slice 48 (Kd.int .u32)) 42 w39 w.heap.size (fun k_ => (P0_ k_ ∨ w.heap.size ≤ k_) ∧ some k_ ≠ (v1374 : Value).ownBlock ∧ k_ ≠ gb1351 ∧ k_ ≠ gb1359 ∧ k_ ≠ gb1386) v1368 y1367) := ⟨h4_⟩
      have n5_ : Aside0 (Kd.V (Kd.int .u32) 48 w39 w.heap.size (fun k_ => (P0_ k_ ∨ w.heap.size ≤ k_) ∧ some k_ ≠ (v1368 : Value).ownBlock ∧ some k_ ≠ (v1374 : Value).ownBlock ∧ k_ ≠ gb1351 ∧ k_ ≠ gb1359 ∧ k_ ≠ gb1386) v1371 t1370) := ⟨h5_⟩
      have n6_ : Aside0 (Kd.N (Kd.slice 48 (Kd.int .u32)) 42 w39 w.heap.size (fun k_ => (P0_ k_ ∨ w.heap.size ≤ k_) ∧ some k_ ≠ (v1368 : Value).ownBlock ∧ k_ ≠ gb1351 ∧ k_ ≠ gb1359 ∧ k_ ≠ gb1386) v1374 y1373) := ⟨h6_⟩
      have n7_ : Aside0 (Kd.V (Kd.int .u32) 48 w39 w.heap.size (fun k_ => (P0_ k_ ∨ w.heap.size ≤ k_) ∧ some k_ ≠ (v1368 : Value).ownBlock ∧ some k_ ≠ (v1374 : Value).ownBlock ∧ k_ ≠ gb1351 ∧ k_ ≠ gb1359 ∧ k_ ≠ gb1386) v1377 t1376) := ⟨h7_⟩
      have n8_ : Aside0 (Kd.V (Kd.int .u32) 48 w39 w.heap.size (fun k_ => (P0_ k_ ∨ w.heap.size ≤ k_) ∧ some k_ ≠ (v1368 : Value).ownBlock ∧ some k_ ≠ (v1374 : Value).ownBlock ∧ k_ ≠ gb1351 ∧ k_ ≠ gb1359 ∧ k_ ≠ gb1386) v1381 t1380) := ⟨h8_⟩
      have n9_ : Aside0 (Kd.V (Kd.int .u32) 48 w39 w.heap.size (fun k_ => (P0_ k_ ∨ w.heap.size ≤ k_) ∧ some k_ ≠ (v1368 : Value).ownBlock ∧ some k_ ≠ (v1374 : Value).ownBlock ∧ k_ ≠ gb1351 ∧ k_ ≠ gb1359 ∧ k_ ≠ gb1386) v1384 t1383) := ⟨h9_⟩
      have n10_ : Aside0 (Kd.V k67 67 w39 w.heap.size (fun k_ => (P0_ k_ ∨ w.heap.size ≤ k_) ∧ some k_ ≠ (v1368 : Value).ownBlock ∧ some k_ ≠ (v1374 : Value).ownBlock ∧ k_ ≠ gb1351 ∧ k_ ≠ gb1359 ∧ k_ ≠ gb1386) (.slice (some ad1358) l0.length c0) l0) := ⟨h10_⟩
      have n11_ : Aside0 (Kd.V (Kd.int .u32) 48 w39 w.heap.size (fun k_ => (P0_ k_ ∨ w.heap.size ≤ k_) ∧ some k_ ≠ (v1368 : Value).ownBlock ∧ some k_ ≠ (v1374 : Value).ownBlock ∧ k_ ≠ gb1351 ∧ k_ ≠ gb1359 ∧ k_ ≠ gb1386) (.slice Ao25 x4_1.length co25) x4_1) := ⟨h11_⟩
      have n12_ : Aside0 (Kd.V (Kd.int .u32) 48 w39 w.heap.size (fun k_ => (P0_ k_ ∨ w.heap.size ≤ k_) ∧ some k_ ≠ (v1368 : Value).ownBlock ∧ some k_ ≠ (v1374 : Value).ownBlock ∧ k_ ≠ gb1351 ∧ k_ ≠ gb1359 ∧ k_ ≠ gb1386) (.slice AoX5 x5_1.length coX5) x5_1) := ⟨h12_⟩
      have n13_ : Aside0 (w39.heap[gb1351]? = some (.cells #[.bool false, .slice none 0 0, .slice none 0 0] 67 (0, 0))) := ⟨h13_⟩
      have n14_ : Aside0 (w39.heap[gb1359]? = some (.cells #[.bool t1360, .slice Ao21 t1361.length co21, .slice Ao22 t1364.length co22] 67 (0, 0))) := ⟨h14_⟩
      have n15_ : Aside0 (w39.heap[gb1386]? = some (.cells #[.bool false, .slice none 0 0, .slice none 0 0] 67 (0, 0))) := ⟨h15_⟩
      have n16_ : Aside0 (w.heap.size ≤ gb1386) := ⟨h16_⟩
      have n17_ : Aside0 (w.heap.size ≤ gb1386) := ⟨h17_⟩
      have n18_ : Aside0 (gb1351 ≠ gb1386) := ⟨h18_⟩
      have n19_ : Aside0 (gb1386 ≠ gb1351) := ⟨h19_⟩
      have n20_ : Aside0 (gb1359 ≠ gb1386) := ⟨h20_⟩
      have n21_ : Aside0 (gb1386 ≠ gb1359) := ⟨h21_⟩
      have n22_ : Aside0 (Below w.heap.size w w39) := ⟨h22_⟩
      clear HO_4 HO_5 HO_11 HL1358_1 HL1358_2 HO1363 HO1366 BK1351 BK1359 HB h0_ h1_ h2_ h3_ h4_ h5_ h6_ h7_ h8_ h9_ h10_ h11_ h12_ h13_ h14_ h15_ h16_ h17_ h18_ h19_ h20_ h21_ h22_
      have HL1358_1 := n0_
      have HL1358_2 := n1_
      have HO1363 := n2_
      have HO1366 := n3_
      have HO1369 := n4_
      have HO1372 := n5_
      have HO1375 := n6_
      have HO1378 := n7_
      have HO1382 := n8_
      have HO1385 := n9_
      have HO_11 := n10_
      have HO_4 := n11_
      have HO_5 := n12_
      have BK1351 := n13_
      have BK1359 := n14_
      have BK1386 := n15_
      have GW1386 := n16_
      have GE1386 := n17_
      have NB1351_1386 := n18_
      have NB1386_1351 := n19_
      have NB1359_1386 := n20_
      have NB1386_1359 := n21_
      have HB := n22_
      clear n0_ n1_ n2_ n3_ n4_ n5_ n6_ n7_ n8_ n9_ n10_ n11_ n12_ n13_ n14_ n15_ n16_ n17_ n18_ n19_ n20_ n21_ n22_
      have hHeld : w39.cell? ⟨gb1359, 0, none⟩ = some (.bool t1360) ∧ w39.cell? ⟨gb1359, 1, none⟩ = some (.slice Ao21 t1361.length co21) ∧ w39.cell? ⟨gb1359, 2, none⟩ = some (.slice Ao22 t1364.length co22) := hS_
      obtain ⟨Ao41, co41, eo41⟩ := Kd.V_slice HO1382.out
      (first | subst eo41 | (injection eo41 with f1_ f2_ f3_; have f4_ := f1_.symm; have f5_ := f3_.symm; clear f1_ f2_ f3_; subst f4_; subst f5_))
      obtain ⟨Ao43, co43, eo43⟩ := Kd.V_slice HO1385.out
      (first | subst eo43 | (injection eo43 with f1_ f2_ f3_; have f4_ := f1_.symm; have f5_ := f3_.symm; clear f1_ f2_ f3_; subst f4_; subst f5_))
      refine norm_ (a' := ?_) ?_ ?_
      rotate_left
      ·
       simp only [putAll, Act.put, List.setIfInBounds_toArray, List.set_cons_zero, List.set_cons_succ]
       rfl
      refine one_ (i := 16) (N := none) #[true, true, true, true, true, true, true, true, true, true, true, true, true, true, true, true, true] rfl rfl (one_of HT_.out (by kernel_rfl)) (by decide) (fun K hK => ?_)
      have hs40 : w39.cell? ⟨gb1386, 0, none⟩ = some (.bool false) := bc BK1386 0
      have hfs40 := blk_frozen BK1386.out 0
      have hns40_0 := NB1351_1386.out
      have hns40_1 := NB1359_1386.out
      have hms40_0 := NB1386_1351.out
      have hms40_1 := NB1386_1359.out
      have hs42 : w39.cell? ⟨gb1386, 1, none⟩ = some (.slice none 0 0) := bc BK1386 1
      have hfs42 := blk_frozen BK1386.out 1
      have hns42_0 := NB1351_1386.out
      have hns42_1 := NB1359_1386.out
      have hms42_0 := NB1386_1351.out
      have hms42_1 := NB1386_1359.out
      have hs44 : w39.cell? ⟨gb1386, 2, none⟩ = some (.slice none 0 0) := bc BK1386 2
      have hfs44 := blk_frozen BK1386.out 2
      have hns44_0 := NB1351_1386.out
      have hns44_1 := NB1359_1386.out
      have hms44_0 := NB1386_1351.out
      have hms44_1 := NB1386_1359.out
      refine skip_ (w1 := ?_) (by rfl) rfl ?_ ?_
      rotate_left
      ·
       go_simp
       rfl
      refine hK.out _ _ ⟨((cell_far (p := ⟨gb1386, _, none⟩) NB1359_1386.out _).trans (((cell_far (p := ⟨gb1386, _, none⟩) NB1359_1386.out _).trans (((cell_far (p := ⟨gb1386, _, none⟩) NB1359_1386.out _).trans (hHeld.1)))))), ((cell_far (p := ⟨gb1386, _, none⟩) NB1359_1386.out _).trans (((cell_far (p := ⟨gb1386, _, none⟩) NB1359_1386.out _).trans (((cell_far (p := ⟨gb1386, _, none⟩) NB1359_1386.out _).trans (hHeld.2.1)))))), ((cell_far (p := ⟨gb1386, _, none⟩) NB1359_1386.out _).trans (((cell_far (p := ⟨gb1386, _, none⟩) NB1359_1386.out _).trans (((cell_far (p := ⟨gb1386, _, none⟩) NB1359_1386.out _).trans (hHeld.2.2))))))⟩ (fun hHeld => ?_)
      clear hK K
      refine done_ (done_of HT_.out (by kernel_rfl)) ?_
      try go_wp2
      have n0_ : Aside0 (Kd.V (Kd.int .u32) 48 (((w39.setCell ⟨gb1386, 0, none⟩ (.bool t1379)).setCell ⟨gb1386, 1, none⟩ (.slice Ao41 t1380.length co41)).setCell ⟨gb1386, 2, none⟩ (.slice Ao43 t1383.length co43)) w.heap.size (fun k_ => (P0_ k_ ∨ w.heap.size ≤ k_) ∧ some k_ ≠ (v1368 : Value).ownBlock ∧ some k_ ≠ (v1374 : Value).ownBlock ∧ k_ ≠ gb1351 ∧ k_ ≠ gb1359 ∧ k_ ≠ gb1386) (.slice Ao25 x4_1.length co25) x4_1) := ⟨by exact vf HO_4.out⟩
      have n1_ : Aside0 (Kd.V (Kd.int .u32) 48 (((w39.setCell ⟨gb1386, 0, none⟩ (.bool t1379)).setCell ⟨gb1386, 1, none⟩ (.slice Ao41 t1380.length co41)).setCell ⟨gb1386, 2, none⟩ (.slice Ao43 t1383.length co43)) w.heap.size (fun k_ => (P0_ k_ ∨ w.heap.size ≤ k_) ∧ some k_ ≠ (v1368 : Value).ownBlock ∧ some k_ ≠ (v1374 : Value).ownBlock ∧ k_ ≠ gb1351 ∧ k_ ≠ gb1359 ∧ k_ ≠ gb1386) (.slice AoX5 x5_1.length coX5) x5_1) := ⟨by exact vf HO_5.out⟩
      have n2_ : Aside0 (Kd.V k67 67 (((w39.setCell ⟨gb1386, 0, none⟩ (.bool t1379)).setCell ⟨gb1386, 1, none⟩ (.slice Ao41 t1380.length co41)).setCell ⟨gb1386, 2, none⟩ (.slice Ao43 t1383.length co43)) w.heap.size (fun k_ => (P0_ k_ ∨ w.heap.size ≤ k_) ∧ some k_ ≠ (v1368 : Value).ownBlock ∧ some k_ ≠ (v1374 : Value).ownBlock ∧ k_ ≠ gb1351 ∧ k_ ≠ gb1359 ∧ k_ ≠ gb1386) (.slice (some ad1358) l0.length c0) l0) := ⟨by exact vf HO_11.out⟩
      have n3_ : Aside0 (Kd.V (Kd.int .u32) 48 (((w39.setCell ⟨gb1386, 0, none⟩ (.bool t1379)).setCell ⟨gb1386, 1, none⟩ (.slice Ao41 t1380.length co41)).setCell ⟨gb1386, 2, none⟩ (.slice Ao43 t1383.length co43)) w.heap.size (fun k_ => (P0_ k_ ∨ w.heap.size ≤ k_) ∧ some k_ ≠ (v1368 : Value).ownBlock ∧ some k_ ≠ (v1374 : Value).ownBlock ∧ k_ ≠ gb1351 ∧ k_ ≠ gb1359 ∧ k_ ≠ gb1386) (.slice A1358_1 ((rd_T67 l0 x13_1).f1).length c1358_1) ((rd_T67 l0 x13_1).f1)) := ⟨by exact vf HL1358_1.out⟩
      have n4_ : Aside0 (Kd.V (Kd.int .u32) 48 (((w39.setCell ⟨gb1386, 0, none⟩ (.bool t1379)).setCell ⟨gb1386, 1, none⟩ (.slice Ao41 t1380.length co41)).setCell ⟨gb1386, 2, none⟩ (.slice Ao43 t1383.length co43)) w.heap.size (fun k_ => (P0_ k_ ∨ w.heap.size ≤ k_) ∧ some k_ ≠ (v1368 : Value).ownBlock ∧ some k_ ≠ (v1374 : Value).ownBlock ∧ k_ ≠ gb1351 ∧ k_ ≠ gb1359 ∧ k_ ≠ gb1386) (.slice A1358_2 ((rd_T67 l0 x13_1).f2).length c1358_2) ((rd_T67 l0 x13_1).f2)) := ⟨by exact vf HL1358_2.out⟩
      have n5_ : Aside0 (Kd.V (Kd.int .u32) 48 (((w39.setCell ⟨gb1386, 0, none⟩ (.bool t1379)).setCell ⟨gb1386, 1, none⟩ (.slice Ao41 t1380.length co41)).setCell ⟨gb1386, 2, none⟩ (.slice Ao43 t1383.length co43)) w.heap.size (fun k_ => (P0_ k_ ∨ w.heap.size ≤ k_) ∧ some k_ ≠ (v1368 : Value).ownBlock ∧ some k_ ≠ (v1374 : Value).ownBlock ∧ k_ ≠ gb1351 ∧ k_ ≠ gb1359 ∧ k_ ≠ gb1386) (.slice Ao21 t1361.length co21) t1361) := ⟨by exact vf HO1363.out⟩
      have n6_ : Aside0 (Kd.V (Kd.int .u32) 48 (((w39.setCell ⟨gb1386, 0, none⟩ (.bool t1379)).setCell ⟨gb1386, 1, none⟩ (.slice Ao41 t1380.length co41)).setCell ⟨gb1386, 2, none⟩ (.slice Ao43 t1383.length co43)) w.heap.size (fun k_ => (P0_ k_ ∨ w.heap.size ≤ k_) ∧ some k_ ≠ (v1368 : Value).ownBlock ∧ some k_ ≠ (v1374 : Value).ownBlock ∧ k_ ≠ gb1351 ∧ k_ ≠ gb1359 ∧ k_ ≠ gb1386) (.slice Ao22 t1364.length co22) t1364) := ⟨by exact vf HO1366.out⟩
      have n7_ : Aside0 (Kd.N (Kd.slice 48 (Kd.int .u32)) 42 (((w39.setCell ⟨gb1386, 0, none⟩ (.bool t1379)).setCell ⟨gb1386, 1, none⟩ (.slice Ao41 t1380.length co41)).setCell ⟨gb1386, 2, none⟩ (.slice Ao43 t1383.length co43)) w.heap.size (fun k_ => (P0_ k_ ∨ w.heap.size ≤ k_) ∧ some k_ ≠ (v1374 : Value).ownBlock ∧ k_ ≠ gb1351 ∧ k_ ≠ gb1359 ∧ k_ ≠ gb1386) v1368 y1367) := ⟨by (with_reducible repeat (first | apply Kd.N_alloc | apply Kd.N_drewN | apply Kd.N_drew)); exact Kd.N_mono (Kd.N_far (p := ⟨gb1386, 2, none⟩) (Kd.N_far (p := ⟨gb1386, 1, none⟩) (Kd.N_far (p := ⟨gb1386, 0, none⟩) (Kd.N_mono HO1369.out (fun k_ hk => (⟨hk, hk.2.2.2.2⟩ : _ ∧ k_ ≠ gb1386))) (fun _ hk => hk.2) (.bool t1379)) (fun _ hk => hk.2) (.slice Ao41 t1380.length co41)) (fun _ hk => hk.2) (.slice Ao43 t1383.length co43)) (fun _ hk => ⟨hk.1.1, ⟨hk.1.2.1, ⟨hk.1.2.2.1, ⟨hk.1.2.2.2.1, hk.1.2.2.2.2⟩⟩⟩⟩)⟩
      have n8_ : Aside0 (Kd.V (Kd.int .u32) 48 (((w39.setCell ⟨gb1386, 0, none⟩ (.bool t1379)).setCell ⟨gb1386, 1, none⟩ (.slice Ao41 t1380.length co41)).setCell ⟨gb1386, 2, none⟩ (.slice Ao43 t1383.length co43)) w.heap.size (fun k_ => (P0_ k_ ∨ w.heap.size ≤ k_) ∧ some k_ ≠ (v1368 : Value).ownBlock ∧ some k_ ≠ (v1374 : Value).ownBlock ∧ k_ ≠ gb1351 ∧ k_ ≠ gb1359 ∧ k_ ≠ gb1386) v1371 t1370) := ⟨by exact vf HO1372.out⟩
      have n9_ : Aside0 (Kd.N (Kd.slice 48 (Kd.int .u32)) 42 (((w39.setCell ⟨gb1386, 0, none⟩ (.bool t1379)).setCell ⟨gb1386, 1, none⟩ (.slice Ao41 t1380.length co41)).setCell ⟨gb1386, 2, none⟩ (.slice Ao43 t1383.length co43)) w.heap.size (fun k_ => (P0_ k_ ∨ w.heap.size ≤ k_) ∧ some k_ ≠ (v1368 : Value).ownBlock ∧ k_ ≠ gb1351 ∧ k_ ≠ gb1359 ∧ k_ ≠ gb1386) v1374 y1373) := ⟨by (with_reducible repeat (first | apply Kd.N_alloc | apply Kd.N_drewN | apply Kd.N_drew)); exact Kd.N_mono (Kd.N_far (p := ⟨gb1386, 2, none⟩) (Kd.N_far (p := ⟨gb1386, 1, none⟩) (Kd.N_far (p := ⟨gb1386, 0, none⟩) (Kd.N_mono HO1375.out (fun k_ hk => (⟨hk, hk.2.2.2.2⟩ : _ ∧ k_ ≠ gb1386))) (fun _ hk => hk.2) (.bool t1379)) (fun _ hk => hk.2) (.slice Ao41 t1380.length co41)) (fun _ hk => hk.2) (.slice Ao43 t1383.length co43)) (fun _ hk => ⟨hk.1.1, ⟨hk.1.2.1, ⟨hk.1.2.2.1, ⟨hk.1.2.2.2.1, hk.1.2.2.2.2⟩⟩⟩⟩)⟩
      have n10_ : Aside0 (Kd.V (Kd.int .u32) 48 (((w39.setCell ⟨gb1386, 0, none⟩ (.bool t1379)).setCell ⟨gb1386, 1, none⟩ (.slice Ao41 t1380.length co41)).setCell ⟨gb1386, 2, none⟩ (.slice Ao43 t1383.length co43)) w.heap.size (fun k_ => (P0_ k_ ∨ w.heap.size ≤ k_) ∧ some k_ ≠ (v1368 : Value).ownBlock ∧ some k_ ≠ (v1374 : Value).ownBlock ∧ k_ ≠ gb1351 ∧ k_ ≠ gb1359 ∧ k_ ≠ gb1386) v1377 t1376) := ⟨by exact vf HO1378.out⟩
      have n11_ : Aside0 (Kd.V (Kd.int .u32) 48 (((w39.setCell ⟨gb1386, 0, none⟩ (.bool t1379)).setCell ⟨gb1386, 1, none⟩ (.slice Ao41 t1380.length co41)).setCell ⟨gb1386, 2, none⟩ (.slice Ao43 t1383.length co43)) w.heap.size (fun k_ => (P0_ k_ ∨ w.heap.size ≤ k_) ∧ some k_ ≠ (v1368 : Value).ownBlock ∧ some k_ ≠ (v1374 : Value).ownBlock ∧ k_ ≠ gb1351 ∧ k_ ≠ gb1359 ∧ k_ ≠ gb1386) (.slice Ao41 t1380.length co41) t1380) := ⟨by exact vf HO1382.out⟩
      have n12_ : Aside0 (Kd.V (Kd.int .u32) 48 (((w39.setCell ⟨gb1386, 0, none⟩ (.bool t1379)).setCell ⟨gb1386, 1, none⟩ (.slice Ao41 t1380.length co41)).setCell ⟨gb1386, 2, none⟩ (.slice Ao43 t1383.length co43)) w.heap.size (fun k_ => (P0_ k_ ∨ w.heap.size ≤ k_) ∧ some k_ ≠ (v1368 : Value).ownBlock ∧ some k_ ≠ (v1374 : Value).ownBlock ∧ k_ ≠ gb1351 ∧ k_ ≠ gb1359 ∧ k_ ≠ gb1386) (.slice Ao43 t1383.length co43) t1383) := ⟨by exact vf HO1385.out⟩
      have n13_ : Aside0 ((((w39.setCell ⟨gb1386, 0, none⟩ (.bool t1379)).setCell ⟨gb1386, 1, none⟩ (.slice Ao41 t1380.length co41)).setCell ⟨gb1386, 2, none⟩ (.slice Ao43 t1383.length co43)).heap[gb1351]? = some (.cells #[.bool false, .slice none 0 0, .slice none 0 0] 67 (0, 0))) := ⟨by (with_reducible repeat (first | refine blk_drewN ?_ _ | refine blk_drew ?_ | refine blk_alloc ?_ _)); refine blk_far ?_ NB1351_1386.out _; (with_reducible repeat (first | refine blk_drewN ?_ _ | refine blk_drew ?_ | refine blk_alloc ?_ _)); refine blk_far ?_ NB1351_1386.out _; (with_reducible repeat (first | refine blk_drewN ?_ _ | refine blk_drew ?_ | refine blk_alloc ?_ _)); refine blk_far ?_ NB1351_1386.out _; (with_reducible repeat (first | refine blk_drewN ?_ _ | refine blk_drew ?_ | refine blk_alloc ?_ _)); exact BK1351.out⟩
      have n14_ : Aside0 ((((w39.setCell ⟨gb1386, 0, none⟩ (.bool t1379)).setCell ⟨gb1386, 1, none⟩ (.slice Ao41 t1380.length co41)).setCell ⟨gb1386, 2, none⟩ (.slice Ao43 t1383.length co43)).heap[gb1359]? = some (.cells #[.bool t1360, .slice Ao21 t1361.length co21, .slice Ao22 t1364.length co22] 67 (0, 0))) := ⟨by (with_reducible repeat (first | refine blk_drewN ?_ _ | refine blk_drew ?_ | refine blk_alloc ?_ _)); refine blk_far ?_ NB1359_1386.out _; (with_reducible repeat (first | refine blk_drewN ?_ _ | refine blk_drew ?_ | refine blk_alloc ?_ _)); refine blk_far ?_ NB1359_1386.out _; (with_reducible repeat (first | refine blk_drewN ?_ _ | refine blk_drew ?_ | refine blk_alloc ?_ _)); refine blk_far ?_ NB1359_1386.out _; (with_reducible repeat (first | refine blk_drewN ?_ _ | refine blk_drew ?_ | refine blk_alloc ?_ _)); exact BK1359.out⟩
      have n15_ : Aside0 ((((w39.setCell ⟨gb1386, 0, none⟩ (.bool t1379)).setCell ⟨gb1386, 1, none⟩ (.slice Ao41 t1380.length co41)).setCell ⟨gb1386, 2, none⟩ (.slice Ao43 t1383.length co43)).heap[gb1386]? = some (.cells #[.bool t1379, .slice Ao41 t1380.length co41, .slice Ao43 t1383.length co43] 67 (0, 0))) := ⟨by (with_reducible repeat (first | refine blk_drewN ?_ _ | refine blk_drew ?_ | refine blk_alloc ?_ _)); refine blk_put (cs := #[.bool t1379, .slice Ao41 t1380.length co41, .slice none 0 0]) ?_ 2 _ rfl; (with_reducible repeat (first | refine blk_drewN ?_ _ | refine blk_drew ?_ | refine blk_alloc ?_ _)); refine blk_put (cs := #[.bool t1379, .slice none 0 0, .slice none 0 0]) ?_ 1 _ rfl; (with_reducible repeat (first | refine blk_drewN ?_ _ | refine blk_drew ?_ | refine blk_alloc ?_ _)); refine blk_put (cs := #[.bool false, .slice none 0 0, .slice none 0 0]) ?_ 0 _ rfl; (with_reducible repeat (first | refine blk_drewN ?_ _ | refine blk_drew ?_ | refine blk_alloc ?_ _)); exact BK1386.out⟩
      have n16_ : Aside0 (Below w.heap.size w (((w39.setCell ⟨gb1386, 0, none⟩ (.bool t1379)).setCell ⟨gb1386, 1, none⟩ (.slice Ao41 t1380.length co41)).setCell ⟨gb1386, 2, none⟩ (.slice Ao43 t1383.length co43))) := ⟨by repeat (first | (with_reducible first | exact HB.out | apply below_alloc | apply pw_below_drewN | apply below_drew1 | refine below_set ?_ GE1351.out | refine below_set ?_ GE1359.out | refine below_set ?_ GE1386.out) | exact HB.out)⟩
      (try clear HO_4)
      (try clear HO_5)
      (try clear HO_11)
      (try clear HL1358_1)
      (try clear HL1358_2)
      (try clear HO1363)
      (try clear HO1366)
      (try clear HO1369)
      (try clear HO1372)
      (try clear HO1375)
      (try clear HO1378)
      (try clear HO1382)
      (try clear HO1385)
      (try clear BK1351)
      (try clear BK1359)
      (try clear BK1386)
      (try clear HB)
      generalize (((w39.setCell ⟨gb1386, 0, none⟩ (.bool t1379)).setCell ⟨gb1386, 1, none⟩ (.slice Ao41 t1380.length co41)).setCell ⟨gb1386, 2, none⟩ (.slice Ao43 t1383.length co43)) = w45 at n0_ n1_ n2_ n3_ n4_ n5_ n6_ n7_ n8_ n9_ n10_ n11_ n12_ n13_ n14_ n15_ n16_ ⊢
      have HO_4 := n0_
      have HO_5 := n1_
      have HO_11 := n2_
      have HL1358_1 := n3_
      have HL1358_2 := n4_
      have HO1363 := n5_
      have HO1366 := n6_
      have HO1369 := n7_
      have HO1372 := n8_
      have HO1375 := n9_
      have HO1378 := n10_
      have HO1382 := n11_
      have HO1385 := n12_
      have BK1351 := n13_
      have BK1359 := n14_
      have BK1386 := n15_
      have HB := n16_
      clear n0_ n1_ n2_ n3_ n4_ n5_ n6_ n7_ n8_ n9_ n10_ n11_ n12_ n13_ n14_ n15_ n16_
      replace HO_4 := Aside0.mk (Kd.V_drew HO_4.out)
      replace HO_5 := Aside0.mk (Kd.V_drew HO_5.out)
      replace HO_11 := Aside0.mk (Kd.V_drew HO_11.out)
      replace HL1358_1 := Aside0.mk (Kd.V_drew HL1358_1.out)
      replace HL1358_2 := Aside0.mk (Kd.V_drew HL1358_2.out)
      replace HO1363 := Aside0.mk (Kd.V_drew HO1363.out)
      replace HO1366 := Aside0.mk (Kd.V_drew HO1366.out)
      replace HO1369 := Aside0.mk (Kd.N_drew HO1369.out)
      replace HO1372 := Aside0.mk (Kd.V_drew HO1372.out)
      replace HO1375 := Aside0.mk (Kd.N_drew HO1375.out)
      replace HO1378 := Aside0.mk (Kd.V_drew HO1378.out)
      replace HO1382 := Aside0.mk (Kd.V_drew HO1382.out)
      replace HO1385 := Aside0.mk (Kd.V_drew HO1385.out)
      replace BK1351 := Aside0.mk (blk_drew BK1351.out)
      replace BK1359 := Aside0.mk (blk_drew BK1359.out)
      replace BK1386 := Aside0.mk (blk_drew BK1386.out)
      replace HB := Aside0.mk (below_drew1 HB.out)
      refine start_ (n := 9) (S := fun w' => w'.cell? ⟨gb1386, 0, none⟩ = some (.bool t1379) ∧ w'.cell? ⟨gb1386, 1, none⟩ = some (.slice Ao41 t1380.length co41) ∧ w'.cell? ⟨gb1386, 2, none⟩ = some (.slice Ao43 t1383.length co43)) (ds := []) #[false, false, false, false, false, false, false, false, false] (by kernel_rfl) rfl rfl ⟨bc BK1386 0, bc BK1386 1, bc BK1386 2⟩ (fun hHeld => ?_); refine with_tabW rational_Mul.tab7 rational_Mul.bits7 (fun HT_ HW_ => ?_)
      generalize w45.drew = w46 at HO_4 HO_5 HO_11 HL1358_1 HL1358_2 HO1363 HO1366 HO1369 HO1372 HO1375 HO1378 HO1382 HO1385 BK1351 BK1359 BK1386 HB hHeld ⊢
      refine pq 0 (some 34) #[true, false, false, false, false, false, false, false, false] HT_ ?_
      refine pq 2 (some 36) #[true, false, true, false, false, false, false, false, false] HT_ ?_
      refine pq 4 (some 38) #[true, false, true, false, true, false, false, false, false] HT_ ?_
      refine tq 1 (some 35) #[true, true, true, false, true, false, false, false, false] HT_ HW_ hHeld ?_
      refine pq 6 (some 3) #[true, true, true, false, true, false, true, false, false] HT_ ?_
      refine tq 3 (some 37) #[true, true, true, true, true, false, true, false, false] HT_ HW_ hHeld ?_
      refine pq 7 (some 4) #[true, true, true, true, true, false, true, true, false] HT_ ?_
      refine tq 5 (some 39) #[true, true, true, true, true, true, true, true, false] HT_ HW_ hHeld ?_
      refine pq 8 (some 5) #[true, true, true, true, true, true, true, true, true] HT_ ?_
      refine done_ (done_of HT_.out (by kernel_rfl)) ?_
      try go_wp2
      go_roundg k1
      case measure => have := HK1.out; omega
      case rel => exact ⟨(t1379), (t1380), (t1383), (wrap64 (x13_1 + 1)), (by first | rfl | (simp; done) | (simp [*]; done)), (by first | rfl | (simp; done) | (simp [*]; done)), H', ⟨by have := HK1.out; omega⟩, ⟨by exact vz HO1382.out⟩, ⟨by exact vz HO1385.out⟩, ⟨by exact vz HO_11.out⟩, ⟨by (with_reducible repeat (first | refine blk_drewN ?_ _ | refine blk_drew ?_ | refine blk_alloc ?_ _)); exact BK1351.out⟩, ⟨by repeat (first | (with_reducible first | exact HB.out | apply below_alloc | apply pw_below_drewN | apply below_drew1 | refine below_set ?_ GE1351.out | refine below_set ?_ GE1359.out | refine below_set ?_ GE1386.out) | exact HB.out)⟩⟩
     ·
      rw [if_neg c9] at H
      exact absurd H (by simp)
    ·
     rw [if_neg c8] at H
     exact absurd H (by simp)
   ·
    rw [if_neg c7] at H
    have c7b0 : decide (x13_1 < (l0.length : Int)) = false := decide_eq_false c7
    clear c7
    simp only [Option.some.injEq, Prod.mk.injEq] at H
    obtain ⟨rfl, rfl, rfl⟩ := H
    obtain ⟨Ao47, co47, eo47⟩ := Kd.V_slice HO_5.out
    subst eo47
    obtain ⟨Ao48, co48, eo48⟩ := Kd.V_slice HO_4.out
    subst eo48
    have hcz49_0 : wr.cell? ⟨gb1351, 0, none⟩ = some (.bool false) := bc BK1351 0
    have hcz49_1 : wr.cell? ⟨gb1351, 1, none⟩ = some (.slice none 0 0) := bc BK1351 1
    have hcz49_2 : wr.cell? ⟨gb1351, 2, none⟩ = some (.slice none 0 0) := bc BK1351 2
    have hfz49_0 := blk_frozen BK1351.out 0
    have hfz49_1 := blk_frozen BK1351.out 1
    have hfz49_2 := blk_frozen BK1351.out 2
    go_wp2
    refine bodyPost_ret (results_cell_row rfl _ _ gb1351 67 #[.bool x3_1, .slice Ao48 x4_1.length co48, .slice Ao47 x5_1.length co47] (0, 0) _ rfl (by (with_reducible repeat (first | refine blk_drewN ?_ _ | refine blk_drew ?_ | refine blk_alloc ?_ _)); refine blk_put (cs := #[.bool x3_1, .slice Ao48 x4_1.length co48, .slice none 0 0]) ?_ 2 _ rfl; (with_reducible repeat (first | refine blk_drewN ?_ _ | refine blk_drew ?_ | refine blk_alloc ?_ _)); refine blk_put (cs := #[.bool x3_1, .slice none 0 0, .slice none 0 0]) ?_ 1 _ rfl; (with_reducible repeat (first | refine blk_drewN ?_ _ | refine blk_drew ?_ | refine blk_alloc ?_ _)); refine blk_put (cs := #[.bool false, .slice none 0 0, .slice none 0 0]) ?_ 0 _ rfl; (with_reducible repeat (first | refine blk_drewN ?_ _ | refine blk_drew ?_ | refine blk_alloc ?_ _)); exact BK1351.out) Try.underlying67 rfl (by kernel_rfl)) rfl ?_
    exact ⟨_, _, by first | rfl | (simp [errW_none, errW_some] <;> rfl) | (simp [*, errW_none, errW_some] <;> rfl), by exact vf HO_4.out, by exact vf HO_5.out, by repeat (first | (with_reducible first | exact HB.out | apply below_alloc | apply pw_below_drewN | apply below_drew1 | refine below_set ?_ GE1351.out) | exact HB.out)⟩
end Go.Proofs.Ytecfdemglbfnoaa.PT
end
