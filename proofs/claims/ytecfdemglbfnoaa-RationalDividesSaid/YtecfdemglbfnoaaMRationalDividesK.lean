/- Walks and plain facts for the law RationalDivides, several texts in one: each theorem says what it shows; no condition beyond those that it names. -/
import Derived.Test.YtecfdemglbfnoaaMRationalDividesJ
section
namespace Go.Proofs.Ytecfdemglbfnoaa.PT
open Go.RowKit Go.Proofs.YtecfdemglbfnoaaW.PrintWords Go.Proofs.YtecfdemglbfnoaaW.PrintLast Go.Proofs.YtecfdemglbfnoaaW.PrintMore
attribute [local go_sem] max2_int min2_int max_two min_two max_three min_three max_four min_four   -- for this text's walks alone
set_option linter.unusedVariables false
set_option linter.unusedSimpArgs false
def rational_Div.f (k : Nat) (a0_0 : Bool) (l0_1 : List Int) (l0_2 : List Int) (a1_0 : Bool) (l1_1 : List Int) (l1_2 : List Int) : Option (Bool × List Int × List Int × Int) := (rational_Sign.f k a1_0 l1_1 l1_2).bind fun t1390 => (if t1390 = 0 then (some (false, ([] : List Int), ([] : List Int), 7)) else ((rational_Mul.f k (([(⟨a0_0, l0_1, l0_2⟩ : S67), (⟨a1_0, l1_2, l1_1⟩ : S67)] : List (S67)))).bind fun bt1394 => (some (bt1394.1, bt1394.2.1, bt1394.2.2, 0))))
set_option maxHeartbeats 8000000 in
set_option maxRecDepth 100000 in
theorem rational_Div.calls (k : Nat) (a0_0 : Bool) (P0_1_ : Nat → Prop) (A0_1 : Option Addr) (c0_1 : Nat) (l0_1 : List Int) (P0_2_ : Nat → Prop) (A0_2 : Option Addr) (c0_2 : Nat) (l0_2 : List Int) (a1_0 : Bool) (P1_1_ : Nat → Prop) (A1_1 : Option Addr) (c1_1 : Nat) (l1_1 : List Int) (P1_2_ : Nat → Prop) (A1_2 : Option Addr) (c1_2 : Nat) (l1_2 : List Int) (r1 : Bool) (r2 : List Int) (r3 : List Int) (r4 : Int) (w : World) (hs0_1 : Kd.V (Kd.int .u32) 48 w w.heap.size (fun k_ => P0_1_ k_) (.slice A0_1 l0_1.length c0_1) l0_1) (hs0_2 : Kd.V (Kd.int .u32) 48 w w.heap.size (fun k_ => P0_2_ k_) (.slice A0_2 l0_2.length c0_2) l0_2) (hs1_1 : Kd.V (Kd.int .u32) 48 w w.heap.size (fun k_ => P1_1_ k_) (.slice A1_1 l1_1.length c1_1) l1_1) (hs1_2 : Kd.V (Kd.int .u32) 48 w w.heap.size (fun k_ => P1_2_ k_) (.slice A1_2 l1_2.length c1_2) l1_2) (h : rational_Div.f k a0_0 l0_1 l0_2 a1_0 l1_1 l1_2 = some (r1, r2, r3, r4)) :
 Calls Try.prog 94 #[.agg #[.bool a0_0, .slice A0_1 l0_1.length c0_1, .slice A0_2 l0_2.length c0_2], .agg #[.bool a1_0, .slice A1_1 l1_1.length c1_1, .slice A1_2 l1_2.length c1_2]] w fun e w' => ∃ v1_ v2_ : Value, e = .returned (.tuple #[.agg #[.bool r1, v1_, v2_], .int .i64 r4]) ∧ Kd.V (Kd.int .u32) 48 w' w.heap.size (fun k_ => ((P0_1_ k_ ∨ P0_2_ k_ ∨ P1_1_ k_ ∨ P1_2_ k_) ∨ w.heap.size ≤ k_)) v1_ r2 ∧ Kd.V (Kd.int .u32) 48 w' w.heap.size (fun k_ => ((P0_1_ k_ ∨ P0_2_ k_ ∨ P1_1_ k_ ∨ P1_2_ k_) ∨ w.heap.size ≤ k_)) v2_ r3 ∧ Below w.heap.size w w' := by
 have hu67 := Try.underlying67
 have HO0_1 := Aside0.mk (show Kd.V (Kd.int .u32) 48 w w.heap.size (fun k_ => ((P0_1_ k_ ∨ P0_2_ k_ ∨ P1_1_ k_ ∨ P1_2_ k_) ∨ w.heap.size ≤ k_)) (.slice A0_1 l0_1.length c0_1) l0_1 from Kd.V_mono hs0_1 (fun k_ hk => .inl (.inl hk)))
 have HO0_2 := Aside0.mk (show Kd.V (Kd.int .u32) 48 w w.heap.size (fun k_ => ((P0_1_ k_ ∨ P0_2_ k_ ∨ P1_1_ k_ ∨ P1_2_ k_) ∨ w.heap.size ≤ k_)) (.slice A0_2 l0_2.length c0_2) l0_2 from Kd.V_mono hs0_2 (fun k_ hk => .inl (.inr (.inl hk))))
 have HO1_1 := Aside0.mk (show Kd.V (Kd.int .u32) 48 w w.heap.size (fun k_ => ((P0_1_ k_ ∨ P0_2_ k_ ∨ P1_1_ k_ ∨ P1_2_ k_) ∨ w.heap.size ≤ k_)) (.slice A1_1 l1_1.length c1_1) l1_1 from Kd.V_mono hs1_1 (fun k_ hk => .inl (.inr (.inr (.inl hk)))))
 have HO1_2 := Aside0.mk (show Kd.V (Kd.int .u32) 48 w w.heap.size (fun k_ => ((P0_1_ k_ ∨ P0_2_ k_ ∨ P1_1_ k_ ∨ P1_2_ k_) ∨ w.heap.size ≤ k_)) (.slice A1_2 l1_2.length c1_2) l1_2 from Kd.V_mono hs1_2 (fun k_ hk => .inl (.inr (.inr (.inr hk)))))
 have HB := Aside0.mk (Below.refl w.heap.size w)
 have H : ((rational_Sign.f k a1_0 l1_1 l1_2).bind fun t1390 => (if t1390 = 0 then (some (false, ([] : List Int), ([] : List Int), 7)) else ((rational_Mul.f k (([(⟨a0_0, l0_1, l0_2⟩ : S67), (⟨a1_0, l1_2, l1_1⟩ : S67)] : List (S67)))).bind fun bt1394 => (some (bt1394.1, bt1394.2.1, bt1394.2.2, 0))))) = some (r1, r2, r3, r4) := h
 clear h
 replace H := Option.bind_eq_some_iff.mp H
 obtain ⟨t1390, A30, H⟩ := H
 replace H : (if t1390 = 0 then (some (false, ([] : List Int), ([] : List Int), 7)) else ((rational_Mul.f k (([(⟨a0_0, l0_1, l0_2⟩ : S67), (⟨a1_0, l1_2, l1_1⟩ : S67)] : List (S67)))).bind fun bt1394 => (some (bt1394.1, bt1394.2.1, bt1394.2.2, 0)))) = some (r1, r2, r3, r4) := H
 have A3 := Aside0.mk A30
 clear A30
 by_cases c4 : t1390 = 0
 ·
  rw [if_pos c4] at H
  have c4b0 : (t1390 == 0) = true := beq_iff_eq.mpr c4
  have c4b1 : (t1390 != 0) = false := bne_eq_false_iff_eq.mpr c4
  clear c4
  simp only [Option.some.injEq, Prod.mk.injEq] at H
  obtain ⟨rfl, rfl, rfl, rfl⟩ := H
  go_enter Try.func94, Try.ntmps94
  go_wp2_with (first | ((with_reducible refine gate_dst (N := 2) rfl ?_); refine box_event ?hg (N := 2) ?hd (cs := #[.bool a0_0, .slice A0_1 l0_1.length c0_1, .slice A0_2 l0_2.length c0_2]) (t := 67) ?hr ?_; (case hd => rfl); (case hg => rfl); (case hr => first | (go_simp; done) | (go_simp; rfl)); intro gb1387 hg w5 hbox hb; replace HO0_1 := ke HO0_1 hg hb; replace HO0_2 := ke HO0_2 hg hb; replace HO1_1 := ke HO1_1 hg hb; replace HO1_2 := ke HO1_2 hg hb; have BK1387 := Aside0.mk (hbox); have GW1387 := ng hg (bu HB.out); have GE1387 := ng hg (bu HB.out); replace HB := Aside0.mk (below_step (bu HB.out) hb); clear hb hbox hg) | ((with_reducible refine gate_dst (N := 3) rfl ?_); refine box_event ?hg (N := 3) ?hd (cs := #[.bool a1_0, .slice A1_1 l1_1.length c1_1, .slice A1_2 l1_2.length c1_2]) (t := 67) ?hr ?_; (case hd => rfl); (case hg => rfl); (case hr => first | (go_simp; done) | (go_simp; rfl)); intro gb1388 hg w6 hbox hb; replace HO0_1 := ke HO0_1 hg hb; replace HO0_2 := ke HO0_2 hg hb; replace HO1_1 := ke HO1_1 hg hb; replace HO1_2 := ke HO1_2 hg hb; have BK1388 := Aside0.mk (hbox); have GW1388 := ng hg (bu1 HB.out GE1387.out); have GE1388 := ng hg (bu1 HB.out GE1387.out); replace HB := Aside0.mk (below_step (bu1 HB.out GE1387.out) hb); have NB1387_1388 := nl hg BK1387; have NB1388_1387 := nr hg BK1387; replace BK1387 := kb BK1387 hb; clear hb hbox hg) | ((with_reducible refine gate_dst (N := 4) rfl ?_); refine box_event ?hg (N := 4) ?hd (cs := #[.bool false, .slice none 0 0, .slice none 0 0]) (t := 67) ?hr ?_; (case hd => rfl); (case hg => rfl); (case hr => first | (go_simp; done) | (go_simp; rfl)); intro gb1389 hg w7 hbox hb; replace HO0_1 := ke HO0_1 hg hb; replace HO0_2 := ke HO0_2 hg hb; replace HO1_1 := ke HO1_1 hg hb; replace HO1_2 := ke HO1_2 hg hb; have BK1389 := Aside0.mk (hbox); have GW1389 := ng hg (bu2 HB.out GE1387.out GE1388.out); have GE1389 := ng hg (bu2 HB.out GE1387.out GE1388.out); replace HB := Aside0.mk (below_step (bu2 HB.out GE1387.out GE1388.out) hb); have NB1387_1389 := nl hg BK1387; have NB1389_1387 := nr hg BK1387; replace BK1387 := kb BK1387 hb; have NB1388_1389 := nl hg BK1388; have NB1389_1388 := nr hg BK1388; replace BK1388 := kb BK1388 hb; clear hb hbox hg; have hnb8 := NB1388_1387.out; have hnc8 := NB1387_1388.out; have hnb9 := NB1388_1389.out; have hnc9 := NB1389_1388.out; have hcz10_0 : w7.cell? ⟨gb1388, 0, none⟩ = some (.bool a1_0) := bc BK1388 0; have hcz10_1 : w7.cell? ⟨gb1388, 1, none⟩ = some (.slice A1_1 l1_1.length c1_1) := bc BK1388 1; have hcz10_2 : w7.cell? ⟨gb1388, 2, none⟩ = some (.slice A1_2 l1_2.length c1_2) := bc BK1388 2; have hfz10_0 := blk_frozen BK1388.out 0; have hfz10_1 := blk_frozen BK1388.out 1; have hfz10_2 := blk_frozen BK1388.out 2) | ((with_reducible refine gate_callee (f := 91) rfl ?_); refine goesL_ (some 7) rfl rfl Try.func91 (by kernel_rfl) rfl #[.agg #[.bool a1_0, .slice A1_1 l1_1.length c1_1, .slice A1_2 l1_2.length c1_2]] rfl lu ?_; (with_reducible refine (rational_Sign.calls k a1_0 _ _ l1_1 _ _ l1_2 t1390 _ ?side1 ?side2 ?side3 ?side4 A3.out).mono ?_); (case side1 => exact cu (Kd.V_reads' HO1_1.out).2.2); (case side2 => exact (Kd.V_reads' HO1_1.out).2.1); (case side3 => exact cu (Kd.V_reads' HO1_2.out).2.2); (case side4 => exact (Kd.V_reads' HO1_2.out).2.1); rintro e w11 ⟨rfl, hb⟩; refine ⟨_, rfl, ?_⟩; replace HO0_1 := kv HO0_1 hb; replace HO0_2 := kv HO0_2 hb; replace HO1_1 := kv HO1_1 hb; replace HO1_2 := kv HO1_2 hb; replace BK1387 := kb BK1387 hb; replace BK1388 := kb BK1388 hb; replace BK1389 := kb BK1389 hb; replace HB := Aside0.mk (below_step (bu3 HB.out GE1387.out GE1388.out GE1389.out) hb); (try clear hb); (try clear hb2); (try clear hk); (try clear hi); have hnb12 := NB1389_1387.out; have hnc12 := NB1387_1389.out; have hcz13_0 : w11.cell? ⟨gb1389, 0, none⟩ = some (.bool false) := bc BK1389 0; have hcz13_1 : w11.cell? ⟨gb1389, 1, none⟩ = some (.slice none 0 0) := bc BK1389 1; have hcz13_2 : w11.cell? ⟨gb1389, 2, none⟩ = some (.slice none 0 0) := bc BK1389 2; have hfz13_0 := blk_frozen BK1389.out 0; have hfz13_1 := blk_frozen BK1389.out 1; have hfz13_2 := blk_frozen BK1389.out 2))
  refine bodyPost_ret (results_ct rfl _ _ gb1389 67 #[.bool false, .slice none 0 0, .slice none 0 0] (0, 0) _ rfl (by (with_reducible repeat (first | refine blk_drewN ?_ _ | refine blk_drew ?_ | refine blk_alloc ?_ _)); refine blk_put (cs := #[.bool false, .slice none 0 0, .slice none 0 0]) ?_ 2 _ rfl; (with_reducible repeat (first | refine blk_drewN ?_ _ | refine blk_drew ?_ | refine blk_alloc ?_ _)); refine blk_put (cs := #[.bool false, .slice none 0 0, .slice none 0 0]) ?_ 1 _ rfl; (with_reducible repeat (first | refine blk_drewN ?_ _ | refine blk_drew ?_ | refine blk_alloc ?_ _)); refine blk_put (cs := #[.bool false, .slice none 0 0, .slice none 0 0]) ?_ 0 _ rfl; (with_reducible repeat (first | refine blk_drewN ?_ _ | refine blk_drew ?_ | refine blk_alloc ?_ _)); exact BK1389.out) Try.underlying67 rfl (by kernel_rfl)) rfl ?_
  exact ⟨_, _, by first | rfl | (simp [errW_none, errW_some] <;> rfl) | (simp [*, errW_none, errW_some] <;> rfl), Kd.V_nil _ _ _ _ _, Kd.V_nil _ _ _ _ _, by repeat (first | (with_reducible first | exact HB.out | apply below_alloc | apply pw_below_drewN | apply below_drew1 | refine below_set ?_ GE1387.out | refine below_set ?_ GE1388.out | refine below_set ?_ GE1389.out) | exact HB.out)⟩
 ·
  rw [if_neg c4] at H
  have c4b0 : (t1390 == 0) = false := beq_eq_false_iff_ne.mpr c4
  have c4b1 : (t1390 != 0) = true := bne_iff_ne.mpr c4
  obtain ⟨y1391, hy1391⟩ : ∃ y_ : List (S67), y_ = (([(⟨a0_0, l0_1, l0_2⟩ : S67), (⟨a1_0, l1_2, l1_1⟩ : S67)] : List (S67))) := ⟨_, rfl⟩
  replace H : ((rational_Mul.f k y1391).bind fun bt1394 => (some (bt1394.1, bt1394.2.1, bt1394.2.2, 0))) = some (r1, r2, r3, r4) := by first | (rw [hy1391]; with_reducible exact H) | (have H2_ := (Option.bind_some _ _).symm.trans H; rw [hy1391]; with_reducible exact H2_) | (have H2_ := (Option.bind_some _ _).symm.trans H; with_reducible exact H2_) | with_reducible exact H | (rw [hy1391]; exact H) | exact H
  have Ny1391 := Aside0.mk hy1391
  clear hy1391
  replace H := Option.bind_eq_some_iff.mp H
  obtain ⟨⟨t1394, t1395, t1398⟩, A140, H⟩ := H
  replace H : (some (t1394, t1395, t1398, 0)) = some (r1, r2, r3, r4) := H
  have A14 := Aside0.mk A140
  clear A140
  simp only [Option.some.injEq, Prod.mk.injEq] at H
  obtain ⟨rfl, rfl, rfl, rfl⟩ := H
  go_enter Try.func94, Try.ntmps94
  go_wp2_with (first | ((with_reducible refine gate_dst (N := 2) rfl ?_); refine box_event ?hg (N := 2) ?hd (cs := #[.bool a0_0, .slice A0_1 l0_1.length c0_1, .slice A0_2 l0_2.length c0_2]) (t := 67) ?hr ?_; (case hd => rfl); (case hg => rfl); (case hr => first | (go_simp; done) | (go_simp; rfl)); intro gb1387 hg w15 hbox hb; replace HO0_1 := ke HO0_1 hg hb; replace HO0_2 := ke HO0_2 hg hb; replace HO1_1 := ke HO1_1 hg hb; replace HO1_2 := ke HO1_2 hg hb; have BK1387 := Aside0.mk (hbox); have GW1387 := ng hg (bu HB.out); have GE1387 := ng hg (bu HB.out); replace HB := Aside0.mk (below_step (bu HB.out) hb); clear hb hbox hg) | ((with_reducible refine gate_dst (N := 3) rfl ?_); refine box_event ?hg (N := 3) ?hd (cs := #[.bool a1_0, .slice A1_1 l1_1.length c1_1, .slice A1_2 l1_2.length c1_2]) (t := 67) ?hr ?_; (case hd => rfl); (case hg => rfl); (case hr => first | (go_simp; done) | (go_simp; rfl)); intro gb1388 hg w16 hbox hb; replace HO0_1 := ke HO0_1 hg hb; replace HO0_2 := ke HO0_2 hg hb; replace HO1_1 := ke HO1_1 hg hb; replace HO1_2 := ke HO1_2 hg hb; have BK1388 := Aside0.mk (hbox); have GW1388 := ng hg (bu1 HB.out GE1387.out); have GE1388 := ng hg (bu1 HB.out GE1387.out); replace HB := Aside0.mk (below_step (bu1 HB.out GE1387.out) hb); have NB1387_1388 := nl hg BK1387; have NB1388_1387 := nr hg BK1387; replace BK1387 := kb BK1387 hb; clear hb hbox hg) | ((with_reducible refine gate_dst (N := 4) rfl ?_); refine box_event ?hg (N := 4) ?hd (cs := #[.bool false, .slice none 0 0, .slice none 0 0]) (t := 67) ?hr ?_; (case hd => rfl); (case hg => rfl); (case hr => first | (go_simp; done) | (go_simp; rfl)); intro gb1389 hg w17 hbox hb; replace HO0_1 := ke HO0_1 hg hb; replace HO0_2 := ke HO0_2 hg hb; replace HO1_1 := ke HO1_1 hg hb; replace HO1_2 := ke HO1_2 hg hb; have BK1389 := Aside0.mk (hbox); have GW1389 := ng hg (bu2 HB.out GE1387.out GE1388.out); have GE1389 := ng hg (bu2 HB.out GE1387.out GE1388.out); replace HB := Aside0.mk (below_step (bu2 HB.out GE1387.out GE1388.out) hb); have NB1387_1389 := nl hg BK1387; have NB1389_1387 := nr hg BK1387; replace BK1387 := kb BK1387 hb; have NB1388_1389 := nl hg BK1388; have NB1389_1388 := nr hg BK1388; replace BK1388 := kb BK1388 hb; clear hb hbox hg; have hnb18 := NB1388_1387.out; have hnc18 := NB1387_1388.out; have hnb19 := NB1388_1389.out; have hnc19 := NB1389_1388.out; have hcz20_0 : w17.cell? ⟨gb1388, 0, none⟩ = some (.bool a1_0) := bc BK1388 0; have hcz20_1 : w17.cell? ⟨gb1388, 1, none⟩ = some (.slice A1_1 l1_1.length c1_1) := bc BK1388 1; have hcz20_2 : w17.cell? ⟨gb1388, 2, none⟩ = some (.slice A1_2 l1_2.length c1_2) := bc BK1388 2; have hfz20_0 := blk_frozen BK1388.out 0; have hfz20_1 := blk_frozen BK1388.out 1; have hfz20_2 := blk_frozen BK1388.out 2) | ((with_reducible refine gate_callee (f := 91) rfl ?_); refine goesL_ (some 7) rfl rfl Try.func91 (by kernel_rfl) rfl #[.agg #[.bool a1_0, .slice A1_1 l1_1.length c1_1, .slice A1_2 l1_2.length c1_2]] rfl lu ?_; (with_reducible refine (rational_Sign.calls k a1_0 _ _ l1_1 _ _ l1_2 t1390 _ ?side1 ?side2 ?side3 ?side4 A3.out).mono ?_); (case side1 => exact cu (Kd.V_reads' HO1_1.out).2.2); (case side2 => exact (Kd.V_reads' HO1_1.out).2.1); (case side3 => exact cu (Kd.V_reads' HO1_2.out).2.2); (case side4 => exact (Kd.V_reads' HO1_2.out).2.1); rintro e w21 ⟨rfl, hb⟩; refine ⟨_, rfl, ?_⟩; replace HO0_1 := kv HO0_1 hb; replace HO0_2 := kv HO0_2 hb; replace HO1_1 := kv HO1_1 hb; replace HO1_2 := kv HO1_2 hb; replace BK1387 := kb BK1387 hb; replace BK1388 := kb BK1388 hb; replace BK1389 := kb BK1389 hb; replace HB := Aside0.mk (below_step (bu3 HB.out GE1387.out GE1388.out GE1389.out) hb); (try clear hb); (try clear hb2); (try clear hk); (try clear hi); have hnb22 := NB1387_1389.out; have hnc22 := NB1389_1387.out; have hcz23_0 : w21.cell? ⟨gb1387, 0, none⟩ = some (.bool a0_0) := bc BK1387 0; have hcz23_1 : w21.cell? ⟨gb1387, 1, none⟩ = some (.slice A0_1 l0_1.length c0_1) := bc BK1387 1; have hcz23_2 : w21.cell? ⟨gb1387, 2, none⟩ = some (.slice A0_2 l0_2.length c0_2) := bc BK1387 2; have hfz23_0 := blk_frozen BK1387.out 0; have hfz23_1 := blk_frozen BK1387.out 1; have hfz23_2 := blk_frozen BK1387.out 2; have hcz24_0 : w21.cell? ⟨gb1388, 0, none⟩ = some (.bool a1_0) := bc BK1388 0; have hcz24_1 : w21.cell? ⟨gb1388, 1, none⟩ = some (.slice A1_1 l1_1.length c1_1) := bc BK1388 1; have hcz24_2 : w21.cell? ⟨gb1388, 2, none⟩ = some (.slice A1_2 l1_2.length c1_2) := bc BK1388 2; have hfz24_0 := blk_frozen BK1388.out 0; have hfz24_1 := blk_frozen BK1388.out 1; have hfz24_2 := blk_frozen BK1388.out 2) | ((with_reducible refine gate_dst (N := 18) rfl ?_); refine Kd.N_lit k67 _ 67 ?hg (N' := 18) ?hd (xs := ([(⟨a0_0, l0_1, l0_2⟩ : S67), (⟨a1_0, l1_2, l1_1⟩ : S67)] : List (S67))) (inner := [.bool a0_0, .slice A0_1 l0_1.length c0_1, .slice A0_2 l0_2.length c0_2, .bool a1_0, .slice A1_2 l1_2.length c1_2, .slice A1_1 l1_1.length c1_1]) (ok := (fun k_ => ((P0_1_ k_ ∨ P0_2_ k_ ∨ P1_1_ k_ ∨ P1_2_ k_) ∨ w.heap.size ≤ k_) ∧ k_ ≠ gb1387 ∧ k_ ≠ gb1388 ∧ k_ ≠ gb1389)) (okp := (fun k_ => ((P0_1_ k_ ∨ P0_2_ k_ ∨ P1_1_ k_ ∨ P1_2_ k_) ∨ w.heap.size ≤ k_) ∧ k_ ≠ gb1387 ∧ k_ ≠ gb1388 ∧ k_ ≠ gb1389)) ?hr ?hp (fun _ hk => hk) ((show ∀ k_, w21.heap.size ≤ k_ → (fun k_ => ((P0_1_ k_ ∨ P0_2_ k_ ∨ P1_1_ k_ ∨ P1_2_ k_) ∨ w.heap.size ≤ k_) ∧ k_ ≠ gb1387 ∧ k_ ≠ gb1388 ∧ k_ ≠ gb1389) k_ from fun k_ hk => ⟨(.inr (Nat.le_trans (below_size (bu3 HB.out GE1387.out GE1388.out GE1389.out)) hk)), Kd.freshB (g := gb1387) (o := .cells #[.bool a0_0, .slice A0_1 l0_1.length c0_1, .slice A0_2 l0_2.length c0_2] 67 (0, 0)) (ku BK1387.out) k_ hk, Kd.freshB (g := gb1388) (o := .cells #[.bool a1_0, .slice A1_1 l1_1.length c1_1, .slice A1_2 l1_2.length c1_2] 67 (0, 0)) (ku BK1388.out) k_ hk, Kd.freshB (g := gb1389) (o := .cells #[.bool false, .slice none 0 0, .slice none 0 0] 67 (0, 0)) (ku BK1389.out) k_ hk⟩) _ (Nat.le_refl _)) (Below.refl _ _) (Nat.le_refl _) (by simp) ?_; (case hd => rfl); (case hg => rfl); (case hr => first | (go_simp; done) | (go_simp; rfl)); (case hp => exact (Reps.c3 (show Kd.FK k67 _ _ (⟨a0_0, l0_1, l0_2⟩ : S67) [.bool a0_0, .slice A0_1 l0_1.length c0_1, .slice A0_2 l0_2.length c0_2] from (k67_mkF _ _ (⟨a0_0, l0_1, l0_2⟩ : S67) (Kd.V_reads' (vy ((fun k_ => ((P0_1_ k_ ∨ P0_2_ k_ ∨ P1_1_ k_ ∨ P1_2_ k_) ∨ w.heap.size ≤ k_) ∧ k_ ≠ gb1387 ∧ k_ ≠ gb1388 ∧ k_ ≠ gb1389)) HO0_1.out)).2.1 (Kd.V_F (vy ((fun k_ => ((P0_1_ k_ ∨ P0_2_ k_ ∨ P1_1_ k_ ∨ P1_2_ k_) ∨ w.heap.size ≤ k_) ∧ k_ ≠ gb1387 ∧ k_ ≠ gb1388 ∧ k_ ≠ gb1389)) HO0_1.out)) (Kd.V_reads' (vy ((fun k_ => ((P0_1_ k_ ∨ P0_2_ k_ ∨ P1_1_ k_ ∨ P1_2_ k_) ∨ w.heap.size ≤ k_) ∧ k_ ≠ gb1387 ∧ k_ ≠ gb1388 ∧ k_ ≠ gb1389)) HO0_2.out)).2.1 (Kd.V_F (vy ((fun k_ => ((P0_1_ k_ ∨ P0_2_ k_ ∨ P1_1_ k_ ∨ P1_2_ k_) ∨ w.heap.size ≤ k_) ∧ k_ ≠ gb1387 ∧ k_ ≠ gb1388 ∧ k_ ≠ gb1389)) HO0_2.out)))) (Reps.c3 (show Kd.FK k67 _ _ (⟨a1_0, l1_2, l1_1⟩ : S67) [.bool a1_0, .slice A1_2 l1_2.length c1_2, .slice A1_1 l1_1.length c1_1] from (k67_mkF _ _ (⟨a1_0, l1_2, l1_1⟩ : S67) (Kd.V_reads' (vy ((fun k_ => ((P0_1_ k_ ∨ P0_2_ k_ ∨ P1_1_ k_ ∨ P1_2_ k_) ∨ w.heap.size ≤ k_) ∧ k_ ≠ gb1387 ∧ k_ ≠ gb1388 ∧ k_ ≠ gb1389)) HO1_2.out)).2.1 (Kd.V_F (vy ((fun k_ => ((P0_1_ k_ ∨ P0_2_ k_ ∨ P1_1_ k_ ∨ P1_2_ k_) ∨ w.heap.size ≤ k_) ∧ k_ ≠ gb1387 ∧ k_ ≠ gb1388 ∧ k_ ≠ gb1389)) HO1_2.out)) (Kd.V_reads' (vy ((fun k_ => ((P0_1_ k_ ∨ P0_2_ k_ ∨ P1_1_ k_ ∨ P1_2_ k_) ∨ w.heap.size ≤ k_) ∧ k_ ≠ gb1387 ∧ k_ ≠ gb1388 ∧ k_ ≠ gb1389)) HO1_1.out)).2.1 (Kd.V_F (vy ((fun k_ => ((P0_1_ k_ ∨ P0_2_ k_ ∨ P1_1_ k_ ∨ P1_2_ k_) ∨ w.heap.size ≤ k_) ∧ k_ ≠ gb1387 ∧ k_ ≠ gb1388 ∧ k_ ≠ gb1389)) HO1_1.out)))) (Reps.none _ _)))); intro v1392 w25 ho26 hb hg_ hnew_; clear hg_ hnew_; (first | rw [← Ny1391.out] at ho26 | (simp only [Int.reduceToNat] at ho26; rw [← Ny1391.out] at ho26)); replace HO0_1 := Aside0.mk (Kd.V_elder' (vu HO0_1.out) (Kd.N_base ho26) hb); replace HO0_2 := Aside0.mk (Kd.V_elder' (vu HO0_2.out) (Kd.N_base ho26) hb); replace HO1_1 := Aside0.mk (Kd.V_elder' (vu HO1_1.out) (Kd.N_base ho26) hb); replace HO1_2 := Aside0.mk (Kd.V_elder' (vu HO1_2.out) (Kd.N_base ho26) hb); have HO1393 := Aside0.mk (Kd.N_lower ho26 (below_size (bu3 HB.out GE1387.out GE1388.out GE1389.out))); replace BK1387 := kb BK1387 hb; replace BK1388 := kb BK1388 hb; replace BK1389 := kb BK1389 hb; replace HB := Aside0.mk (below_step (bu3 HB.out GE1387.out GE1388.out GE1389.out) hb); clear hb ho26; obtain ⟨Ao27, co27, eo27⟩ := Kd.N_slice HO1393.out; subst eo27) | ((with_reducible refine gate_callee (f := 95) rfl ?_); refine goesL_ (some 19) rfl rfl Try.func95 (by kernel_rfl) rfl #[.slice Ao27 y1391.length co27] rfl lu ?_; (with_reducible refine (rational_Mul.calls k (fun k_ => (((P0_1_ k_ ∨ P0_2_ k_ ∨ P1_1_ k_ ∨ P1_2_ k_) ∨ w.heap.size ≤ k_) ∧ (k_ ≠ gb1387 ∧ (k_ ≠ gb1388 ∧ k_ ≠ gb1389)))) _ _ y1391 t1394 t1395 t1398 _ ?side1 A14.out).mono ?_); (case side1 => exact Kd.N_V (HO1393.out)); rintro e w28 ⟨v1396, v1399, rfl, ho0, ho1, hb⟩; refine ⟨_, rfl, ?_⟩; replace HO0_1 := kv HO0_1 hb; replace HO0_2 := kv HO0_2 hb; replace HO1_1 := kv HO1_1 hb; replace HO1_2 := kv HO1_2 hb; replace HO1393 := Aside0.mk (Kd.N_below (nu HO1393.out) hb); have HO1397 := ar w.heap.size (ok' := fun k_ => ((P0_1_ k_ ∨ P0_2_ k_ ∨ P1_1_ k_ ∨ P1_2_ k_) ∨ w.heap.size ≤ k_) ∧ k_ ≠ gb1387 ∧ k_ ≠ gb1388 ∧ k_ ≠ gb1389) ho0 (fa (f0 (below_size (bu3 HB.out GE1387.out GE1388.out GE1389.out))) (fa (fb BK1387) (fa (fb BK1388) (fb BK1389)))); have HO1400 := ar w.heap.size (ok' := fun k_ => ((P0_1_ k_ ∨ P0_2_ k_ ∨ P1_1_ k_ ∨ P1_2_ k_) ∨ w.heap.size ≤ k_) ∧ k_ ≠ gb1387 ∧ k_ ≠ gb1388 ∧ k_ ≠ gb1389) ho1 (fa (f0 (below_size (bu3 HB.out GE1387.out GE1388.out GE1389.out))) (fa (fb BK1387) (fa (fb BK1388) (fb BK1389)))); replace BK1387 := kb BK1387 hb; replace BK1388 := kb BK1388 hb; replace BK1389 := kb BK1389 hb; replace HB := Aside0.mk (below_step (bu3 HB.out GE1387.out GE1388.out GE1389.out) hb); (try clear hb); (try clear hb2); (try clear hk); (try clear hi); (try clear ho0); (try clear ho1); have hcz29_0 : w28.cell? ⟨gb1389, 0, none⟩ = some (.bool false) := bc BK1389 0; have hcz29_1 : w28.cell? ⟨gb1389, 1, none⟩ = some (.slice none 0 0) := bc BK1389 1; have hcz29_2 : w28.cell? ⟨gb1389, 2, none⟩ = some (.slice none 0 0) := bc BK1389 2; have hfz29_0 := blk_frozen BK1389.out 0; have hfz29_1 := blk_frozen BK1389.out 1; have hfz29_2 := blk_frozen BK1389.out 2; obtain ⟨Ao30, co30, eo30⟩ := Kd.V_slice HO1397.out; subst eo30; obtain ⟨Ao31, co31, eo31⟩ := Kd.V_slice HO1400.out; subst eo31))
  refine bodyPost_ret (results_ct rfl _ _ gb1389 67 #[.bool t1394, .slice Ao30 t1395.length co30, .slice Ao31 t1398.length co31] (0, 0) _ rfl (by (with_reducible repeat (first | refine blk_drewN ?_ _ | refine blk_drew ?_ | refine blk_alloc ?_ _)); refine blk_put (cs := #[.bool t1394, .slice Ao30 t1395.length co30, .slice none 0 0]) ?_ 2 _ rfl; (with_reducible repeat (first | refine blk_drewN ?_ _ | refine blk_drew ?_ | refine blk_alloc ?_ _)); refine blk_put (cs := #[.bool t1394, .slice none 0 0, .slice none 0 0]) ?_ 1 _ rfl; (with_reducible repeat (first | refine blk_drewN ?_ _ | refine blk_drew ?_ | refine blk_alloc ?_ _)); refine blk_put (cs := #[.bool false, .slice none 0 0, .slice none 0 0]) ?_ 0 _ rfl; (with_reducible repeat (first | refine blk_drewN ?_ _ | refine blk_drew ?_ | refine blk_alloc ?_ _)); exact BK1389.out) Try.underlying67 rfl (by kernel_rfl)) rfl ?_
  exact ⟨_, _, by first | rfl | (simp [errW_none, errW_some] <;> rfl) | (simp [*, errW_none, errW_some] <;> rfl), by exact vf HO1397.out, by exact vf HO1400.out, by repeat (first | (with_reducible first | exact HB.out | apply below_alloc | apply pw_below_drewN | apply below_drew1 | refine below_set ?_ GE1387.out | refine below_set ?_ GE1388.out | refine below_set ?_ GE1389.out) | exact HB.out)⟩
end Go.Proofs.Ytecfdemglbfnoaa.PT
end
section
namespace Go.Proofs.Ytecfdemglbfnoaa.PT
open Go.RowKit Go.Proofs.YtecfdemglbfnoaaW.PrintWords Go.Proofs.YtecfdemglbfnoaaW.PrintLast Go.Proofs.YtecfdemglbfnoaaW.PrintMore
attribute [local go_sem] max2_int min2_int max_two min_two max_three min_three max_four min_four   -- for this text's walks alone
set_option linter.unusedVariables false
set_option linter.unusedSimpArgs false
def codewrightlaw02_RationalDivides.f (k : Nat) (a0_0 : Bool) (l0_1 : List Int) (l0_2 : List Int) (a1_0 : Bool) (l1_1 : List Int) (l1_2 : List Int) : Option (Bool) := (codewrightlaw02_long.f k 16 (([(⟨a0_0, l0_1, l0_2⟩ : S67), (⟨a1_0, l1_1, l1_2⟩ : S67)] : List (S67)))).bind fun t1406 => (if t1406 = true then (some true) else ((rational_Div.f k a0_0 l0_1 l0_2 a1_0 l1_1 l1_2).bind fun bt1407 => ((rational_Sign.f k a1_0 l1_1 l1_2).bind fun t1416 => (if t1416 = 0 then (if bt1407.2.2.2 = 7 then ((codewrightref02_Nil.f bt1407.1 bt1407.2.1 bt1407.2.2.1).bind fun t1417 => (some t1417)) else (none)) else ((rational_Mul.f k (([(⟨a0_0, l0_1, l0_2⟩ : S67), (⟨a1_0, l1_1, l1_2⟩ : S67)] : List (S67)))).bind fun bt1421 => ((rational_Div.f k bt1421.1 bt1421.2.1 bt1421.2.2 a1_0 l1_1 l1_2).bind fun bt1428 => (if bt1407.2.2.2 = 0 then (if bt1428.2.2.2 = 0 then ((rational_Is.f k bt1407.1 bt1407.2.1 bt1407.2.2.1).bind fun t1437 => (if t1437 = true then ((rational_Mul.f k (([(⟨bt1407.1, bt1407.2.1, bt1407.2.2.1⟩ : S67), (⟨a1_0, l1_1, l1_2⟩ : S67)] : List (S67)))).bind fun bt1441 => ((rational_Trim.f k a0_0 l0_1 l0_2).bind fun bt1448 => ((codewrightlaw02_same.f k bt1441.1 bt1441.2.1 bt1441.2.2 bt1448.1 bt1448.2.1 bt1448.2.2).bind fun t1455 => (if t1455 = true then ((rational_Trim.f k a0_0 l0_1 l0_2).bind fun bt1456 => ((codewrightlaw02_same.f k bt1428.1 bt1428.2.1 bt1428.2.2.1 bt1456.1 bt1456.2.1 bt1456.2.2).bind fun t1463 => (some t1463))) else (none))))) else (none))) else (none)) else (none))))))))
def codewrightlaw02_RationalDivides.T6 : Bool × List (List Nat × List Nat) := (true, [([], []), ([], []), ([0, 1], [0, 1]), ([2], [2]), ([], []), ([3, 4, 3], [3, 4]), ([5], [5]), ([6], [6]), ([6], [6]), ([], []), ([9, 7, 5, 0, 1, 2, 3, 4, 5, 6, 7, 9], [7, 9]), ([8, 10, 0, 1, 2, 3, 4, 5, 6, 7, 8, 9, 10], [8])])
def codewrightlaw02_RationalDivides.B6 : List Nat := [0, 0, 3, 7, 0, 31, 63, 127, 127, 0, 767, 2047]
theorem codewrightlaw02_RationalDivides.tab6 : rtab .any (opsOf Try.f13 6) = codewrightlaw02_RationalDivides.T6 := by kernel_rfl
theorem codewrightlaw02_RationalDivides.bits6 : waitsOk codewrightlaw02_RationalDivides.T6.2 codewrightlaw02_RationalDivides.B6 = true := by kernel_rfl
def codewrightlaw02_RationalDivides.T7 : Bool × List (List Nat × List Nat) := (true, [([], []), ([0], [0]), ([1], [1]), ([2], [2]), ([3, 2], [2, 3]), ([2, 4], [2, 4]), ([5, 2], [5]), ([6], [6]), ([7, 6, 6], [6, 7]), ([6, 8], [6, 8]), ([9, 8], [9]), ([10], [10]), ([10], [10]), ([11, 12, 10], [10, 11, 12]), ([13, 10, 10], [10, 13]), ([10], [10]), ([15, 14, 10], [10, 15]), ([14, 16, 16, 10], [10, 14, 16]), ([10, 17], [10, 17]), ([18, 17], [18]), ([19], [19]), ([19], [19]), ([21, 19, 19], [19, 21]), ([20, 22, 22, 19], [19, 20, 22]), ([19, 23], [19, 23]), ([24, 23, 0, 1, 2, 3, 4, 5, 6, 7, 8, 9, 10, 11, 12, 13, 14, 15, 16, 17, 18, 19, 20, 21, 22, 23, 24], [24])])
def codewrightlaw02_RationalDivides.B7 : List Nat := [0, 1, 3, 7, 15, 31, 63, 127, 255, 511, 1023, 2047, 2047, 8191, 16383, 2047, 65535, 131071, 262143, 524287, 1048575, 1048575, 3145727, 8388607, 16777215, 33554431]
theorem codewrightlaw02_RationalDivides.tab7 : rtab .any (opsOf Try.f13 7) = codewrightlaw02_RationalDivides.T7 := by kernel_rfl
theorem codewrightlaw02_RationalDivides.bits7 : waitsOk codewrightlaw02_RationalDivides.T7.2 codewrightlaw02_RationalDivides.B7 = true := by kernel_rfl
set_option maxHeartbeats 8000000 in
set_option maxRecDepth 100000 in
theorem codewrightlaw02_RationalDivides.calls (k : Nat) (a0_0 : Bool) (P0_1_ : Nat → Prop) (A0_1 : Option Addr) (c0_1 : Nat) (l0_1 : List Int) (P0_2_ : Nat → Prop) (A0_2 : Option Addr) (c0_2 : Nat) (l0_2 : List Int) (a1_0 : Bool) (P1_1_ : Nat → Prop) (A1_1 : Option Addr) (c1_1 : Nat) (l1_1 : List Int) (P1_2_ : Nat → Prop) (A1_2 : Option Addr) (c1_2 : Nat) (l1_2 : List Int) (r : Bool) (w : World) (hs0_1 : Kd.V (Kd.int .u32) 48 w w.heap.size (fun k_ => P0_1_ k_) (.slice A0_1 l0_1.length c0_1) l0_1) (hs0_2 : Kd.V (Kd.int .u32) 48 w w.heap.size (fun k_ => P0_2_ k_) (.slice A0_2 l0_2.length c0_2) l0_2) (hs1_1 : Kd.V (Kd.int .u32) 48 w w.heap.size (fun k_ => P1_1_ k_) (.slice A1_1 l1_1.length c1_1) l1_1) (hs1_2 : Kd.V (Kd.int .u32) 48 w w.heap.size (fun k_ => P1_2_ k_) (.slice A1_2 l1_2.length c1_2) l1_2) (h : codewrightlaw02_RationalDivides.f k a0_0 l0_1 l0_2 a1_0 l1_1 l1_2 = some r) :
 Calls Try.prog 13 #[.agg #[.bool a0_0, .slice A0_1 l0_1.length c0_1, .slice A0_2 l0_2.length c0_2], .agg #[.bool a1_0, .slice A1_1 l1_1.length c1_1, .slice A1_2 l1_2.length c1_2]] w fun e w' => e = .returned (.bool r) ∧ Below w.heap.size w w' := by
 have hu67 := Try.underlying67
 have HO0_1 := Aside0.mk (show Kd.V (Kd.int .u32) 48 w w.heap.size (fun k_ => ((P0_1_ k_ ∨ P0_2_ k_ ∨ P1_1_ k_ ∨ P1_2_ k_) ∨ w.heap.size ≤ k_)) (.slice A0_1 l0_1.length c0_1) l0_1 from Kd.V_mono hs0_1 (fun k_ hk => .inl (.inl hk)))
 have HO0_2 := Aside0.mk (show Kd.V (Kd.int .u32) 48 w w.heap.size (fun k_ => ((P0_1_ k_ ∨ P0_2_ k_ ∨ P1_1_ k_ ∨ P1_2_ k_) ∨ w.heap.size ≤ k_)) (.slice A0_2 l0_2.length c0_2) l0_2 from Kd.V_mono hs0_2 (fun k_ hk => .inl (.inr (.inl hk))))
 have HO1_1 := Aside0.mk (show Kd.V (Kd.int .u32) 48 w w.heap.size (fun k_ => ((P0_1_ k_ ∨ P0_2_ k_ ∨ P1_1_ k_ ∨ P1_2_ k_) ∨ w.heap.size ≤ k_)) (.slice A1_1 l1_1.length c1_1) l1_1 from Kd.V_mono hs1_1 (fun k_ hk => .inl (.inr (.inr (.inl hk)))))
 have HO1_2 := Aside0.mk (show Kd.V (Kd.int .u32) 48 w w.heap.size (fun k_ => ((P0_1_ k_ ∨ P0_2_ k_ ∨ P1_1_ k_ ∨ P1_2_ k_) ∨ w.heap.size ≤ k_)) (.slice A1_2 l1_2.length c1_2) l1_2 from Kd.V_mono hs1_2 (fun k_ hk => .inl (.inr (.inr (.inr hk)))))
 have HB := Aside0.mk (Below.refl w.heap.size w)
 have H : ((codewrightlaw02_long.f k 16 (([(⟨a0_0, l0_1, l0_2⟩ : S67), (⟨a1_0, l1_1, l1_2⟩ : S67)] : List (S67)))).bind fun t1406 => (if t1406 = true then (some true) else ((rational_Div.f k a0_0 l0_1 l0_2 a1_0 l1_1 l1_2).bind fun bt1407 => ((rational_Sign.f k a1_0 l1_1 l1_2).bind fun t1416 => (if t1416 = 0 then (if bt1407.2.2.2 = 7 then ((codewrightref02_Nil.f bt1407.1 bt1407.2.1 bt1407.2.2.1).bind fun t1417 => (some t1417)) else (none)) else ((rational_Mul.f k (([(⟨a0_0, l0_1, l0_2⟩ : S67), (⟨a1_0, l1_1, l1_2⟩ : S67)] : List (S67)))).bind fun bt1421 => ((rational_Div.f k bt1421.1 bt1421.2.1 bt1421.2.2 a1_0 l1_1 l1_2).bind fun bt1428 => (if bt1407.2.2.2 = 0 then (if bt1428.2.2.2 = 0 then ((rational_Is.f k bt1407.1 bt1407.2.1 bt1407.2.2.1).bind fun t1437 => (if t1437 = true then ((rational_Mul.f k (([(⟨bt1407.1, bt1407.2.1, bt1407.2.2.1⟩ : S67), (⟨a1_0, l1_1, l1_2⟩ : S67)] : List (S67)))).bind fun bt1441 => ((rational_Trim.f k a0_0 l0_1 l0_2).bind fun bt1448 => ((codewrightlaw02_same.f k bt1441.1 bt1441.2.1 bt1441.2.2 bt1448.1 bt1448.2.1 bt1448.2.2).bind fun t1455 => (if t1455 = true then ((rational_Trim.f k a0_0 l0_1 l0_2).bind fun bt1456 => ((codewrightlaw02_same.f k bt1428.1 bt1428.2.1 bt1428.2.2.1 bt1456.1 bt1456.2.1 bt1456.2.2).bind fun t1463 => (some t1463))) else (none))))) else (none))) else (none)) else (none))))))))) = some r := h
 clear h
 obtain ⟨y1403, hy1403⟩ : ∃ y_ : List (S67), y_ = (([(⟨a0_0, l0_1, l0_2⟩ : S67), (⟨a1_0, l1_1, l1_2⟩ : S67)] : List (S67))) := ⟨_, rfl⟩
 replace H : ((codewrightlaw02_long.f k 16 y1403).bind fun t1406 => (if t1406 = true then (some true) else ((rational_Div.f k a0_0 l0_1 l0_2 a1_0 l1_1 l1_2).bind fun bt1407 => ((rational_Sign.f k a1_0 l1_1 l1_2).bind fun t1416 => (if t1416 = 0 then (if bt1407.2.2.2 = 7 then ((codewrightref02_Nil.f bt1407.1 bt1407.2.1 bt1407.2.2.1).bind fun t1417 => (some t1417)) else (none)) else ((rational_Mul.f k (([(⟨a0_0, l0_1, l0_2⟩ : S67), (⟨a1_0, l1_1, l1_2⟩ : S67)] : List (S67)))).bind fun bt1421 => ((rational_Div.f k bt1421.1 bt1421.2.1 bt1421.2.2 a1_0 l1_1 l1_2).bind fun bt1428 => (if bt1407.2.2.2 = 0 then (if bt1428.2.2.2 = 0 then ((rational_Is.f k bt1407.1 bt1407.2.1 bt1407.2.2.1).bind fun t1437 => (if t1437 = true then ((rational_Mul.f k (([(⟨bt1407.1, bt1407.2.1, bt1407.2.2.1⟩ : S67), (⟨a1_0, l1_1, l1_2⟩ : S67)] : List (S67)))).bind fun bt1441 => ((rational_Trim.f k a0_0 l0_1 l0_2).bind fun bt1448 => ((codewrightlaw02_same.f k bt1441.1 bt1441.2.1 bt1441.2.2 bt1448.1 bt1448.2.1 bt1448.2.2).bind fun t1455 => (if t1455 = true then ((rational_Trim.f k a0_0 l0_1 l0_2).bind fun bt1456 => ((codewrightlaw02_same.f k bt1428.1 bt1428.2.1 bt1428.2.2.1 bt1456.1 bt1456.2.1 bt1456.2.2).bind fun t1463 => (some t1463))) else (none))))) else (none))) else (none)) else (none))))))))) = some r := by first | (rw [hy1403]; with_reducible exact H) | (have H2_ := (Option.bind_some _ _).symm.trans H; rw [hy1403]; with_reducible exact H2_) | (have H2_ := (Option.bind_some _ _).symm.trans H; with_reducible exact H2_) | with_reducible exact H | (rw [hy1403]; exact H) | exact H
 have Ny1403 := Aside0.mk hy1403
 clear hy1403
 replace H := Option.bind_eq_some_iff.mp H
 obtain ⟨t1406, A30, H⟩ := H
 replace H : (if t1406 = true then (some true) else ((rational_Div.f k a0_0 l0_1 l0_2 a1_0 l1_1 l1_2).bind fun bt1407 => ((rational_Sign.f k a1_0 l1_1 l1_2).bind fun t1416 => (if t1416 = 0 then (if bt1407.2.2.2 = 7 then ((codewrightref02_Nil.f bt1407.1 bt1407.2.1 bt1407.2.2.1).bind fun t1417 => (some t1417)) else (none)) else ((rational_Mul.f k (([(⟨a0_0, l0_1, l0_2⟩ : S67), (⟨a1_0, l1_1, l1_2⟩ : S67)] : List (S67)))).bind fun bt1421 => ((rational_Div.f k bt1421.1 bt1421.2.1 bt1421.2.2 a1_0 l1_1 l1_2).bind fun bt1428 => (if bt1407.2.2.2 = 0 then (if bt1428.2.2.2 = 0 then ((rational_Is.f k bt1407.1 bt1407.2.1 bt1407.2.2.1).bind fun t1437 => (if t1437 = true then ((rational_Mul.f k (([(⟨bt1407.1, bt1407.2.1, bt1407.2.2.1⟩ : S67), (⟨a1_0, l1_1, l1_2⟩ : S67)] : List (S67)))).bind fun bt1441 => ((rational_Trim.f k a0_0 l0_1 l0_2).bind fun bt1448 => ((codewrightlaw02_same.f k bt1441.1 bt1441.2.1 bt1441.2.2 bt1448.1 bt1448.2.1 bt1448.2.2).bind fun t1455 => (if t1455 = true then ((rational_Trim.f k a0_0 l0_1 l0_2).bind fun bt1456 => ((codewrightlaw02_same.f k bt1428.1 bt1428.2.1 bt1428.2.2.1 bt1456.1 bt1456.2.1 bt1456.2.2).bind fun t1463 => (some t1463))) else (none))))) else (none))) else (none)) else (none)))))))) = some r := H
 have A3 := Aside0.mk A30
 clear A30
 by_cases c4 : t1406 = true
 ·
  subst c4
  have H1 : (some true) = some r := by rw [if_pos rfl] at H; exact H
  clear H
  have H := H1
  clear H1
  obtain rfl := Option.some.inj H
  go_enter Try.func13, Try.ntmps13
  go_wp2_with (first | ((with_reducible refine gate_dst (N := 2) rfl ?_); (try (refine gate_guard (by rfl) ?_; dsimp only)); refine box_event ?hg (N := 2) ?hd (cs := #[.bool a0_0, .slice A0_1 l0_1.length c0_1, .slice A0_2 l0_2.length c0_2]) (t := 67) ?hr ?_; (case hd => rfl); (case hg => rfl); (case hr => first | (go_simp; done) | (go_simp; rfl)); intro gb1401 hg w5 hbox hb; replace HO0_1 := ke HO0_1 hg hb; replace HO0_2 := ke HO0_2 hg hb; replace HO1_1 := ke HO1_1 hg hb; replace HO1_2 := ke HO1_2 hg hb; have BK1401 := Aside0.mk (hbox); have GW1401 := ng hg (bu HB.out); have GE1401 := ng hg (bu HB.out); replace HB := Aside0.mk (below_step (bu HB.out) hb); clear hb hbox hg) | ((with_reducible refine gate_dst (N := 3) rfl ?_); (try (refine gate_guard (by rfl) ?_; dsimp only)); refine box_event ?hg (N := 3) ?hd (cs := #[.bool a1_0, .slice A1_1 l1_1.length c1_1, .slice A1_2 l1_2.length c1_2]) (t := 67) ?hr ?_; (case hd => rfl); (case hg => rfl); (case hr => first | (go_simp; done) | (go_simp; rfl)); intro gb1402 hg w6 hbox hb; replace HO0_1 := ke HO0_1 hg hb; replace HO0_2 := ke HO0_2 hg hb; replace HO1_1 := ke HO1_1 hg hb; replace HO1_2 := ke HO1_2 hg hb; have BK1402 := Aside0.mk (hbox); have GW1402 := ng hg (bu1 HB.out GE1401.out); have GE1402 := ng hg (bu1 HB.out GE1401.out); replace HB := Aside0.mk (below_step (bu1 HB.out GE1401.out) hb); have NB1401_1402 := nl hg BK1401; have NB1402_1401 := nr hg BK1401; replace BK1401 := kb BK1401 hb; clear hb hbox hg; have hnb7 := NB1401_1402.out; have hnc7 := NB1402_1401.out; have hcz8_0 : w6.cell? ⟨gb1401, 0, none⟩ = some (.bool a0_0) := bc BK1401 0; have hcz8_1 : w6.cell? ⟨gb1401, 1, none⟩ = some (.slice A0_1 l0_1.length c0_1) := bc BK1401 1; have hcz8_2 : w6.cell? ⟨gb1401, 2, none⟩ = some (.slice A0_2 l0_2.length c0_2) := bc BK1401 2; have hfz8_0 := blk_frozen BK1401.out 0; have hfz8_1 := blk_frozen BK1401.out 1; have hfz8_2 := blk_frozen BK1401.out 2; have hcz9_0 : w6.cell? ⟨gb1402, 0, none⟩ = some (.bool a1_0) := bc BK1402 0; have hcz9_1 : w6.cell? ⟨gb1402, 1, none⟩ = some (.slice A1_1 l1_1.length c1_1) := bc BK1402 1; have hcz9_2 : w6.cell? ⟨gb1402, 2, none⟩ = some (.slice A1_2 l1_2.length c1_2) := bc BK1402 2; have hfz9_0 := blk_frozen BK1402.out 0; have hfz9_1 := blk_frozen BK1402.out 1; have hfz9_2 := blk_frozen BK1402.out 2) | ((with_reducible refine gate_dst (N := 11) rfl ?_); (try (refine gate_guard (by rfl) ?_; dsimp only)); refine Kd.N_lit k67 _ 67 ?hg (N' := 11) ?hd (xs := ([(⟨a0_0, l0_1, l0_2⟩ : S67), (⟨a1_0, l1_1, l1_2⟩ : S67)] : List (S67))) (inner := [.bool a0_0, .slice A0_1 l0_1.length c0_1, .slice A0_2 l0_2.length c0_2, .bool a1_0, .slice A1_1 l1_1.length c1_1, .slice A1_2 l1_2.length c1_2]) (ok := (fun k_ => ((P0_1_ k_ ∨ P0_2_ k_ ∨ P1_1_ k_ ∨ P1_2_ k_) ∨ w.heap.size ≤ k_) ∧ k_ ≠ gb1401 ∧ k_ ≠ gb1402)) (okp := (fun k_ => ((P0_1_ k_ ∨ P0_2_ k_ ∨ P1_1_ k_ ∨ P1_2_ k_) ∨ w.heap.size ≤ k_) ∧ k_ ≠ gb1401 ∧ k_ ≠ gb1402)) ?hr ?hp (fun _ hk => hk) ((show ∀ k_, w6.heap.size ≤ k_ → (fun k_ => ((P0_1_ k_ ∨ P0_2_ k_ ∨ P1_1_ k_ ∨ P1_2_ k_) ∨ w.heap.size ≤ k_) ∧ k_ ≠ gb1401 ∧ k_ ≠ gb1402) k_ from fun k_ hk => ⟨(.inr (Nat.le_trans (below_size (bu2 HB.out GE1401.out GE1402.out)) hk)), Kd.freshB (g := gb1401) (o := .cells #[.bool a0_0, .slice A0_1 l0_1.length c0_1, .slice A0_2 l0_2.length c0_2] 67 (0, 0)) (ku BK1401.out) k_ hk, Kd.freshB (g := gb1402) (o := .cells #[.bool a1_0, .slice A1_1 l1_1.length c1_1, .slice A1_2 l1_2.length c1_2] 67 (0, 0)) (ku BK1402.out) k_ hk⟩) _ (Nat.le_refl _)) (Below.refl _ _) (Nat.le_refl _) (by simp) ?_; (case hd => rfl); (case hg => rfl); (case hr => first | (go_simp; done) | (go_simp; rfl)); (case hp => exact (Reps.c3 (show Kd.FK k67 _ _ (⟨a0_0, l0_1, l0_2⟩ : S67) [.bool a0_0, .slice A0_1 l0_1.length c0_1, .slice A0_2 l0_2.length c0_2] from (k67_mkF _ _ (⟨a0_0, l0_1, l0_2⟩ : S67) (Kd.V_reads' (vy ((fun k_ => ((P0_1_ k_ ∨ P0_2_ k_ ∨ P1_1_ k_ ∨ P1_2_ k_) ∨ w.heap.size ≤ k_) ∧ k_ ≠ gb1401 ∧ k_ ≠ gb1402)) HO0_1.out)).2.1 (Kd.V_F (vy ((fun k_ => ((P0_1_ k_ ∨ P0_2_ k_ ∨ P1_1_ k_ ∨ P1_2_ k_) ∨ w.heap.size ≤ k_) ∧ k_ ≠ gb1401 ∧ k_ ≠ gb1402)) HO0_1.out)) (Kd.V_reads' (vy ((fun k_ => ((P0_1_ k_ ∨ P0_2_ k_ ∨ P1_1_ k_ ∨ P1_2_ k_) ∨ w.heap.size ≤ k_) ∧ k_ ≠ gb1401 ∧ k_ ≠ gb1402)) HO0_2.out)).2.1 (Kd.V_F (vy ((fun k_ => ((P0_1_ k_ ∨ P0_2_ k_ ∨ P1_1_ k_ ∨ P1_2_ k_) ∨ w.heap.size ≤ k_) ∧ k_ ≠ gb1401 ∧ k_ ≠ gb1402)) HO0_2.out)))) (Reps.c3 (show Kd.FK k67 _ _ (⟨a1_0, l1_1, l1_2⟩ : S67) [.bool a1_0, .slice A1_1 l1_1.length c1_1, .slice A1_2 l1_2.length c1_2] from (k67_mkF _ _ (⟨a1_0, l1_1, l1_2⟩ : S67) (Kd.V_reads' (vy ((fun k_ => ((P0_1_ k_ ∨ P0_2_ k_ ∨ P1_1_ k_ ∨ P1_2_ k_) ∨ w.heap.size ≤ k_) ∧ k_ ≠ gb1401 ∧ k_ ≠ gb1402)) HO1_1.out)).2.1 (Kd.V_F (vy ((fun k_ => ((P0_1_ k_ ∨ P0_2_ k_ ∨ P1_1_ k_ ∨ P1_2_ k_) ∨ w.heap.size ≤ k_) ∧ k_ ≠ gb1401 ∧ k_ ≠ gb1402)) HO1_1.out)) (Kd.V_reads' (vy ((fun k_ => ((P0_1_ k_ ∨ P0_2_ k_ ∨ P1_1_ k_ ∨ P1_2_ k_) ∨ w.heap.size ≤ k_) ∧ k_ ≠ gb1401 ∧ k_ ≠ gb1402)) HO1_2.out)).2.1 (Kd.V_F (vy ((fun k_ => ((P0_1_ k_ ∨ P0_2_ k_ ∨ P1_1_ k_ ∨ P1_2_ k_) ∨ w.heap.size ≤ k_) ∧ k_ ≠ gb1401 ∧ k_ ≠ gb1402)) HO1_2.out)))) (Reps.none _ _)))); intro v1404 w10 ho11 hb hg_ hnew_; clear hg_ hnew_; (first | rw [← Ny1403.out] at ho11 | (simp only [Int.reduceToNat] at ho11; rw [← Ny1403.out] at ho11)); replace HO0_1 := Aside0.mk (Kd.V_elder' (vu HO0_1.out) (Kd.N_base ho11) hb); replace HO0_2 := Aside0.mk (Kd.V_elder' (vu HO0_2.out) (Kd.N_base ho11) hb); replace HO1_1 := Aside0.mk (Kd.V_elder' (vu HO1_1.out) (Kd.N_base ho11) hb); replace HO1_2 := Aside0.mk (Kd.V_elder' (vu HO1_2.out) (Kd.N_base ho11) hb); have HO1405 := Aside0.mk (Kd.N_lower ho11 (below_size (bu2 HB.out GE1401.out GE1402.out))); replace BK1401 := kb BK1401 hb; replace BK1402 := kb BK1402 hb; replace HB := Aside0.mk (below_step (bu2 HB.out GE1401.out GE1402.out) hb); clear hb ho11; obtain ⟨Ao12, co12, eo12⟩ := Kd.N_slice HO1405.out; subst eo12) | ((with_reducible refine gate_callee (f := 86) rfl ?_); refine goesL_ (some 12) rfl rfl Try.func86 (by kernel_rfl) rfl #[.int .i64 16, .slice Ao12 y1403.length co12] rfl lu ?_; (with_reducible refine (codewrightlaw02_long.calls k 16 _ _ y1403 true _ ?side1 ?side2 A3.out).mono ?_); (case side1 => exact cu (Kd.N_reads' HO1405.out).2.2); (case side2 => exact (Kd.N_reads' HO1405.out).2.1); rintro e w' ⟨rfl, ⟨nd, rfl⟩⟩; refine ⟨_, rfl, ?_⟩))
  go_ret
  exact ⟨by first | rfl | (simp [errW_none, errW_some] <;> rfl) | (simp [*, errW_none, errW_some] <;> rfl), by repeat (first | (with_reducible first | exact HB.out | apply below_alloc | apply pw_below_drewN | apply below_drew1 | refine below_set ?_ GE1401.out | refine below_set ?_ GE1402.out) | exact HB.out)⟩
 ·
  replace c4 := Bool.eq_false_iff.mpr c4
  subst c4
  have H1 : ((rational_Div.f k a0_0 l0_1 l0_2 a1_0 l1_1 l1_2).bind fun bt1407 => ((rational_Sign.f k a1_0 l1_1 l1_2).bind fun t1416 => (if t1416 = 0 then (if bt1407.2.2.2 = 7 then ((codewrightref02_Nil.f bt1407.1 bt1407.2.1 bt1407.2.2.1).bind fun t1417 => (some t1417)) else (none)) else ((rational_Mul.f k (([(⟨a0_0, l0_1, l0_2⟩ : S67), (⟨a1_0, l1_1, l1_2⟩ : S67)] : List (S67)))).bind fun bt1421 => ((rational_Div.f k bt1421.1 bt1421.2.1 bt1421.2.2 a1_0 l1_1 l1_2).bind fun bt1428 => (if bt1407.2.2.2 = 0 then (if bt1428.2.2.2 = 0 then ((rational_Is.f k bt1407.1 bt1407.2.1 bt1407.2.2.1).bind fun t1437 => (if t1437 = true then ((rational_Mul.f k (([(⟨bt1407.1, bt1407.2.1, bt1407.2.2.1⟩ : S67), (⟨a1_0, l1_1, l1_2⟩ : S67)] : List (S67)))).bind fun bt1441 => ((rational_Trim.f k a0_0 l0_1 l0_2).bind fun bt1448 => ((codewrightlaw02_same.f k bt1441.1 bt1441.2.1 bt1441.2.2 bt1448.1 bt1448.2.1 bt1448.2.2).bind fun t1455 => (if t1455 = true then ((rational_Trim.f k a0_0 l0_1 l0_2).bind fun bt1456 => ((codewrightlaw02_same.f k bt1428.1 bt1428.2.1 bt1428.2.2.1 bt1456.1 bt1456.2.1 bt1456.2.2).bind fun t1463 => (some t1463))) else (none))))) else (none))) else (none)) else (none))))))) = some r := by rw [if_neg (show ¬ (false = true) by decide)] at H; exact H
  clear H
  have H := H1
  clear H1
  replace H := Option.bind_eq_some_iff.mp H
  obtain ⟨⟨t1407, t1408, t1411, t1414⟩, A130, H⟩ := H
  replace H : ((rational_Sign.f k a1_0 l1_1 l1_2).bind fun t1416 => (if t1416 = 0 then (if t1414 = 7 then ((codewrightref02_Nil.f t1407 t1408 t1411).bind fun t1417 => (some t1417)) else (none)) else ((rational_Mul.f k (([(⟨a0_0, l0_1, l0_2⟩ : S67), (⟨a1_0, l1_1, l1_2⟩ : S67)] : List (S67)))).bind fun bt1421 => ((rational_Div.f k bt1421.1 bt1421.2.1 bt1421.2.2 a1_0 l1_1 l1_2).bind fun bt1428 => (if t1414 = 0 then (if bt1428.2.2.2 = 0 then ((rational_Is.f k t1407 t1408 t1411).bind fun t1437 => (if t1437 = true then ((rational_Mul.f k (([(⟨t1407, t1408, t1411⟩ : S67), (⟨a1_0, l1_1, l1_2⟩ : S67)] : List (S67)))).bind fun bt1441 => ((rational_Trim.f k a0_0 l0_1 l0_2).bind fun bt1448 => ((codewrightlaw02_same.f k bt1441.1 bt1441.2.1 bt1441.2.2 bt1448.1 bt1448.2.1 bt1448.2.2).bind fun t1455 => (if t1455 = true then ((rational_Trim.f k a0_0 l0_1 l0_2).bind fun bt1456 => ((codewrightlaw02_same.f k bt1428.1 bt1428.2.1 bt1428.2.2.1 bt1456.1 bt1456.2.1 bt1456.2.2).bind fun t1463 => (some t1463))) else (none))))) else (none))) else (none)) else (none)))))) = some r := H
  have A13 := Aside0.mk A130
  clear A130
  replace H := Option.bind_eq_some_iff.mp H
  obtain ⟨t1416, A140, H⟩ := H
  replace H : (if t1416 = 0 then (if t1414 = 7 then ((codewrightref02_Nil.f t1407 t1408 t1411).bind fun t1417 => (some t1417)) else (none)) else ((rational_Mul.f k (([(⟨a0_0, l0_1, l0_2⟩ : S67), (⟨a1_0, l1_1, l1_2⟩ : S67)] : List (S67)))).bind fun bt1421 => ((rational_Div.f k bt1421.1 bt1421.2.1 bt1421.2.2 a1_0 l1_1 l1_2).bind fun bt1428 => (if t1414 = 0 then (if bt1428.2.2.2 = 0 then ((rational_Is.f k t1407 t1408 t1411).bind fun t1437 => (if t1437 = true then ((rational_Mul.f k (([(⟨t1407, t1408, t1411⟩ : S67), (⟨a1_0, l1_1, l1_2⟩ : S67)] : List (S67)))).bind fun bt1441 => ((rational_Trim.f k a0_0 l0_1 l0_2).bind fun bt1448 => ((codewrightlaw02_same.f k bt1441.1 bt1441.2.1 bt1441.2.2 bt1448.1 bt1448.2.1 bt1448.2.2).bind fun t1455 => (if t1455 = true then ((rational_Trim.f k a0_0 l0_1 l0_2).bind fun bt1456 => ((codewrightlaw02_same.f k bt1428.1 bt1428.2.1 bt1428.2.2.1 bt1456.1 bt1456.2.1 bt1456.2.2).bind fun t1463 => (some t1463))) else (none))))) else (none))) else (none)) else (none))))) = some r := H
  have A14 := Aside0.mk A140
  clear A140
  by_cases c15 : t1416 = 0
  ·
   rw [if_pos c15] at H
   have c15b0 : (t1416 == 0) = true := beq_iff_eq.mpr c15
   have c15b1 : (t1416 != 0) = false := bne_eq_false_iff_eq.mpr c15
   clear c15
   by_cases c16 : t1414 = 7
   ·
    rw [if_pos c16] at H
    have c16b0 : (t1414 == 7) = true := beq_iff_eq.mpr c16
    have c16b1 : (t1414 != 7) = false := bne_eq_false_iff_eq.mpr c16
    clear c16
    replace H := Option.bind_eq_some_iff.mp H
    obtain ⟨t1417, A170, H⟩ := H
    replace H : (some t1417) = some r := H
    have A17 := Aside0.mk A170
    clear A170
    obtain rfl := Option.some.inj H
    go_enter Try.func13, Try.ntmps13
    go_wp2_with (first | ((with_reducible refine gate_dst (N := 2) rfl ?_); (try (refine gate_guard (by rfl) ?_; dsimp only)); refine box_event ?hg (N := 2) ?hd (cs := #[.bool a0_0, .slice A0_1 l0_1.length c0_1, .slice A0_2 l0_2.length c0_2]) (t := 67) ?hr ?_; (case hd => rfl); (case hg => rfl); (case hr => first | (go_simp; done) | (go_simp; rfl)); intro gb1401 hg w18 hbox hb; replace HO0_1 := ke HO0_1 hg hb; replace HO0_2 := ke HO0_2 hg hb; replace HO1_1 := ke HO1_1 hg hb; replace HO1_2 := ke HO1_2 hg hb; have BK1401 := Aside0.mk (hbox); have GW1401 := ng hg (bu HB.out); have GE1401 := ng hg (bu HB.out); replace HB := Aside0.mk (below_step (bu HB.out) hb); clear hb hbox hg) | ((with_reducible refine gate_dst (N := 3) rfl ?_); (try (refine gate_guard (by rfl) ?_; dsimp only)); refine box_event ?hg (N := 3) ?hd (cs := #[.bool a1_0, .slice A1_1 l1_1.length c1_1, .slice A1_2 l1_2.length c1_2]) (t := 67) ?hr ?_; (case hd => rfl); (case hg => rfl); (case hr => first | (go_simp; done) | (go_simp; rfl)); intro gb1402 hg w19 hbox hb; replace HO0_1 := ke HO0_1 hg hb; replace HO0_2 := ke HO0_2 hg hb; replace HO1_1 := ke HO1_1 hg hb; replace HO1_2 := ke HO1_2 hg hb; have BK1402 := Aside0.mk (hbox); have GW1402 := ng hg (bu1 HB.out GE1401.out); have GE1402 := ng hg (bu1 HB.out GE1401.out); replace HB := Aside0.mk (below_step (bu1 HB.out GE1401.out) hb); have NB1401_1402 := nl hg BK1401; have NB1402_1401 := nr hg BK1401; replace BK1401 := kb BK1401 hb; clear hb hbox hg; have hnb20 := NB1401_1402.out; have hnc20 := NB1402_1401.out; have hcz21_0 : w19.cell? ⟨gb1401, 0, none⟩ = some (.bool a0_0) := bc BK1401 0; have hcz21_1 : w19.cell? ⟨gb1401, 1, none⟩ = some (.slice A0_1 l0_1.length c0_1) := bc BK1401 1; have hcz21_2 : w19.cell? ⟨gb1401, 2, none⟩ = some (.slice A0_2 l0_2.length c0_2) := bc BK1401 2; have hfz21_0 := blk_frozen BK1401.out 0; have hfz21_1 := blk_frozen BK1401.out 1; have hfz21_2 := blk_frozen BK1401.out 2; have hcz22_0 : w19.cell? ⟨gb1402, 0, none⟩ = some (.bool a1_0) := bc BK1402 0; have hcz22_1 : w19.cell? ⟨gb1402, 1, none⟩ = some (.slice A1_1 l1_1.length c1_1) := bc BK1402 1; have hcz22_2 : w19.cell? ⟨gb1402, 2, none⟩ = some (.slice A1_2 l1_2.length c1_2) := bc BK1402 2; have hfz22_0 := blk_frozen BK1402.out 0; have hfz22_1 := blk_frozen BK1402.out 1; have hfz22_2 := blk_frozen BK1402.out 2) | ((with_reducible refine gate_dst (N := 11) rfl ?_); (try (refine gate_guard (by rfl) ?_; dsimp only)); refine Kd.N_lit k67 _ 67 ?hg (N' := 11) ?hd (xs := ([(⟨a0_0, l0_1, l0_2⟩ : S67), (⟨a1_0, l1_1, l1_2⟩ : S67)] : List (S67))) (inner := [.bool a0_0, .slice A0_1 l0_1.length c0_1, .slice A0_2 l0_2.length c0_2, .bool a1_0, .slice A1_1 l1_1.length c1_1, .slice A1_2 l1_2.length c1_2]) (ok := (fun k_ => ((P0_1_ k_ ∨ P0_2_ k_ ∨ P1_1_ k_ ∨ P1_2_ k_) ∨ w.heap.size ≤ k_) ∧ k_ ≠ gb1401 ∧ k_ ≠ gb1402)) (okp := (fun k_ => ((P0_1_ k_ ∨ P0_2_ k_ ∨ P1_1_ k_ ∨ P1_2_ k_) ∨ w.heap.size ≤ k_) ∧ k_ ≠ gb1401 ∧ k_ ≠ gb1402)) ?hr ?hp (fun _ hk => hk) ((show ∀ k_, w19.heap.size ≤ k_ → (fun k_ => ((P0_1_ k_ ∨ P0_2_ k_ ∨ P1_1_ k_ ∨ P1_2_ k_) ∨ w.heap.size ≤ k_) ∧ k_ ≠ gb1401 ∧ k_ ≠ gb1402) k_ from fun k_ hk => ⟨(.inr (Nat.le_trans (below_size (bu2 HB.out GE1401.out GE1402.out)) hk)), Kd.freshB (g := gb1401) (o := .cells #[.bool a0_0, .slice A0_1 l0_1.length c0_1, .slice A0_2 l0_2.length c0_2] 67 (0, 0)) (ku BK1401.out) k_ hk, Kd.freshB (g := gb1402) (o := .cells #[.bool a1_0, .slice A1_1 l1_1.length c1_1, .slice A1_2 l1_2.length c1_2] 67 (0, 0)) (ku BK1402.out) k_ hk⟩) _ (Nat.le_refl _)) (Below.refl _ _) (Nat.le_refl _) (by simp) ?_; (case hd => rfl); (case hg => rfl); (case hr => first | (go_simp; done) | (go_simp; rfl)); (case hp => exact (Reps.c3 (show Kd.FK k67 _ _ (⟨a0_0, l0_1, l0_2⟩ : S67) [.bool a0_0, .slice A0_1 l0_1.length c0_1, .slice A0_2 l0_2.length c0_2] from (k67_mkF _ _ (⟨a0_0, l0_1, l0_2⟩ : S67) (Kd.V_reads' (vy ((fun k_ => ((P0_1_ k_ ∨ P0_2_ k_ ∨ P1_1_ k_ ∨ P1_2_ k_) ∨ w.heap.size ≤ k_) ∧ k_ ≠ gb1401 ∧ k_ ≠ gb1402)) HO0_1.out)).2.1 (Kd.V_F (vy ((fun k_ => ((P0_1_ k_ ∨ P0_2_ k_ ∨ P1_1_ k_ ∨ P1_2_ k_) ∨ w.heap.size ≤ k_) ∧ k_ ≠ gb1401 ∧ k_ ≠ gb1402)) HO0_1.out)) (Kd.V_reads' (vy ((fun k_ => ((P0_1_ k_ ∨ P0_2_ k_ ∨ P1_1_ k_ ∨ P1_2_ k_) ∨ w.heap.size ≤ k_) ∧ k_ ≠ gb1401 ∧ k_ ≠ gb1402)) HO0_2.out)).2.1 (Kd.V_F (vy ((fun k_ => ((P0_1_ k_ ∨ P0_2_ k_ ∨ P1_1_ k_ ∨ P1_2_ k_) ∨ w.heap.size ≤ k_) ∧ k_ ≠ gb1401 ∧ k_ ≠ gb1402)) HO0_2.out)))) (Reps.c3 (show Kd.FK k67 _ _ (⟨a1_0, l1_1, l1_2⟩ : S67) [.bool a1_0, .slice A1_1 l1_1.length c1_1, .slice A1_2 l1_2.length c1_2] from (k67_mkF _ _ (⟨a1_0, l1_1, l1_2⟩ : S67) (Kd.V_reads' (vy ((fun k_ => ((P0_1_ k_ ∨ P0_2_ k_ ∨ P1_1_ k_ ∨ P1_2_ k_) ∨ w.heap.size ≤ k_) ∧ k_ ≠ gb1401 ∧ k_ ≠ gb1402)) HO1_1.out)).2.1 (Kd.V_F (vy ((fun k_ => ((P0_1_ k_ ∨ P0_2_ k_ ∨ P1_1_ k_ ∨ P1_2_ k_) ∨ w.heap.size ≤ k_) ∧ k_ ≠ gb1401 ∧ k_ ≠ gb1402)) HO1_1.out)) (Kd.V_reads' (vy ((fun k_ => ((P0_1_ k_ ∨ P0_2_ k_ ∨ P1_1_ k_ ∨ P1_2_ k_) ∨ w.heap.size ≤ k_) ∧ k_ ≠ gb1401 ∧ k_ ≠ gb1402)) HO1_2.out)).2.1 (Kd.V_F (vy ((fun k_ => ((P0_1_ k_ ∨ P0_2_ k_ ∨ P1_1_ k_ ∨ P1_2_ k_) ∨ w.heap.size ≤ k_) ∧ k_ ≠ gb1401 ∧ k_ ≠ gb1402)) HO1_2.out)))) (Reps.none _ _)))); intro v1404 w23 ho24 hb hg_ hnew_; clear hg_ hnew_; (first | rw [← Ny1403.out] at ho24 | (simp only [Int.reduceToNat] at ho24; rw [← Ny1403.out] at ho24)); replace HO0_1 := Aside0.mk (Kd.V_elder' (vu HO0_1.out) (Kd.N_base ho24) hb); replace HO0_2 := Aside0.mk (Kd.V_elder' (vu HO0_2.out) (Kd.N_base ho24) hb); replace HO1_1 := Aside0.mk (Kd.V_elder' (vu HO1_1.out) (Kd.N_base ho24) hb); replace HO1_2 := Aside0.mk (Kd.V_elder' (vu HO1_2.out) (Kd.N_base ho24) hb); have HO1405 := Aside0.mk (Kd.N_lower ho24 (below_size (bu2 HB.out GE1401.out GE1402.out))); replace BK1401 := kb BK1401 hb; replace BK1402 := kb BK1402 hb; replace HB := Aside0.mk (below_step (bu2 HB.out GE1401.out GE1402.out) hb); clear hb ho24; obtain ⟨Ao25, co25, eo25⟩ := Kd.N_slice HO1405.out; subst eo25) | ((with_reducible refine gate_callee (f := 86) rfl ?_); refine goesL_ (some 12) rfl rfl Try.func86 (by kernel_rfl) rfl #[.int .i64 16, .slice Ao25 y1403.length co25] rfl lu ?_; (with_reducible refine (codewrightlaw02_long.calls k 16 _ _ y1403 false _ ?side1 ?side2 A3.out).mono ?_); (case side1 => exact cu (Kd.N_reads' HO1405.out).2.2); (case side2 => exact (Kd.N_reads' HO1405.out).2.1); rintro e w' ⟨rfl, ⟨nd, rfl⟩⟩; refine ⟨_, rfl, ?_⟩; (try (rw [drewN_self w23]; generalize hq_ : World.drewN w23 _ = w23; have n0_ : Aside0 (Kd.V (Kd.int .u32) 48 w23 w.heap.size (fun k_ => ((P0_1_ k_ ∨ P0_2_ k_ ∨ P1_1_ k_ ∨ P1_2_ k_) ∨ w.heap.size ≤ k_) ∧ some k_ ≠ (.slice Ao25 y1403.length co25 : Value).ownBlock ∧ k_ ≠ gb1401 ∧ k_ ≠ gb1402) (.slice A0_1 l0_1.length c0_1) l0_1) := ⟨by rw [← hq_]; exact (by (with_reducible repeat (first | apply Kd.V_alloc | apply Kd.V_drewN | apply Kd.V_drew)); exact Kd.V_mono HO0_1.out (fun _ hk => ⟨hk.1.1.1, ⟨hk.2, ⟨hk.1.1.2, hk.1.2⟩⟩⟩))⟩; have n1_ : Aside0 (Kd.V (Kd.int .u32) 48 w23 w.heap.size (fun k_ => ((P0_1_ k_ ∨ P0_2_ k_ ∨ P1_1_ k_ ∨ P1_2_ k_) ∨ w.heap.size ≤ k_) ∧ some k_ ≠ (.slice Ao25 y1403.length co25 : Value).ownBlock ∧ k_ ≠ gb1401 ∧ k_ ≠ gb1402) (.slice A0_2 l0_2.length c0_2) l0_2) := ⟨by rw [← hq_]; exact (by (with_reducible repeat (first | apply Kd.V_alloc | apply Kd.V_drewN | apply Kd.V_drew)); exact Kd.V_mono HO0_2.out (fun _ hk => ⟨hk.1.1.1, ⟨hk.2, ⟨hk.1.1.2, hk.1.2⟩⟩⟩))⟩; have n2_ : Aside0 (Kd.N k67 67 w23 w.heap.size (fun k_ => ((P0_1_ k_ ∨ P0_2_ k_ ∨ P1_1_ k_ ∨ P1_2_ k_) ∨ w.heap.size ≤ k_) ∧ k_ ≠ gb1401 ∧ k_ ≠ gb1402) (.slice Ao25 y1403.length co25) y1403) := ⟨by rw [← hq_]; exact (nu HO1405.out)⟩; have n3_ : Aside0 (Kd.V (Kd.int .u32) 48 w23 w.heap.size (fun k_ => ((P0_1_ k_ ∨ P0_2_ k_ ∨ P1_1_ k_ ∨ P1_2_ k_) ∨ w.heap.size ≤ k_) ∧ some k_ ≠ (.slice Ao25 y1403.length co25 : Value).ownBlock ∧ k_ ≠ gb1401 ∧ k_ ≠ gb1402) (.slice A1_1 l1_1.length c1_1) l1_1) := ⟨by rw [← hq_]; exact (by (with_reducible repeat (first | apply Kd.V_alloc | apply Kd.V_drewN | apply Kd.V_drew)); exact Kd.V_mono HO1_1.out (fun _ hk => ⟨hk.1.1.1, ⟨hk.2, ⟨hk.1.1.2, hk.1.2⟩⟩⟩))⟩; have n4_ : Aside0 (Kd.V (Kd.int .u32) 48 w23 w.heap.size (fun k_ => ((P0_1_ k_ ∨ P0_2_ k_ ∨ P1_1_ k_ ∨ P1_2_ k_) ∨ w.heap.size ≤ k_) ∧ some k_ ≠ (.slice Ao25 y1403.length co25 : Value).ownBlock ∧ k_ ≠ gb1401 ∧ k_ ≠ gb1402) (.slice A1_2 l1_2.length c1_2) l1_2) := ⟨by rw [← hq_]; exact (by (with_reducible repeat (first | apply Kd.V_alloc | apply Kd.V_drewN | apply Kd.V_drew)); exact Kd.V_mono HO1_2.out (fun _ hk => ⟨hk.1.1.1, ⟨hk.2, ⟨hk.1.1.2, hk.1.2⟩⟩⟩))⟩; have n5_ : Aside0 (w23.heap[gb1401]? = some (.cells #[.bool a0_0, .slice A0_1 l0_1.length c0_1, .slice A0_2 l0_2.length c0_2] 67 (0, 0))) := ⟨by rw [← hq_]; exact (ku BK1401.out)⟩; have n6_ : Aside0 (w23.heap[gb1402]? = some (.cells #[.bool a1_0, .slice A1_1 l1_1.length c1_1, .slice A1_2 l1_2.length c1_2] 67 (0, 0))) := ⟨by rw [← hq_]; exact (ku BK1402.out)⟩; have n7_ : Aside0 (Below w.heap.size w w23) := ⟨by rw [← hq_]; exact (bu2 HB.out GE1401.out GE1402.out)⟩; clear HO0_1 HO0_2 HO1405 HO1_1 HO1_2 BK1401 BK1402 HB hq_; have HO0_1 := n0_; have HO0_2 := n1_; have HO1405 := n2_; have HO1_1 := n3_; have HO1_2 := n4_; have BK1401 := n5_; have BK1402 := n6_; have HB := n7_; clear n0_ n1_ n2_ n3_ n4_ n5_ n6_ n7_)); have hcz26_0 : w23.cell? ⟨gb1401, 0, none⟩ = some (.bool a0_0) := bc BK1401 0; have hcz26_1 : w23.cell? ⟨gb1401, 1, none⟩ = some (.slice A0_1 l0_1.length c0_1) := bc BK1401 1; have hcz26_2 : w23.cell? ⟨gb1401, 2, none⟩ = some (.slice A0_2 l0_2.length c0_2) := bc BK1401 2; have hfz26_0 := blk_frozen BK1401.out 0; have hfz26_1 := blk_frozen BK1401.out 1; have hfz26_2 := blk_frozen BK1401.out 2; have hcz27_0 : w23.cell? ⟨gb1402, 0, none⟩ = some (.bool a1_0) := bc BK1402 0; have hcz27_1 : w23.cell? ⟨gb1402, 1, none⟩ = some (.slice A1_1 l1_1.length c1_1) := bc BK1402 1; have hcz27_2 : w23.cell? ⟨gb1402, 2, none⟩ = some (.slice A1_2 l1_2.length c1_2) := bc BK1402 2; have hfz27_0 := blk_frozen BK1402.out 0; have hfz27_1 := blk_frozen BK1402.out 1; have hfz27_2 := blk_frozen BK1402.out 2) | ((with_reducible refine gate_callee (f := 94) rfl ?_); refine goesL_ (some 16) rfl rfl Try.func94 (by kernel_rfl) rfl #[.agg #[.bool a0_0, .slice A0_1 l0_1.length c0_1, .slice A0_2 l0_2.length c0_2], .agg #[.bool a1_0, .slice A1_1 l1_1.length c1_1, .slice A1_2 l1_2.length c1_2]] rfl lu ?_; (with_reducible refine (rational_Div.calls k a0_0 (fun k_ => (((((P0_1_ k_ ∨ P0_2_ k_ ∨ P1_1_ k_ ∨ P1_2_ k_) ∨ w.heap.size ≤ k_) ∧ k_ ≠ gb1401) ∧ k_ ≠ gb1402) ∧ some k_ ≠ (.slice Ao25 y1403.length co25 : Value).ownBlock)) _ _ l0_1 (fun k_ => (((((P0_1_ k_ ∨ P0_2_ k_ ∨ P1_1_ k_ ∨ P1_2_ k_) ∨ w.heap.size ≤ k_) ∧ k_ ≠ gb1401) ∧ k_ ≠ gb1402) ∧ some k_ ≠ (.slice Ao25 y1403.length co25 : Value).ownBlock)) _ _ l0_2 a1_0 (fun k_ => (((((P0_1_ k_ ∨ P0_2_ k_ ∨ P1_1_ k_ ∨ P1_2_ k_) ∨ w.heap.size ≤ k_) ∧ k_ ≠ gb1401) ∧ k_ ≠ gb1402) ∧ some k_ ≠ (.slice Ao25 y1403.length co25 : Value).ownBlock)) _ _ l1_1 (fun k_ => (((((P0_1_ k_ ∨ P0_2_ k_ ∨ P1_1_ k_ ∨ P1_2_ k_) ∨ w.heap.size ≤ k_) ∧ k_ ≠ gb1401) ∧ k_ ≠ gb1402) ∧ some k_ ≠ (.slice Ao25 y1403.length co25 : Value).ownBlock)) _ _ l1_2 t1407 t1408 t1411 t1414 _ ?side1 ?side2 ?side3 ?side4 A13.out).mono ?_); (case side1 => first | exact HO0_1.out | exact vz HO0_1.out); (case side2 => first | exact HO0_2.out | exact vz HO0_2.out); (case side3 => first | exact HO1_1.out | exact vz HO1_1.out); (case side4 => first | exact HO1_2.out | exact vz HO1_2.out); rintro e w28 ⟨v1409, v1412, rfl, ho0, ho1, hb⟩; refine ⟨_, rfl, ?_⟩; replace HO0_1 := kv HO0_1 hb; replace HO0_2 := kv HO0_2 hb; replace HO1_1 := kv HO1_1 hb; replace HO1_2 := kv HO1_2 hb; have HO1410 := Aside0.mk (Kd.V_lower (Kd.V_mono (ok' := fun k_ => ((P0_1_ k_ ∨ P0_2_ k_ ∨ P1_1_ k_ ∨ P1_2_ k_) ∨ w.heap.size ≤ k_) ∧ some k_ ≠ (.slice Ao25 y1403.length co25 : Value).ownBlock ∧ k_ ≠ gb1401 ∧ k_ ≠ gb1402) ho0 (fun k_ hk_ => ⟨Or.elim hk_ (fun hs_ => Or.elim hs_ (fun hs_ => hs_.1.1.1) (fun hs_ => Or.elim hs_ (fun hs_ => hs_.1.1.1) (fun hs_ => Or.elim hs_ (fun hs_ => hs_.1.1.1) (fun hs_ => hs_.1.1.1)))) (fun hn_ => (.inr (Nat.le_trans (below_size (bu2 HB.out GE1401.out GE1402.out)) hn_))), Or.elim hk_ (fun hs_ => Or.elim hs_ (fun hs_ => hs_.2) (fun hs_ => Or.elim hs_ (fun hs_ => hs_.2) (fun hs_ => Or.elim hs_ (fun hs_ => hs_.2) (fun hs_ => hs_.2)))) (fun hn_ => (Kd.fresh' (Kd.N_lt (nu HO1405.out)) k_ hn_)), Or.elim hk_ (fun hs_ => Or.elim hs_ (fun hs_ => hs_.1.1.2) (fun hs_ => Or.elim hs_ (fun hs_ => hs_.1.1.2) (fun hs_ => Or.elim hs_ (fun hs_ => hs_.1.1.2) (fun hs_ => hs_.1.1.2)))) (fun hn_ => (Kd.freshB (g := gb1401) (o := .cells #[.bool a0_0, .slice A0_1 l0_1.length c0_1, .slice A0_2 l0_2.length c0_2] 67 (0, 0)) (ku BK1401.out) k_ hn_)), Or.elim hk_ (fun hs_ => Or.elim hs_ (fun hs_ => hs_.1.2) (fun hs_ => Or.elim hs_ (fun hs_ => hs_.1.2) (fun hs_ => Or.elim hs_ (fun hs_ => hs_.1.2) (fun hs_ => hs_.1.2)))) (fun hn_ => (Kd.freshB (g := gb1402) (o := .cells #[.bool a1_0, .slice A1_1 l1_1.length c1_1, .slice A1_2 l1_2.length c1_2] 67 (0, 0)) (ku BK1402.out) k_ hn_))⟩)) (below_size (bu2 HB.out GE1401.out GE1402.out))); have HO1413 := Aside0.mk (Kd.V_lower (Kd.V_mono (ok' := fun k_ => ((P0_1_ k_ ∨ P0_2_ k_ ∨ P1_1_ k_ ∨ P1_2_ k_) ∨ w.heap.size ≤ k_) ∧ some k_ ≠ (.slice Ao25 y1403.length co25 : Value).ownBlock ∧ k_ ≠ gb1401 ∧ k_ ≠ gb1402) ho1 (fun k_ hk_ => ⟨Or.elim hk_ (fun hs_ => Or.elim hs_ (fun hs_ => hs_.1.1.1) (fun hs_ => Or.elim hs_ (fun hs_ => hs_.1.1.1) (fun hs_ => Or.elim hs_ (fun hs_ => hs_.1.1.1) (fun hs_ => hs_.1.1.1)))) (fun hn_ => (.inr (Nat.le_trans (below_size (bu2 HB.out GE1401.out GE1402.out)) hn_))), Or.elim hk_ (fun hs_ => Or.elim hs_ (fun hs_ => hs_.2) (fun hs_ => Or.elim hs_ (fun hs_ => hs_.2) (fun hs_ => Or.elim hs_ (fun hs_ => hs_.2) (fun hs_ => hs_.2)))) (fun hn_ => (Kd.fresh' (Kd.N_lt (nu HO1405.out)) k_ hn_)), Or.elim hk_ (fun hs_ => Or.elim hs_ (fun hs_ => hs_.1.1.2) (fun hs_ => Or.elim hs_ (fun hs_ => hs_.1.1.2) (fun hs_ => Or.elim hs_ (fun hs_ => hs_.1.1.2) (fun hs_ => hs_.1.1.2)))) (fun hn_ => (Kd.freshB (g := gb1401) (o := .cells #[.bool a0_0, .slice A0_1 l0_1.length c0_1, .slice A0_2 l0_2.length c0_2] 67 (0, 0)) (ku BK1401.out) k_ hn_)), Or.elim hk_ (fun hs_ => Or.elim hs_ (fun hs_ => hs_.1.2) (fun hs_ => Or.elim hs_ (fun hs_ => hs_.1.2) (fun hs_ => Or.elim hs_ (fun hs_ => hs_.1.2) (fun hs_ => hs_.1.2)))) (fun hn_ => (Kd.freshB (g := gb1402) (o := .cells #[.bool a1_0, .slice A1_1 l1_1.length c1_1, .slice A1_2 l1_2.length c1_2] 67 (0, 0)) (ku BK1402.out) k_ hn_))⟩)) (below_size (bu2 HB.out GE1401.out GE1402.out))); replace HO1405 := Aside0.mk (Kd.N_below (nu HO1405.out) hb); replace BK1401 := kb BK1401 hb; replace BK1402 := kb BK1402 hb; replace HB := Aside0.mk (below_step (bu2 HB.out GE1401.out GE1402.out) hb); (try clear hb); (try clear hb2); (try clear hk); (try clear hi); (try clear ho0); (try clear ho1)) | ((with_reducible refine gate_dst (N := 5) rfl ?_); (try (refine gate_guard (by rfl) ?_; dsimp only)); refine box_event ?hg (N := 5) ?hd (cs := #[.bool false, .slice none 0 0, .slice none 0 0]) (t := 67) ?hr ?_; (case hd => rfl); (case hg => rfl); (case hr => first | (go_simp; done) | (go_simp; rfl)); intro gb1415 hg w29 hbox hb; replace HO0_1 := ke HO0_1 hg hb; replace HO0_2 := ke HO0_2 hg hb; replace HO1_1 := ke HO1_1 hg hb; replace HO1_2 := ke HO1_2 hg hb; replace HO1405 := Aside0.mk (Kd.N_below (Kd.N_elderB (nu HO1405.out) gb1415 (Nat.le_of_eq hg.symm)) hb); replace HO1410 := ke HO1410 hg hb; replace HO1413 := ke HO1413 hg hb; have BK1415 := Aside0.mk (hbox); have GW1415 := ng hg (bu2 HB.out GE1401.out GE1402.out); have GE1415 := ng hg (bu2 HB.out GE1401.out GE1402.out); replace HB := Aside0.mk (below_step (bu2 HB.out GE1401.out GE1402.out) hb); have NB1401_1415 := nl hg BK1401; have NB1415_1401 := nr hg BK1401; replace BK1401 := kb BK1401 hb; have NB1402_1415 := nl hg BK1402; have NB1415_1402 := nr hg BK1402; replace BK1402 := kb BK1402 hb; clear hb hbox hg; have hnb30 := NB1415_1401.out; have hnc30 := NB1401_1415.out; have hnb31 := NB1415_1402.out; have hnc31 := NB1402_1415.out; have hcz32_0 : w29.cell? ⟨gb1415, 0, none⟩ = some (.bool false) := bc BK1415 0; have hcz32_1 : w29.cell? ⟨gb1415, 1, none⟩ = some (.slice none 0 0) := bc BK1415 1; have hcz32_2 : w29.cell? ⟨gb1415, 2, none⟩ = some (.slice none 0 0) := bc BK1415 2; have hfz32_0 := blk_frozen BK1415.out 0; have hfz32_1 := blk_frozen BK1415.out 1; have hfz32_2 := blk_frozen BK1415.out 2; obtain ⟨Ao33, co33, eo33⟩ := Kd.V_slice HO1410.out; subst eo33; obtain ⟨Ao34, co34, eo34⟩ := Kd.V_slice HO1413.out; subst eo34; have hcz35_0 : w29.cell? ⟨gb1402, 0, none⟩ = some (.bool a1_0) := bc BK1402 0; have hcz35_1 : w29.cell? ⟨gb1402, 1, none⟩ = some (.slice A1_1 l1_1.length c1_1) := bc BK1402 1; have hcz35_2 : w29.cell? ⟨gb1402, 2, none⟩ = some (.slice A1_2 l1_2.length c1_2) := bc BK1402 2; have hfz35_0 := blk_frozen BK1402.out 0; have hfz35_1 := blk_frozen BK1402.out 1; have hfz35_2 := blk_frozen BK1402.out 2) | ((with_reducible refine gate_callee (f := 91) rfl ?_); refine goesL_ (some 20) rfl rfl Try.func91 (by kernel_rfl) rfl #[.agg #[.bool a1_0, .slice A1_1 l1_1.length c1_1, .slice A1_2 l1_2.length c1_2]] rfl lu ?_; (with_reducible refine (rational_Sign.calls k a1_0 _ _ l1_1 _ _ l1_2 t1416 _ ?side1 ?side2 ?side3 ?side4 A14.out).mono ?_); (case side1 => exact vr HO1_1.out); (case side2 => exact (Kd.V_reads' HO1_1.out).2.1); (case side3 => exact vr HO1_2.out); (case side4 => exact (Kd.V_reads' HO1_2.out).2.1); rintro e w36 ⟨rfl, hb⟩; refine ⟨_, rfl, ?_⟩; replace HO0_1 := Aside0.mk (Kd.V_below (by (with_reducible repeat (first | apply Kd.V_alloc | apply Kd.V_drewN | apply Kd.V_drew)); exact (Kd.V_mono (Kd.V_far (p := ⟨gb1415, 2, none⟩) (Kd.V_far (p := ⟨gb1415, 1, none⟩) (Kd.V_far (p := ⟨gb1415, 0, none⟩) (Kd.V_mono HO0_1.out (fun k_ hk => (⟨hk, hk.2⟩ : _ ∧ k_ ≠ gb1415))) (fun _ hk => hk.2) (.bool t1407)) (fun _ hk => hk.2) (.slice Ao33 t1408.length co33)) (fun _ hk => hk.2) (.slice Ao34 t1411.length co34)) (fun _ h_ => h_.1))) hb); replace HO0_2 := Aside0.mk (Kd.V_below (by (with_reducible repeat (first | apply Kd.V_alloc | apply Kd.V_drewN | apply Kd.V_drew)); exact (Kd.V_mono (Kd.V_far (p := ⟨gb1415, 2, none⟩) (Kd.V_far (p := ⟨gb1415, 1, none⟩) (Kd.V_far (p := ⟨gb1415, 0, none⟩) (Kd.V_mono HO0_2.out (fun k_ hk => (⟨hk, hk.2⟩ : _ ∧ k_ ≠ gb1415))) (fun _ hk => hk.2) (.bool t1407)) (fun _ hk => hk.2) (.slice Ao33 t1408.length co33)) (fun _ hk => hk.2) (.slice Ao34 t1411.length co34)) (fun _ h_ => h_.1))) hb); replace HO1_1 := Aside0.mk (Kd.V_below (by (with_reducible repeat (first | apply Kd.V_alloc | apply Kd.V_drewN | apply Kd.V_drew)); exact (Kd.V_mono (Kd.V_far (p := ⟨gb1415, 2, none⟩) (Kd.V_far (p := ⟨gb1415, 1, none⟩) (Kd.V_far (p := ⟨gb1415, 0, none⟩) (Kd.V_mono HO1_1.out (fun k_ hk => (⟨hk, hk.2⟩ : _ ∧ k_ ≠ gb1415))) (fun _ hk => hk.2) (.bool t1407)) (fun _ hk => hk.2) (.slice Ao33 t1408.length co33)) (fun _ hk => hk.2) (.slice Ao34 t1411.length co34)) (fun _ h_ => h_.1))) hb); replace HO1_2 := Aside0.mk (Kd.V_below (by (with_reducible repeat (first | apply Kd.V_alloc | apply Kd.V_drewN | apply Kd.V_drew)); exact (Kd.V_mono (Kd.V_far (p := ⟨gb1415, 2, none⟩) (Kd.V_far (p := ⟨gb1415, 1, none⟩) (Kd.V_far (p := ⟨gb1415, 0, none⟩) (Kd.V_mono HO1_2.out (fun k_ hk => (⟨hk, hk.2⟩ : _ ∧ k_ ≠ gb1415))) (fun _ hk => hk.2) (.bool t1407)) (fun _ hk => hk.2) (.slice Ao33 t1408.length co33)) (fun _ hk => hk.2) (.slice Ao34 t1411.length co34)) (fun _ h_ => h_.1))) hb); replace HO1405 := Aside0.mk (Kd.N_below (by (with_reducible repeat (first | apply Kd.N_alloc | apply Kd.N_drewN | apply Kd.N_drew)); exact (Kd.N_mono (Kd.N_far (p := ⟨gb1415, 2, none⟩) (Kd.N_far (p := ⟨gb1415, 1, none⟩) (Kd.N_far (p := ⟨gb1415, 0, none⟩) (Kd.N_mono HO1405.out (fun k_ hk => (⟨hk, hk.2⟩ : _ ∧ k_ ≠ gb1415))) (fun _ hk => hk.2) (.bool t1407)) (fun _ hk => hk.2) (.slice Ao33 t1408.length co33)) (fun _ hk => hk.2) (.slice Ao34 t1411.length co34)) (fun _ h_ => h_.1))) hb); replace HO1410 := Aside0.mk (Kd.V_below (by (with_reducible repeat (first | apply Kd.V_alloc | apply Kd.V_drewN | apply Kd.V_drew)); exact (Kd.V_mono (Kd.V_far (p := ⟨gb1415, 2, none⟩) (Kd.V_far (p := ⟨gb1415, 1, none⟩) (Kd.V_far (p := ⟨gb1415, 0, none⟩) (Kd.V_mono HO1410.out (fun k_ hk => (⟨hk, hk.2⟩ : _ ∧ k_ ≠ gb1415))) (fun _ hk => hk.2) (.bool t1407)) (fun _ hk => hk.2) (.slice Ao33 t1408.length co33)) (fun _ hk => hk.2) (.slice Ao34 t1411.length co34)) (fun _ h_ => h_.1))) hb); replace HO1413 := Aside0.mk (Kd.V_below (by (with_reducible repeat (first | apply Kd.V_alloc | apply Kd.V_drewN | apply Kd.V_drew)); exact (Kd.V_mono (Kd.V_far (p := ⟨gb1415, 2, none⟩) (Kd.V_far (p := ⟨gb1415, 1, none⟩) (Kd.V_far (p := ⟨gb1415, 0, none⟩) (Kd.V_mono HO1413.out (fun k_ hk => (⟨hk, hk.2⟩ : _ ∧ k_ ≠ gb1415))) (fun _ hk => hk.2) (.bool t1407)) (fun _ hk => hk.2) (.slice Ao33 t1408.length co33)) (fun _ hk => hk.2) (.slice Ao34 t1411.length co34)) (fun _ h_ => h_.1))) hb); replace BK1401 := Aside0.mk (blk_below (g := gb1401) (o := .cells #[.bool a0_0, .slice A0_1 l0_1.length c0_1, .slice A0_2 l0_2.length c0_2] 67 (0, 0)) (kf NB1401_1415.out BK1401.out) hb); replace BK1402 := Aside0.mk (blk_below (g := gb1402) (o := .cells #[.bool a1_0, .slice A1_1 l1_1.length c1_1, .slice A1_2 l1_2.length c1_2] 67 (0, 0)) (kf NB1402_1415.out BK1402.out) hb); replace BK1415 := Aside0.mk (blk_below (g := gb1415) (o := .cells #[.bool t1407, .slice Ao33 t1408.length co33, .slice Ao34 t1411.length co34] 67 (0, 0)) (by (with_reducible repeat (first | refine blk_drewN ?_ _ | refine blk_drew ?_ | refine blk_alloc ?_ _)); refine blk_put (cs := #[.bool t1407, .slice Ao33 t1408.length co33, .slice none 0 0]) ?_ 2 _ rfl; (with_reducible repeat (first | refine blk_drewN ?_ _ | refine blk_drew ?_ | refine blk_alloc ?_ _)); refine blk_put (cs := #[.bool t1407, .slice none 0 0, .slice none 0 0]) ?_ 1 _ rfl; (with_reducible repeat (first | refine blk_drewN ?_ _ | refine blk_drew ?_ | refine blk_alloc ?_ _)); refine blk_put (cs := #[.bool false, .slice none 0 0, .slice none 0 0]) ?_ 0 _ rfl; (with_reducible repeat (first | refine blk_drewN ?_ _ | refine blk_drew ?_ | refine blk_alloc ?_ _)); exact BK1415.out) hb); replace HB := Aside0.mk (below_step (bu3 HB.out GE1401.out GE1402.out GE1415.out) hb); (try clear hb); (try clear hb2); (try clear hk); (try clear hi); have hcz37_0 : w36.cell? ⟨gb1415, 0, none⟩ = some (.bool t1407) := bc BK1415 0; have hcz37_1 : w36.cell? ⟨gb1415, 1, none⟩ = some (.slice Ao33 t1408.length co33) := bc BK1415 1; have hcz37_2 : w36.cell? ⟨gb1415, 2, none⟩ = some (.slice Ao34 t1411.length co34) := bc BK1415 2; have hfz37_0 := blk_frozen BK1415.out 0; have hfz37_1 := blk_frozen BK1415.out 1; have hfz37_2 := blk_frozen BK1415.out 2) | (go_at_call 82; (with_reducible refine (codewrightref02_Nil.calls t1407 _ _ t1408 _ _ t1411 t1417 _ ?side1 ?side2 ?side3 ?side4 A17.out).mono ?_); (case side1 => exact cu (Kd.V_reads' HO1410.out).2.2); (case side2 => exact (Kd.V_reads' HO1410.out).2.1); (case side3 => exact cu (Kd.V_reads' HO1413.out).2.2); (case side4 => exact (Kd.V_reads' HO1413.out).2.1); rintro e w38 ⟨rfl, hb⟩; replace HO0_1 := kv HO0_1 hb; replace HO0_2 := kv HO0_2 hb; replace HO1_1 := kv HO1_1 hb; replace HO1_2 := kv HO1_2 hb; replace HO1405 := Aside0.mk (Kd.N_below (nu HO1405.out) hb); replace HO1410 := kv HO1410 hb; replace HO1413 := kv HO1413 hb; replace BK1401 := kb BK1401 hb; replace BK1402 := kb BK1402 hb; replace BK1415 := kb BK1415 hb; replace HB := Aside0.mk (below_step (bu3 HB.out GE1401.out GE1402.out GE1415.out) hb); (try clear hb); (try clear hb2); (try clear hk); (try clear hi)))
    go_ret
    exact ⟨by first | rfl | (simp [errW_none, errW_some] <;> rfl) | (simp [*, errW_none, errW_some] <;> rfl), by repeat (first | (with_reducible first | exact HB.out | apply below_alloc | apply pw_below_drewN | apply below_drew1 | refine below_set ?_ GE1401.out | refine below_set ?_ GE1402.out | refine below_set ?_ GE1415.out) | exact HB.out)⟩
   ·
    rw [if_neg c16] at H
    exact absurd H (by simp)
  ·
   rw [if_neg c15] at H
   have c15b0 : (t1416 == 0) = false := beq_eq_false_iff_ne.mpr c15
   have c15b1 : (t1416 != 0) = true := bne_iff_ne.mpr c15
   obtain ⟨y1418, hy1418⟩ : ∃ y_ : List (S67), y_ = (([(⟨a0_0, l0_1, l0_2⟩ : S67), (⟨a1_0, l1_1, l1_2⟩ : S67)] : List (S67))) := ⟨_, rfl⟩
   replace H : ((rational_Mul.f k y1418).bind fun bt1421 => ((rational_Div.f k bt1421.1 bt1421.2.1 bt1421.2.2 a1_0 l1_1 l1_2).bind fun bt1428 => (if t1414 = 0 then (if bt1428.2.2.2 = 0 then ((rational_Is.f k t1407 t1408 t1411).bind fun t1437 => (if t1437 = true then ((rational_Mul.f k (([(⟨t1407, t1408, t1411⟩ : S67), (⟨a1_0, l1_1, l1_2⟩ : S67)] : List (S67)))).bind fun bt1441 => ((rational_Trim.f k a0_0 l0_1 l0_2).bind fun bt1448 => ((codewrightlaw02_same.f k bt1441.1 bt1441.2.1 bt1441.2.2 bt1448.1 bt1448.2.1 bt1448.2.2).bind fun t1455 => (if t1455 = true then ((rational_Trim.f k a0_0 l0_1 l0_2).bind fun bt1456 => ((codewrightlaw02_same.f k bt1428.1 bt1428.2.1 bt1428.2.2.1 bt1456.1 bt1456.2.1 bt1456.2.2).bind fun t1463 => (some t1463))) else (none))))) else (none))) else (none)) else (none)))) = some r := by first | (rw [hy1418]; with_reducible exact H) | (have H2_ := (Option.bind_some _ _).symm.trans H; rw [hy1418]; with_reducible exact H2_) | (have H2_ := (Option.bind_some _ _).symm.trans H; with_reducible exact H2_) | with_reducible exact H | (rw [hy1418]; exact H) | exact H
   have Ny1418 := Aside0.mk hy1418
   clear hy1418
   replace H := Option.bind_eq_some_iff.mp H
   obtain ⟨⟨t1421, t1422, t1425⟩, A390, H⟩ := H
   replace H : ((rational_Div.f k t1421 t1422 t1425 a1_0 l1_1 l1_2).bind fun bt1428 => (if t1414 = 0 then (if bt1428.2.2.2 = 0 then ((rational_Is.f k t1407 t1408 t1411).bind fun t1437 => (if t1437 = true then ((rational_Mul.f k (([(⟨t1407, t1408, t1411⟩ : S67), (⟨a1_0, l1_1, l1_2⟩ : S67)] : List (S67)))).bind fun bt1441 => ((rational_Trim.f k a0_0 l0_1 l0_2).bind fun bt1448 => ((codewrightlaw02_same.f k bt1441.1 bt1441.2.1 bt1441.2.2 bt1448.1 bt1448.2.1 bt1448.2.2).bind fun t1455 => (if t1455 = true then ((rational_Trim.f k a0_0 l0_1 l0_2).bind fun bt1456 => ((codewrightlaw02_same.f k bt1428.1 bt1428.2.1 bt1428.2.2.1 bt1456.1 bt1456.2.1 bt1456.2.2).bind fun t1463 => (some t1463))) else (none))))) else (none))) else (none)) else (none))) = some r := H
   have A39 := Aside0.mk A390
   clear A390
   replace H := Option.bind_eq_some_iff.mp H
   obtain ⟨⟨t1428, t1429, t1432, t1435⟩, A400, H⟩ := H
   replace H : (if t1414 = 0 then (if t1435 = 0 then ((rational_Is.f k t1407 t1408 t1411).bind fun t1437 => (if t1437 = true then ((rational_Mul.f k (([(⟨t1407, t1408, t1411⟩ : S67), (⟨a1_0, l1_1, l1_2⟩ : S67)] : List (S67)))).bind fun bt1441 => ((rational_Trim.f k a0_0 l0_1 l0_2).bind fun bt1448 => ((codewrightlaw02_same.f k bt1441.1 bt1441.2.1 bt1441.2.2 bt1448.1 bt1448.2.1 bt1448.2.2).bind fun t1455 => (if t1455 = true then ((rational_Trim.f k a0_0 l0_1 l0_2).bind fun bt1456 => ((codewrightlaw02_same.f k t1428 t1429 t1432 bt1456.1 bt1456.2.1 bt1456.2.2).bind fun t1463 => (some t1463))) else (none))))) else (none))) else (none)) else (none)) = some r := H
   have A40 := Aside0.mk A400
   clear A400
   by_cases c41 : t1414 = 0
   ·
    rw [if_pos c41] at H
    have c41b0 : (t1414 == 0) = true := beq_iff_eq.mpr c41
    have c41b1 : (t1414 != 0) = false := bne_eq_false_iff_eq.mpr c41
    clear c41
    by_cases c42 : t1435 = 0
    ·
     rw [if_pos c42] at H
     have c42b0 : (t1435 == 0) = true := beq_iff_eq.mpr c42
     have c42b1 : (t1435 != 0) = false := bne_eq_false_iff_eq.mpr c42
     clear c42
     replace H := Option.bind_eq_some_iff.mp H
     obtain ⟨t1437, A430, H⟩ := H
     replace H : (if t1437 = true then ((rational_Mul.f k (([(⟨t1407, t1408, t1411⟩ : S67), (⟨a1_0, l1_1, l1_2⟩ : S67)] : List (S67)))).bind fun bt1441 => ((rational_Trim.f k a0_0 l0_1 l0_2).bind fun bt1448 => ((codewrightlaw02_same.f k bt1441.1 bt1441.2.1 bt1441.2.2 bt1448.1 bt1448.2.1 bt1448.2.2).bind fun t1455 => (if t1455 = true then ((rational_Trim.f k a0_0 l0_1 l0_2).bind fun bt1456 => ((codewrightlaw02_same.f k t1428 t1429 t1432 bt1456.1 bt1456.2.1 bt1456.2.2).bind fun t1463 => (some t1463))) else (none))))) else (none)) = some r := H
     have A43 := Aside0.mk A430
     clear A430
     by_cases c44 : t1437 = true
     ·
      subst c44
      have H1 : ((rational_Mul.f k (([(⟨t1407, t1408, t1411⟩ : S67), (⟨a1_0, l1_1, l1_2⟩ : S67)] : List (S67)))).bind fun bt1441 => ((rational_Trim.f k a0_0 l0_1 l0_2).bind fun bt1448 => ((codewrightlaw02_same.f k bt1441.1 bt1441.2.1 bt1441.2.2 bt1448.1 bt1448.2.1 bt1448.2.2).bind fun t1455 => (if t1455 = true then ((rational_Trim.f k a0_0 l0_1 l0_2).bind fun bt1456 => ((codewrightlaw02_same.f k t1428 t1429 t1432 bt1456.1 bt1456.2.1 bt1456.2.2).bind fun t1463 => (some t1463))) else (none))))) = some r := by rw [if_pos rfl] at H; exact H
      clear H
      have H := H1
      clear H1
      obtain ⟨y1438, hy1438⟩ : ∃ y_ : List (S67), y_ = (([(⟨t1407, t1408, t1411⟩ : S67), (⟨a1_0, l1_1, l1_2⟩ : S67)] : List (S67))) := ⟨_, rfl⟩
      replace H : ((rational_Mul.f k y1438).bind fun bt1441 => ((rational_Trim.f k a0_0 l0_1 l0_2).bind fun bt1448 => ((codewrightlaw02_same.f k bt1441.1 bt1441.2.1 bt1441.2.2 bt1448.1 bt1448.2.1 bt1448.2.2).bind fun t1455 => (if t1455 = true then ((rational_Trim.f k a0_0 l0_1 l0_2).bind fun bt1456 => ((codewrightlaw02_same.f k t1428 t1429 t1432 bt1456.1 bt1456.2.1 bt1456.2.2).bind fun t1463 => (some t1463))) else (none))))) = some r := by first | (rw [hy1438]; with_reducible exact H) | (have H2_ := (Option.bind_some _ _).symm.trans H; rw [hy1438]; with_reducible exact H2_) | (have H2_ := (Option.bind_some _ _).symm.trans H; with_reducible exact H2_) | with_reducible exact H | (rw [hy1438]; exact H) | exact H
      have Ny1438 := Aside0.mk hy1438
      clear hy1438
      replace H := Option.bind_eq_some_iff.mp H
      obtain ⟨⟨t1441, t1442, t1445⟩, A450, H⟩ := H
      replace H : ((rational_Trim.f k a0_0 l0_1 l0_2).bind fun bt1448 => ((codewrightlaw02_same.f k t1441 t1442 t1445 bt1448.1 bt1448.2.1 bt1448.2.2).bind fun t1455 => (if t1455 = true then ((rational_Trim.f k a0_0 l0_1 l0_2).bind fun bt1456 => ((codewrightlaw02_same.f k t1428 t1429 t1432 bt1456.1 bt1456.2.1 bt1456.2.2).bind fun t1463 => (some t1463))) else (none)))) = some r := H
      have A45 := Aside0.mk A450
      clear A450
      replace H := Option.bind_eq_some_iff.mp H
      obtain ⟨⟨t1448, t1449, t1452⟩, A460, H⟩ := H
      replace H : ((codewrightlaw02_same.f k t1441 t1442 t1445 t1448 t1449 t1452).bind fun t1455 => (if t1455 = true then ((rational_Trim.f k a0_0 l0_1 l0_2).bind fun bt1456 => ((codewrightlaw02_same.f k t1428 t1429 t1432 bt1456.1 bt1456.2.1 bt1456.2.2).bind fun t1463 => (some t1463))) else (none))) = some r := H
      have A46 := Aside0.mk A460
      clear A460
      replace H := Option.bind_eq_some_iff.mp H
      obtain ⟨t1455, A470, H⟩ := H
      replace H : (if t1455 = true then ((rational_Trim.f k a0_0 l0_1 l0_2).bind fun bt1456 => ((codewrightlaw02_same.f k t1428 t1429 t1432 bt1456.1 bt1456.2.1 bt1456.2.2).bind fun t1463 => (some t1463))) else (none)) = some r := H
      have A47 := Aside0.mk A470
      clear A470
      by_cases c48 : t1455 = true
      ·
       subst c48
       have H1 : ((rational_Trim.f k a0_0 l0_1 l0_2).bind fun bt1456 => ((codewrightlaw02_same.f k t1428 t1429 t1432 bt1456.1 bt1456.2.1 bt1456.2.2).bind fun t1463 => (some t1463))) = some r := by rw [if_pos rfl] at H; exact H
       clear H
       have H := H1
       clear H1
       replace H := Option.bind_eq_some_iff.mp H
       obtain ⟨⟨t1456, t1457, t1460⟩, A490, H⟩ := H
       replace H : ((codewrightlaw02_same.f k t1428 t1429 t1432 t1456 t1457 t1460).bind fun t1463 => (some t1463)) = some r := H
       have A49 := Aside0.mk A490
       clear A490
       replace H := Option.bind_eq_some_iff.mp H
       obtain ⟨t1463, A500, H⟩ := H
       replace H : (some t1463) = some r := H
       have A50 := Aside0.mk A500
       clear A500
       obtain rfl := Option.some.inj H
       go_enter Try.func13, Try.ntmps13
       try go_wp2_with (first | ((with_reducible refine gate_dst (N := 2) rfl ?_); (try (refine gate_guard (by rfl) ?_; dsimp only)); refine box_event ?hg (N := 2) ?hd (cs := #[.bool a0_0, .slice A0_1 l0_1.length c0_1, .slice A0_2 l0_2.length c0_2]) (t := 67) ?hr ?_; (case hd => rfl); (case hg => rfl); (case hr => first | (go_simp; done) | (go_simp; rfl)); intro gb1401 hg w51 hbox hb; replace HO0_1 := ke HO0_1 hg hb; replace HO0_2 := ke HO0_2 hg hb; replace HO1_1 := ke HO1_1 hg hb; replace HO1_2 := ke HO1_2 hg hb; have BK1401 := Aside0.mk (hbox); have GW1401 := ng hg (bu HB.out); have GE1401 := ng hg (bu HB.out); replace HB := Aside0.mk (below_step (bu HB.out) hb); clear hb hbox hg) | ((with_reducible refine gate_dst (N := 3) rfl ?_); (try (refine gate_guard (by rfl) ?_; dsimp only)); refine box_event ?hg (N := 3) ?hd (cs := #[.bool a1_0, .slice A1_1 l1_1.length c1_1, .slice A1_2 l1_2.length c1_2]) (t := 67) ?hr ?_; (case hd => rfl); (case hg => rfl); (case hr => first | (go_simp; done) | (go_simp; rfl)); intro gb1402 hg w52 hbox hb; replace HO0_1 := ke HO0_1 hg hb; replace HO0_2 := ke HO0_2 hg hb; replace HO1_1 := ke HO1_1 hg hb; replace HO1_2 := ke HO1_2 hg hb; have BK1402 := Aside0.mk (hbox); have GW1402 := ng hg (bu1 HB.out GE1401.out); have GE1402 := ng hg (bu1 HB.out GE1401.out); replace HB := Aside0.mk (below_step (bu1 HB.out GE1401.out) hb); have NB1401_1402 := nl hg BK1401; have NB1402_1401 := nr hg BK1401; replace BK1401 := kb BK1401 hb; clear hb hbox hg; have hnb53 := NB1401_1402.out; have hnc53 := NB1402_1401.out; have hcz54_0 : w52.cell? ⟨gb1401, 0, none⟩ = some (.bool a0_0) := bc BK1401 0; have hcz54_1 : w52.cell? ⟨gb1401, 1, none⟩ = some (.slice A0_1 l0_1.length c0_1) := bc BK1401 1; have hcz54_2 : w52.cell? ⟨gb1401, 2, none⟩ = some (.slice A0_2 l0_2.length c0_2) := bc BK1401 2; have hfz54_0 := blk_frozen BK1401.out 0; have hfz54_1 := blk_frozen BK1401.out 1; have hfz54_2 := blk_frozen BK1401.out 2; have hcz55_0 : w52.cell? ⟨gb1402, 0, none⟩ = some (.bool a1_0) := bc BK1402 0; have hcz55_1 : w52.cell? ⟨gb1402, 1, none⟩ = some (.slice A1_1 l1_1.length c1_1) := bc BK1402 1; have hcz55_2 : w52.cell? ⟨gb1402, 2, none⟩ = some (.slice A1_2 l1_2.length c1_2) := bc BK1402 2; have hfz55_0 := blk_frozen BK1402.out 0; have hfz55_1 := blk_frozen BK1402.out 1; have hfz55_2 := blk_frozen BK1402.out 2) | ((with_reducible refine gate_dst (N := 11) rfl ?_); (try (refine gate_guard (by rfl) ?_; dsimp only)); refine Kd.N_lit k67 _ 67 ?hg (N' := 11) ?hd (xs := ([(⟨a0_0, l0_1, l0_2⟩ : S67), (⟨a1_0, l1_1, l1_2⟩ : S67)] : List (S67))) (inner := [.bool a0_0, .slice A0_1 l0_1.length c0_1, .slice A0_2 l0_2.length c0_2, .bool a1_0, .slice A1_1 l1_1.length c1_1, .slice A1_2 l1_2.length c1_2]) (ok := (fun k_ => ((P0_1_ k_ ∨ P0_2_ k_ ∨ P1_1_ k_ ∨ P1_2_ k_) ∨ w.heap.size ≤ k_) ∧ k_ ≠ gb1401 ∧ k_ ≠ gb1402)) (okp := (fun k_ => ((P0_1_ k_ ∨ P0_2_ k_ ∨ P1_1_ k_ ∨ P1_2_ k_) ∨ w.heap.size ≤ k_) ∧ k_ ≠ gb1401 ∧ k_ ≠ gb1402)) ?hr ?hp (fun _ hk => hk) ((show ∀ k_, w52.heap.size ≤ k_ → (fun k_ => ((P0_1_ k_ ∨ P0_2_ k_ ∨ P1_1_ k_ ∨ P1_2_ k_) ∨ w.heap.size ≤ k_) ∧ k_ ≠ gb1401 ∧ k_ ≠ gb1402) k_ from fun k_ hk => ⟨(.inr (Nat.le_trans (below_size (bu2 HB.out GE1401.out GE1402.out)) hk)), Kd.freshB (g := gb1401) (o := .cells #[.bool a0_0, .slice A0_1 l0_1.length c0_1, .slice A0_2 l0_2.length c0_2] 67 (0, 0)) (ku BK1401.out) k_ hk, Kd.freshB (g := gb1402) (o := .cells #[.bool a1_0, .slice A1_1 l1_1.length c1_1, .slice A1_2 l1_2.length c1_2] 67 (0, 0)) (ku BK1402.out) k_ hk⟩) _ (Nat.le_refl _)) (Below.refl _ _) (Nat.le_refl _) (by simp) ?_; (case hd => rfl); (case hg => rfl); (case hr => first | (go_simp; done) | (go_simp; rfl)); (case hp => exact (Reps.c3 (show Kd.FK k67 _ _ (⟨a0_0, l0_1, l0_2⟩ : S67) [.bool a0_0, .slice A0_1 l0_1.length c0_1, .slice A0_2 l0_2.length c0_2] from (k67_mkF _ _ (⟨a0_0, l0_1, l0_2⟩ : S67) (Kd.V_reads' (vy ((fun k_ => ((P0_1_ k_ ∨ P0_2_ k_ ∨ P1_1_ k_ ∨ P1_2_ k_) ∨ w.heap.size ≤ k_) ∧ k_ ≠ gb1401 ∧ k_ ≠ gb1402)) HO0_1.out)).2.1 (Kd.V_F (vy ((fun k_ => ((P0_1_ k_ ∨ P0_2_ k_ ∨ P1_1_ k_ ∨ P1_2_ k_) ∨ w.heap.size ≤ k_) ∧ k_ ≠ gb1401 ∧ k_ ≠ gb1402)) HO0_1.out)) (Kd.V_reads' (vy ((fun k_ => ((P0_1_ k_ ∨ P0_2_ k_ ∨ P1_1_ k_ ∨ P1_2_ k_) ∨ w.heap.size ≤ k_) ∧ k_ ≠ gb1401 ∧ k_ ≠ gb1402)) HO0_2.out)).2.1 (Kd.V_F (vy ((fun k_ => ((P0_1_ k_ ∨ P0_2_ k_ ∨ P1_1_ k_ ∨ P1_2_ k_) ∨ w.heap.size ≤ k_) ∧ k_ ≠ gb1401 ∧ k_ ≠ gb1402)) HO0_2.out)))) (Reps.c3 (show Kd.FK k67 _ _ (⟨a1_0, l1_1, l1_2⟩ : S67) [.bool a1_0, .slice A1_1 l1_1.length c1_1, .slice A1_2 l1_2.length c1_2] from (k67_mkF _ _ (⟨a1_0, l1_1, l1_2⟩ : S67) (Kd.V_reads' (vy ((fun k_ => ((P0_1_ k_ ∨ P0_2_ k_ ∨ P1_1_ k_ ∨ P1_2_ k_) ∨ w.heap.size ≤ k_) ∧ k_ ≠ gb1401 ∧ k_ ≠ gb1402)) HO1_1.out)).2.1 (Kd.V_F (vy ((fun k_ => ((P0_1_ k_ ∨ P0_2_ k_ ∨ P1_1_ k_ ∨ P1_2_ k_) ∨ w.heap.size ≤ k_) ∧ k_ ≠ gb1401 ∧ k_ ≠ gb1402)) HO1_1.out)) (Kd.V_reads' (vy ((fun k_ => ((P0_1_ k_ ∨ P0_2_ k_ ∨ P1_1_ k_ ∨ P1_2_ k_) ∨ w.heap.size ≤ k_) ∧ k_ ≠ gb1401 ∧ k_ ≠ gb1402)) HO1_2.out)).2.1 (Kd.V_F (vy ((fun k_ => ((P0_1_ k_ ∨ P0_2_ k_ ∨ P1_1_ k_ ∨ P1_2_ k_) ∨ w.heap.size ≤ k_) ∧ k_ ≠ gb1401 ∧ k_ ≠ gb1402)) HO1_2.out)))) (Reps.none _ _)))); intro v1404 w56 ho57 hb hg_ hnew_; clear hg_ hnew_; (first | rw [← Ny1403.out] at ho57 | (simp only [Int.reduceToNat] at ho57; rw [← Ny1403.out] at ho57)); replace HO0_1 := Aside0.mk (Kd.V_elder' (vu HO0_1.out) (Kd.N_base ho57) hb); replace HO0_2 := Aside0.mk (Kd.V_elder' (vu HO0_2.out) (Kd.N_base ho57) hb); replace HO1_1 := Aside0.mk (Kd.V_elder' (vu HO1_1.out) (Kd.N_base ho57) hb); replace HO1_2 := Aside0.mk (Kd.V_elder' (vu HO1_2.out) (Kd.N_base ho57) hb); have HO1405 := Aside0.mk (Kd.N_lower ho57 (below_size (bu2 HB.out GE1401.out GE1402.out))); replace BK1401 := kb BK1401 hb; replace BK1402 := kb BK1402 hb; replace HB := Aside0.mk (below_step (bu2 HB.out GE1401.out GE1402.out) hb); clear hb ho57; obtain ⟨Ao58, co58, eo58⟩ := Kd.N_slice HO1405.out; subst eo58) | ((with_reducible refine gate_callee (f := 86) rfl ?_); refine goesL_ (some 12) rfl rfl Try.func86 (by kernel_rfl) rfl #[.int .i64 16, .slice Ao58 y1403.length co58] rfl lu ?_; (with_reducible refine (codewrightlaw02_long.calls k 16 _ _ y1403 false _ ?side1 ?side2 A3.out).mono ?_); (case side1 => exact cu (Kd.N_reads' HO1405.out).2.2); (case side2 => exact (Kd.N_reads' HO1405.out).2.1); rintro e w' ⟨rfl, ⟨nd, rfl⟩⟩; refine ⟨_, rfl, ?_⟩; (try (rw [drewN_self w56]; generalize hq_ : World.drewN w56 _ = w56; have n0_ : Aside0 (Kd.V (Kd.int .u32) 48 w56 w.heap.size (fun k_ => ((P0_1_ k_ ∨ P0_2_ k_ ∨ P1_1_ k_ ∨ P1_2_ k_) ∨ w.heap.size ≤ k_) ∧ some k_ ≠ (.slice Ao58 y1403.length co58 : Value).ownBlock ∧ k_ ≠ gb1401 ∧ k_ ≠ gb1402) (.slice A0_1 l0_1.length c0_1) l0_1) := ⟨by rw [← hq_]; exact (by (with_reducible repeat (first | apply Kd.V_alloc | apply Kd.V_drewN | apply Kd.V_drew)); exact Kd.V_mono HO0_1.out (fun _ hk => ⟨hk.1.1.1, ⟨hk.2, ⟨hk.1.1.2, hk.1.2⟩⟩⟩))⟩; have n1_ : Aside0 (Kd.V (Kd.int .u32) 48 w56 w.heap.size (fun k_ => ((P0_1_ k_ ∨ P0_2_ k_ ∨ P1_1_ k_ ∨ P1_2_ k_) ∨ w.heap.size ≤ k_) ∧ some k_ ≠ (.slice Ao58 y1403.length co58 : Value).ownBlock ∧ k_ ≠ gb1401 ∧ k_ ≠ gb1402) (.slice A0_2 l0_2.length c0_2) l0_2) := ⟨by rw [← hq_]; exact (by (with_reducible repeat (first | apply Kd.V_alloc | apply Kd.V_drewN | apply Kd.V_drew)); exact Kd.V_mono HO0_2.out (fun _ hk => ⟨hk.1.1.1, ⟨hk.2, ⟨hk.1.1.2, hk.1.2⟩⟩⟩))⟩; have n2_ : Aside0 (Kd.N k67 67 w56 w.heap.size (fun k_ => ((P0_1_ k_ ∨ P0_2_ k_ ∨ P1_1_ k_ ∨ P1_2_ k_) ∨ w.heap.size ≤ k_) ∧ k_ ≠ gb1401 ∧ k_ ≠ gb1402) (.slice Ao58 y1403.length co58) y1403) := ⟨by rw [← hq_]; exact (nu HO1405.out)⟩; have n3_ : Aside0 (Kd.V (Kd.int .u32) 48 w56 w.heap.size (fun k_ => ((P0_1_ k_ ∨ P0_2_ k_ ∨ P1_1_ k_ ∨ P1_2_ k_) ∨ w.heap.size ≤ k_) ∧ some k_ ≠ (.slice Ao58 y1403.length co58 : Value).ownBlock ∧ k_ ≠ gb1401 ∧ k_ ≠ gb1402) (.slice A1_1 l1_1.length c1_1) l1_1) := ⟨by rw [← hq_]; exact (by (with_reducible repeat (first | apply Kd.V_alloc | apply Kd.V_drewN | apply Kd.V_drew)); exact Kd.V_mono HO1_1.out (fun _ hk => ⟨hk.1.1.1, ⟨hk.2, ⟨hk.1.1.2, hk.1.2⟩⟩⟩))⟩; have n4_ : Aside0 (Kd.V (Kd.int .u32) 48 w56 w.heap.size (fun k_ => ((P0_1_ k_ ∨ P0_2_ k_ ∨ P1_1_ k_ ∨ P1_2_ k_) ∨ w.heap.size ≤ k_) ∧ some k_ ≠ (.slice Ao58 y1403.length co58 : Value).ownBlock ∧ k_ ≠ gb1401 ∧ k_ ≠ gb1402) (.slice A1_2 l1_2.length c1_2) l1_2) := ⟨by rw [← hq_]; exact (by (with_reducible repeat (first | apply Kd.V_alloc | apply Kd.V_drewN | apply Kd.V_drew)); exact Kd.V_mono HO1_2.out (fun _ hk => ⟨hk.1.1.1, ⟨hk.2, ⟨hk.1.1.2, hk.1.2⟩⟩⟩))⟩; have n5_ : Aside0 (w56.heap[gb1401]? = some (.cells #[.bool a0_0, .slice A0_1 l0_1.length c0_1, .slice A0_2 l0_2.length c0_2] 67 (0, 0))) := ⟨by rw [← hq_]; exact (ku BK1401.out)⟩; have n6_ : Aside0 (w56.heap[gb1402]? = some (.cells #[.bool a1_0, .slice A1_1 l1_1.length c1_1, .slice A1_2 l1_2.length c1_2] 67 (0, 0))) := ⟨by rw [← hq_]; exact (ku BK1402.out)⟩; have n7_ : Aside0 (Below w.heap.size w w56) := ⟨by rw [← hq_]; exact (bu2 HB.out GE1401.out GE1402.out)⟩; clear HO0_1 HO0_2 HO1405 HO1_1 HO1_2 BK1401 BK1402 HB hq_; have HO0_1 := n0_; have HO0_2 := n1_; have HO1405 := n2_; have HO1_1 := n3_; have HO1_2 := n4_; have BK1401 := n5_; have BK1402 := n6_; have HB := n7_; clear n0_ n1_ n2_ n3_ n4_ n5_ n6_ n7_)); have hcz59_0 : w56.cell? ⟨gb1401, 0, none⟩ = some (.bool a0_0) := bc BK1401 0; have hcz59_1 : w56.cell? ⟨gb1401, 1, none⟩ = some (.slice A0_1 l0_1.length c0_1) := bc BK1401 1; have hcz59_2 : w56.cell? ⟨gb1401, 2, none⟩ = some (.slice A0_2 l0_2.length c0_2) := bc BK1401 2; have hfz59_0 := blk_frozen BK1401.out 0; have hfz59_1 := blk_frozen BK1401.out 1; have hfz59_2 := blk_frozen BK1401.out 2; have hcz60_0 : w56.cell? ⟨gb1402, 0, none⟩ = some (.bool a1_0) := bc BK1402 0; have hcz60_1 : w56.cell? ⟨gb1402, 1, none⟩ = some (.slice A1_1 l1_1.length c1_1) := bc BK1402 1; have hcz60_2 : w56.cell? ⟨gb1402, 2, none⟩ = some (.slice A1_2 l1_2.length c1_2) := bc BK1402 2; have hfz60_0 := blk_frozen BK1402.out 0; have hfz60_1 := blk_frozen BK1402.out 1; have hfz60_2 := blk_frozen BK1402.out 2) | ((with_reducible refine gate_callee (f := 94) rfl ?_); refine goesL_ (some 16) rfl rfl Try.func94 (by kernel_rfl) rfl #[.agg #[.bool a0_0, .slice A0_1 l0_1.length c0_1, .slice A0_2 l0_2.length c0_2], .agg #[.bool a1_0, .slice A1_1 l1_1.length c1_1, .slice A1_2 l1_2.length c1_2]] rfl lu ?_; (with_reducible refine (rational_Div.calls k a0_0 (fun k_ => (((((P0_1_ k_ ∨ P0_2_ k_ ∨ P1_1_ k_ ∨ P1_2_ k_) ∨ w.heap.size ≤ k_) ∧ k_ ≠ gb1401) ∧ k_ ≠ gb1402) ∧ some k_ ≠ (.slice Ao58 y1403.length co58 : Value).ownBlock)) _ _ l0_1 (fun k_ => (((((P0_1_ k_ ∨ P0_2_ k_ ∨ P1_1_ k_ ∨ P1_2_ k_) ∨ w.heap.size ≤ k_) ∧ k_ ≠ gb1401) ∧ k_ ≠ gb1402) ∧ some k_ ≠ (.slice Ao58 y1403.length co58 : Value).ownBlock)) _ _ l0_2 a1_0 (fun k_ => (((((P0_1_ k_ ∨ P0_2_ k_ ∨ P1_1_ k_ ∨ P1_2_ k_) ∨ w.heap.size ≤ k_) ∧ k_ ≠ gb1401) ∧ k_ ≠ gb1402) ∧ some k_ ≠ (.slice Ao58 y1403.length co58 : Value).ownBlock)) _ _ l1_1 (fun k_ => (((((P0_1_ k_ ∨ P0_2_ k_ ∨ P1_1_ k_ ∨ P1_2_ k_) ∨ w.heap.size ≤ k_) ∧ k_ ≠ gb1401) ∧ k_ ≠ gb1402) ∧ some k_ ≠ (.slice Ao58 y1403.length co58 : Value).ownBlock)) _ _ l1_2 t1407 t1408 t1411 t1414 _ ?side1 ?side2 ?side3 ?side4 A13.out).mono ?_); (case side1 => first | exact HO0_1.out | exact vz HO0_1.out); (case side2 => first | exact HO0_2.out | exact vz HO0_2.out); (case side3 => first | exact HO1_1.out | exact vz HO1_1.out); (case side4 => first | exact HO1_2.out | exact vz HO1_2.out); rintro e w61 ⟨v1409, v1412, rfl, ho0, ho1, hb⟩; refine ⟨_, rfl, ?_⟩; replace HO0_1 := kv HO0_1 hb; replace HO0_2 := kv HO0_2 hb; replace HO1_1 := kv HO1_1 hb; replace HO1_2 := kv HO1_2 hb; have HO1410 := Aside0.mk (Kd.V_lower (Kd.V_mono (ok' := fun k_ => ((P0_1_ k_ ∨ P0_2_ k_ ∨ P1_1_ k_ ∨ P1_2_ k_) ∨ w.heap.size ≤ k_) ∧ some k_ ≠ (.slice Ao58 y1403.length co58 : Value).ownBlock ∧ k_ ≠ gb1401 ∧ k_ ≠ gb1402) ho0 (fun k_ hk_ => ⟨Or.elim hk_ (fun hs_ => Or.elim hs_ (fun hs_ => hs_.1.1.1) (fun hs_ => Or.elim hs_ (fun hs_ => hs_.1.1.1) (fun hs_ => Or.elim hs_ (fun hs_ => hs_.1.1.1) (fun hs_ => hs_.1.1.1)))) (fun hn_ => (.inr (Nat.le_trans (below_size (bu2 HB.out GE1401.out GE1402.out)) hn_))), Or.elim hk_ (fun hs_ => Or.elim hs_ (fun hs_ => hs_.2) (fun hs_ => Or.elim hs_ (fun hs_ => hs_.2) (fun hs_ => Or.elim hs_ (fun hs_ => hs_.2) (fun hs_ => hs_.2)))) (fun hn_ => (Kd.fresh' (Kd.N_lt (nu HO1405.out)) k_ hn_)), Or.elim hk_ (fun hs_ => Or.elim hs_ (fun hs_ => hs_.1.1.2) (fun hs_ => Or.elim hs_ (fun hs_ => hs_.1.1.2) (fun hs_ => Or.elim hs_ (fun hs_ => hs_.1.1.2) (fun hs_ => hs_.1.1.2)))) (fun hn_ => (Kd.freshB (g := gb1401) (o := .cells #[.bool a0_0, .slice A0_1 l0_1.length c0_1, .slice A0_2 l0_2.length c0_2] 67 (0, 0)) (ku BK1401.out) k_ hn_)), Or.elim hk_ (fun hs_ => Or.elim hs_ (fun hs_ => hs_.1.2) (fun hs_ => Or.elim hs_ (fun hs_ => hs_.1.2) (fun hs_ => Or.elim hs_ (fun hs_ => hs_.1.2) (fun hs_ => hs_.1.2)))) (fun hn_ => (Kd.freshB (g := gb1402) (o := .cells #[.bool a1_0, .slice A1_1 l1_1.length c1_1, .slice A1_2 l1_2.length c1_2] 67 (0, 0)) (ku BK1402.out) k_ hn_))⟩)) (below_size (bu2 HB.out GE1401.out GE1402.out))); have HO1413 := Aside0.mk (Kd.V_lower (Kd.V_mono (ok' := fun k_ => ((P0_1_ k_ ∨ P0_2_ k_ ∨ P1_1_ k_ ∨ P1_2_ k_) ∨ w.heap.size ≤ k_) ∧ some k_ ≠ (.slice Ao58 y1403.length co58 : Value).ownBlock ∧ k_ ≠ gb1401 ∧ k_ ≠ gb1402) ho1 (fun k_ hk_ => ⟨Or.elim hk_ (fun hs_ => Or.elim hs_ (fun hs_ => hs_.1.1.1) (fun hs_ => Or.elim hs_ (fun hs_ => hs_.1.1.1) (fun hs_ => Or.elim hs_ (fun hs_ => hs_.1.1.1) (fun hs_ => hs_.1.1.1)))) (fun hn_ => (.inr (Nat.le_trans (below_size (bu2 HB.out GE1401.out GE1402.out)) hn_))), Or.elim hk_ (fun hs_ => Or.elim hs_ (fun hs_ => hs_.2) (fun hs_ => Or.elim hs_ (fun hs_ => hs_.2) (fun hs_ => Or.elim hs_ (fun hs_ => hs_.2) (fun hs_ => hs_.2)))) (fun hn_ => (Kd.fresh' (Kd.N_lt (nu HO1405.out)) k_ hn_)), Or.elim hk_ (fun hs_ => Or.elim hs_ (fun hs_ => hs_.1.1.2) (fun hs_ => Or.elim hs_ (fun hs_ => hs_.1.1.2) (fun hs_ => Or.elim hs_ (fun hs_ => hs_.1.1.2) (fun hs_ => hs_.1.1.2)))) (fun hn_ => (Kd.freshB (g := gb1401) (o := .cells #[.bool a0_0, .slice A0_1 l0_1.length c0_1, .slice A0_2 l0_2.length c0_2] 67 (0, 0)) (ku BK1401.out) k_ hn_)), Or.elim hk_ (fun hs_ => Or.elim hs_ (fun hs_ => hs_.1.2) (fun hs_ => Or.elim hs_ (fun hs_ => hs_.1.2) (fun hs_ => Or.elim hs_ (fun hs_ => hs_.1.2) (fun hs_ => hs_.1.2)))) (fun hn_ => (Kd.freshB (g := gb1402) (o := .cells #[.bool a1_0, .slice A1_1 l1_1.length c1_1, .slice A1_2 l1_2.length c1_2] 67 (0, 0)) (ku BK1402.out) k_ hn_))⟩)) (below_size (bu2 HB.out GE1401.out GE1402.out))); replace HO1405 := Aside0.mk (Kd.N_below (nu HO1405.out) hb); replace BK1401 := kb BK1401 hb; replace BK1402 := kb BK1402 hb; replace HB := Aside0.mk (below_step (bu2 HB.out GE1401.out GE1402.out) hb); (try clear hb); (try clear hb2); (try clear hk); (try clear hi); (try clear ho0); (try clear ho1)) | ((with_reducible refine gate_dst (N := 5) rfl ?_); (try (refine gate_guard (by rfl) ?_; dsimp only)); refine box_event ?hg (N := 5) ?hd (cs := #[.bool false, .slice none 0 0, .slice none 0 0]) (t := 67) ?hr ?_; (case hd => rfl); (case hg => rfl); (case hr => first | (go_simp; done) | (go_simp; rfl)); intro gb1415 hg w62 hbox hb; replace HO0_1 := ke HO0_1 hg hb; replace HO0_2 := ke HO0_2 hg hb; replace HO1_1 := ke HO1_1 hg hb; replace HO1_2 := ke HO1_2 hg hb; replace HO1405 := Aside0.mk (Kd.N_below (Kd.N_elderB (nu HO1405.out) gb1415 (Nat.le_of_eq hg.symm)) hb); replace HO1410 := ke HO1410 hg hb; replace HO1413 := ke HO1413 hg hb; have BK1415 := Aside0.mk (hbox); have GW1415 := ng hg (bu2 HB.out GE1401.out GE1402.out); have GE1415 := ng hg (bu2 HB.out GE1401.out GE1402.out); replace HB := Aside0.mk (below_step (bu2 HB.out GE1401.out GE1402.out) hb); have NB1401_1415 := nl hg BK1401; have NB1415_1401 := nr hg BK1401; replace BK1401 := kb BK1401 hb; have NB1402_1415 := nl hg BK1402; have NB1415_1402 := nr hg BK1402; replace BK1402 := kb BK1402 hb; clear hb hbox hg; have hnb63 := NB1415_1401.out; have hnc63 := NB1401_1415.out; have hnb64 := NB1415_1402.out; have hnc64 := NB1402_1415.out; have hcz65_0 : w62.cell? ⟨gb1415, 0, none⟩ = some (.bool false) := bc BK1415 0; have hcz65_1 : w62.cell? ⟨gb1415, 1, none⟩ = some (.slice none 0 0) := bc BK1415 1; have hcz65_2 : w62.cell? ⟨gb1415, 2, none⟩ = some (.slice none 0 0) := bc BK1415 2; have hfz65_0 := blk_frozen BK1415.out 0; have hfz65_1 := blk_frozen BK1415.out 1; have hfz65_2 := blk_frozen BK1415.out 2; obtain ⟨Ao66, co66, eo66⟩ := Kd.V_slice HO1410.out; subst eo66; obtain ⟨Ao67, co67, eo67⟩ := Kd.V_slice HO1413.out; subst eo67; have hcz68_0 : w62.cell? ⟨gb1402, 0, none⟩ = some (.bool a1_0) := bc BK1402 0; have hcz68_1 : w62.cell? ⟨gb1402, 1, none⟩ = some (.slice A1_1 l1_1.length c1_1) := bc BK1402 1; have hcz68_2 : w62.cell? ⟨gb1402, 2, none⟩ = some (.slice A1_2 l1_2.length c1_2) := bc BK1402 2; have hfz68_0 := blk_frozen BK1402.out 0; have hfz68_1 := blk_frozen BK1402.out 1; have hfz68_2 := blk_frozen BK1402.out 2) | ((with_reducible refine gate_callee (f := 91) rfl ?_); refine goesL_ (some 20) rfl rfl Try.func91 (by kernel_rfl) rfl #[.agg #[.bool a1_0, .slice A1_1 l1_1.length c1_1, .slice A1_2 l1_2.length c1_2]] rfl lu ?_; (with_reducible refine (rational_Sign.calls k a1_0 _ _ l1_1 _ _ l1_2 t1416 _ ?side1 ?side2 ?side3 ?side4 A14.out).mono ?_); (case side1 => exact vr HO1_1.out); (case side2 => exact (Kd.V_reads' HO1_1.out).2.1); (case side3 => exact vr HO1_2.out); (case side4 => exact (Kd.V_reads' HO1_2.out).2.1); rintro e w69 ⟨rfl, hb⟩; refine ⟨_, rfl, ?_⟩; replace HO0_1 := Aside0.mk (Kd.V_below (by (with_reducible repeat (first | apply Kd.V_alloc | apply Kd.V_drewN | apply Kd.V_drew)); exact (Kd.V_mono (Kd.V_far (p := ⟨gb1415, 2, none⟩) (Kd.V_far (p := ⟨gb1415, 1, none⟩) (Kd.V_far (p := ⟨gb1415, 0, none⟩) (Kd.V_mono HO0_1.out (fun k_ hk => (⟨hk, hk.2⟩ : _ ∧ k_ ≠ gb1415))) (fun _ hk => hk.2) (.bool t1407)) (fun _ hk => hk.2) (.slice Ao66 t1408.length co66)) (fun _ hk => hk.2) (.slice Ao67 t1411.length co67)) (fun _ h_ => h_.1))) hb); replace HO0_2 := Aside0.mk (Kd.V_below (by (with_reducible repeat (first | apply Kd.V_alloc | apply Kd.V_drewN | apply Kd.V_drew)); exact (Kd.V_mono (Kd.V_far (p := ⟨gb1415, 2, none⟩) (Kd.V_far (p := ⟨gb1415, 1, none⟩) (Kd.V_far (p := ⟨gb1415, 0, none⟩) (Kd.V_mono HO0_2.out (fun k_ hk => (⟨hk, hk.2⟩ : _ ∧ k_ ≠ gb1415))) (fun _ hk => hk.2) (.bool t1407)) (fun _ hk => hk.2) (.slice Ao66 t1408.length co66)) (fun _ hk => hk.2) (.slice Ao67 t1411.length co67)) (fun _ h_ => h_.1))) hb); replace HO1_1 := Aside0.mk (Kd.V_below (by (with_reducible repeat (first | apply Kd.V_alloc | apply Kd.V_drewN | apply Kd.V_drew)); exact (Kd.V_mono (Kd.V_far (p := ⟨gb1415, 2, none⟩) (Kd.V_far (p := ⟨gb1415, 1, none⟩) (Kd.V_far (p := ⟨gb1415, 0, none⟩) (Kd.V_mono HO1_1.out (fun k_ hk => (⟨hk, hk.2⟩ : _ ∧ k_ ≠ gb1415))) (fun _ hk => hk.2) (.bool t1407)) (fun _ hk => hk.2) (.slice Ao66 t1408.length co66)) (fun _ hk => hk.2) (.slice Ao67 t1411.length co67)) (fun _ h_ => h_.1))) hb); replace HO1_2 := Aside0.mk (Kd.V_below (by (with_reducible repeat (first | apply Kd.V_alloc | apply Kd.V_drewN | apply Kd.V_drew)); exact (Kd.V_mono (Kd.V_far (p := ⟨gb1415, 2, none⟩) (Kd.V_far (p := ⟨gb1415, 1, none⟩) (Kd.V_far (p := ⟨gb1415, 0, none⟩) (Kd.V_mono HO1_2.out (fun k_ hk => (⟨hk, hk.2⟩ : _ ∧ k_ ≠ gb1415))) (fun _ hk => hk.2) (.bool t1407)) (fun _ hk => hk.2) (.slice Ao66 t1408.length co66)) (fun _ hk => hk.2) (.slice Ao67 t1411.length co67)) (fun _ h_ => h_.1))) hb); replace HO1405 := Aside0.mk (Kd.N_below (by (with_reducible repeat (first | apply Kd.N_alloc | apply Kd.N_drewN | apply Kd.N_drew)); exact (Kd.N_mono (Kd.N_far (p := ⟨gb1415, 2, none⟩) (Kd.N_far (p := ⟨gb1415, 1, none⟩) (Kd.N_far (p := ⟨gb1415, 0, none⟩) (Kd.N_mono HO1405.out (fun k_ hk => (⟨hk, hk.2⟩ : _ ∧ k_ ≠ gb1415))) (fun _ hk => hk.2) (.bool t1407)) (fun _ hk => hk.2) (.slice Ao66 t1408.length co66)) (fun _ hk => hk.2) (.slice Ao67 t1411.length co67)) (fun _ h_ => h_.1))) hb); replace HO1410 := Aside0.mk (Kd.V_below (by (with_reducible repeat (first | apply Kd.V_alloc | apply Kd.V_drewN | apply Kd.V_drew)); exact (Kd.V_mono (Kd.V_far (p := ⟨gb1415, 2, none⟩) (Kd.V_far (p := ⟨gb1415, 1, none⟩) (Kd.V_far (p := ⟨gb1415, 0, none⟩) (Kd.V_mono HO1410.out (fun k_ hk => (⟨hk, hk.2⟩ : _ ∧ k_ ≠ gb1415))) (fun _ hk => hk.2) (.bool t1407)) (fun _ hk => hk.2) (.slice Ao66 t1408.length co66)) (fun _ hk => hk.2) (.slice Ao67 t1411.length co67)) (fun _ h_ => h_.1))) hb); replace HO1413 := Aside0.mk (Kd.V_below (by (with_reducible repeat (first | apply Kd.V_alloc | apply Kd.V_drewN | apply Kd.V_drew)); exact (Kd.V_mono (Kd.V_far (p := ⟨gb1415, 2, none⟩) (Kd.V_far (p := ⟨gb1415, 1, none⟩) (Kd.V_far (p := ⟨gb1415, 0, none⟩) (Kd.V_mono HO1413.out (fun k_ hk => (⟨hk, hk.2⟩ : _ ∧ k_ ≠ gb1415))) (fun _ hk => hk.2) (.bool t1407)) (fun _ hk => hk.2) (.slice Ao66 t1408.length co66)) (fun _ hk => hk.2) (.slice Ao67 t1411.length co67)) (fun _ h_ => h_.1))) hb); replace BK1401 := Aside0.mk (blk_below (g := gb1401) (o := .cells #[.bool a0_0, .slice A0_1 l0_1.length c0_1, .slice A0_2 l0_2.length c0_2] 67 (0, 0)) (kf NB1401_1415.out BK1401.out) hb); replace BK1402 := Aside0.mk (blk_below (g := gb1402) (o := .cells #[.bool a1_0, .slice A1_1 l1_1.length c1_1, .slice A1_2 l1_2.length c1_2] 67 (0, 0)) (kf NB1402_1415.out BK1402.out) hb); replace BK1415 := Aside0.mk (blk_below (g := gb1415) (o := .cells #[.bool t1407, .slice Ao66 t1408.length co66, .slice Ao67 t1411.length co67] 67 (0, 0)) (by (with_reducible repeat (first | refine blk_drewN ?_ _ | refine blk_drew ?_ | refine blk_alloc ?_ _)); refine blk_put (cs := #[.bool t1407, .slice Ao66 t1408.length co66, .slice none 0 0]) ?_ 2 _ rfl; (with_reducible repeat (first | refine blk_drewN ?_ _ | refine blk_drew ?_ | refine blk_alloc ?_ _)); refine blk_put (cs := #[.bool t1407, .slice none 0 0, .slice none 0 0]) ?_ 1 _ rfl; (with_reducible repeat (first | refine blk_drewN ?_ _ | refine blk_drew ?_ | refine blk_alloc ?_ _)); refine blk_put (cs := #[.bool false, .slice none 0 0, .slice none 0 0]) ?_ 0 _ rfl; (with_reducible repeat (first | refine blk_drewN ?_ _ | refine blk_drew ?_ | refine blk_alloc ?_ _)); exact BK1415.out) hb); replace HB := Aside0.mk (below_step (bu3 HB.out GE1401.out GE1402.out GE1415.out) hb); (try clear hb); (try clear hb2); (try clear hk); (try clear hi)))
       replace HO0_1 := Aside0.mk (Kd.V_drew HO0_1.out)
       replace HO0_2 := Aside0.mk (Kd.V_drew HO0_2.out)
       replace HO1_1 := Aside0.mk (Kd.V_drew HO1_1.out)
       replace HO1_2 := Aside0.mk (Kd.V_drew HO1_2.out)
       replace HO1405 := Aside0.mk (Kd.N_drew HO1405.out)
       replace HO1410 := Aside0.mk (Kd.V_drew HO1410.out)
       replace HO1413 := Aside0.mk (Kd.V_drew HO1413.out)
       replace BK1401 := Aside0.mk (blk_drew BK1401.out)
       replace BK1402 := Aside0.mk (blk_drew BK1402.out)
       replace BK1415 := Aside0.mk (blk_drew BK1415.out)
       replace HB := Aside0.mk (below_drew1 HB.out)
       refine start_ (n := 12) (S := fun w' => w'.cell? ⟨gb1401, 0, none⟩ = some (.bool a0_0) ∧ w'.cell? ⟨gb1401, 1, none⟩ = some (.slice A0_1 l0_1.length c0_1) ∧ w'.cell? ⟨gb1401, 2, none⟩ = some (.slice A0_2 l0_2.length c0_2) ∧ w'.cell? ⟨gb1402, 0, none⟩ = some (.bool a1_0) ∧ w'.cell? ⟨gb1402, 1, none⟩ = some (.slice A1_1 l1_1.length c1_1) ∧ w'.cell? ⟨gb1402, 2, none⟩ = some (.slice A1_2 l1_2.length c1_2)) (ds := []) #[false, false, false, false, false, false, false, false, false, false, false, false] (by kernel_rfl) rfl rfl ⟨bc BK1401 0, bc BK1401 1, bc BK1401 2, bc BK1402 0, bc BK1402 1, bc BK1402 2⟩ (fun hHeld => ?_); refine with_tabW codewrightlaw02_RationalDivides.tab6 codewrightlaw02_RationalDivides.bits6 (fun HT_ HW_ => ?_)
       generalize w69.drew = w70 at HO0_1 HO0_2 HO1_1 HO1_2 HO1405 HO1410 HO1413 BK1401 BK1402 BK1415 HB hHeld ⊢
       refine tq 0 (some 29) #[true, false, false, false, false, false, false, false, false, false, false, false] HT_ HW_ hHeld ?_
       refine tq 1 (some 30) #[true, true, false, false, false, false, false, false, false, false, false, false] HT_ HW_ hHeld ?_
       refine tq 4 (some 33) #[true, true, false, false, true, false, false, false, false, false, false, false] HT_ HW_ hHeld ?_
       refine join_ (σ := Value × Value × Value × Value × Value × Nat) 2 #[true, true, true, true, true, true, true, true, true, true, false, false] (fun s_ => [(31, s_.1), (32, .agg #[.bool t1421, s_.2.1, s_.2.2.1]), (34, .tuple #[.agg #[.bool t1428, s_.2.2.2.1, s_.2.2.2.2.1], .int .i64 t1435]), (7, .pointer (some ⟨s_.2.2.2.2.2, 0, none⟩)), (28, .tuple #[.agg #[.bool t1428, s_.2.2.2.1, s_.2.2.2.2.1], .int .i64 t1435]), (35, .agg #[.bool t1428, s_.2.2.2.1, s_.2.2.2.2.1]), (36, .int .i64 t1435)]) (fun s_ w' => (w'.cell? ⟨gb1401, 0, none⟩ = some (.bool a0_0) ∧ w'.cell? ⟨gb1401, 1, none⟩ = some (.slice A0_1 l0_1.length c0_1) ∧ w'.cell? ⟨gb1401, 2, none⟩ = some (.slice A0_2 l0_2.length c0_2) ∧ w'.cell? ⟨gb1402, 0, none⟩ = some (.bool a1_0) ∧ w'.cell? ⟨gb1402, 1, none⟩ = some (.slice A1_1 l1_1.length c1_1) ∧ w'.cell? ⟨gb1402, 2, none⟩ = some (.slice A1_2 l1_2.length c1_2)) ∧ (Kd.V (Kd.int .u32) 48 w' w.heap.size (fun k_ => ((P0_1_ k_ ∨ P0_2_ k_ ∨ P1_1_ k_ ∨ P1_2_ k_) ∨ w.heap.size ≤ k_) ∧ some k_ ≠ (.slice Ao58 y1403.length co58 : Value).ownBlock ∧ some k_ ≠ (s_.1 : Value).ownBlock ∧ k_ ≠ gb1401 ∧ k_ ≠ gb1402 ∧ k_ ≠ gb1415 ∧ k_ ≠ s_.2.2.2.2.2) (.slice A0_1 l0_1.length c0_1) l0_1) ∧ (Kd.V (Kd.int .u32) 48 w' w.heap.size (fun k_ => ((P0_1_ k_ ∨ P0_2_ k_ ∨ P1_1_ k_ ∨ P1_2_ k_) ∨ w.heap.size ≤ k_) ∧ some k_ ≠ (.slice Ao58 y1403.length co58 : Value).ownBlock ∧ some k_ ≠ (s_.1 : Value).ownBlock ∧ k_ ≠ gb1401 ∧ k_ ≠ gb1402 ∧ k_ ≠ gb1415 ∧ k_ ≠ s_.2.2.2.2.2) (.slice A0_2 l0_2.length c0_2) l0_2) ∧ (Kd.N k67 67 w' w.heap.size (fun k_ => ((P0_1_ k_ ∨ P0_2_ k_ ∨ P1_1_ k_ ∨ P1_2_ k_) ∨ w.heap.size ≤ k_) ∧ some k_ ≠ (s_.1 : Value).ownBlock ∧ k_ ≠ gb1401 ∧ k_ ≠ gb1402 ∧ k_ ≠ gb1415 ∧ k_ ≠ s_.2.2.2.2.2) (.slice Ao58 y1403.length co58) y1403) ∧ (Kd.V (Kd.int .u32) 48 w' w.heap.size (fun k_ => ((P0_1_ k_ ∨ P0_2_ k_ ∨ P1_1_ k_ ∨ P1_2_ k_) ∨ w.heap.size ≤ k_) ∧ some k_ ≠ (.slice Ao58 y1403.length co58 : Value).ownBlock ∧ some k_ ≠ (s_.1 : Value).ownBlock ∧ k_ ≠ gb1401 ∧ k_ ≠ gb1402 ∧ k_ ≠ gb1415 ∧ k_ ≠ s_.2.2.2.2.2) (.slice Ao66 t1408.length co66) t1408) ∧ (Kd.V (Kd.int .u32) 48 w' w.heap.size (fun k_ => ((P0_1_ k_ ∨ P0_2_ k_ ∨ P1_1_ k_ ∨ P1_2_ k_) ∨ w.heap.size ≤ k_) ∧ some k_ ≠ (.slice Ao58 y1403.length co58 : Value).ownBlock ∧ some k_ ≠ (s_.1 : Value).ownBlock ∧ k_ ≠ gb1401 ∧ k_ ≠ gb1402 ∧ k_ ≠ gb1415 ∧ k_ ≠ s_.2.2.2.2.2) (.slice Ao67 t1411.length co67) t1411) ∧ (Kd.N k67 67 w' w.heap.size (fun k_ => ((P0_1_ k_ ∨ P0_2_ k_ ∨ P1_1_ k_ ∨ P1_2_ k_) ∨ w.heap.size ≤ k_) ∧ some k_ ≠ (.slice Ao58 y1403.length co58 : Value).ownBlock ∧ k_ ≠ gb1401 ∧ k_ ≠ gb1402 ∧ k_ ≠ gb1415 ∧ k_ ≠ s_.2.2.2.2.2) s_.1 y1418) ∧ (Kd.V (Kd.int .u32) 48 w' w.heap.size (fun k_ => ((P0_1_ k_ ∨ P0_2_ k_ ∨ P1_1_ k_ ∨ P1_2_ k_) ∨ w.heap.size ≤ k_) ∧ some k_ ≠ (.slice Ao58 y1403.length co58 : Value).ownBlock ∧ k_ ≠ gb1401 ∧ k_ ≠ gb1402 ∧ k_ ≠ gb1415 ∧ k_ ≠ s_.2.2.2.2.2) s_.2.1 t1422) ∧ (Kd.V (Kd.int .u32) 48 w' w.heap.size (fun k_ => ((P0_1_ k_ ∨ P0_2_ k_ ∨ P1_1_ k_ ∨ P1_2_ k_) ∨ w.heap.size ≤ k_) ∧ some k_ ≠ (.slice Ao58 y1403.length co58 : Value).ownBlock ∧ k_ ≠ gb1401 ∧ k_ ≠ gb1402 ∧ k_ ≠ gb1415 ∧ k_ ≠ s_.2.2.2.2.2) s_.2.2.1 t1425) ∧ (Kd.V (Kd.int .u32) 48 w' w.heap.size (fun k_ => ((P0_1_ k_ ∨ P0_2_ k_ ∨ P1_1_ k_ ∨ P1_2_ k_) ∨ w.heap.size ≤ k_) ∧ some k_ ≠ (.slice Ao58 y1403.length co58 : Value).ownBlock ∧ k_ ≠ gb1401 ∧ k_ ≠ gb1402 ∧ k_ ≠ gb1415 ∧ k_ ≠ s_.2.2.2.2.2) s_.2.2.2.1 t1429) ∧ (Kd.V (Kd.int .u32) 48 w' w.heap.size (fun k_ => ((P0_1_ k_ ∨ P0_2_ k_ ∨ P1_1_ k_ ∨ P1_2_ k_) ∨ w.heap.size ≤ k_) ∧ some k_ ≠ (.slice Ao58 y1403.length co58 : Value).ownBlock ∧ k_ ≠ gb1401 ∧ k_ ≠ gb1402 ∧ k_ ≠ gb1415 ∧ k_ ≠ s_.2.2.2.2.2) s_.2.2.2.2.1 t1432) ∧ (Kd.V (Kd.int .u32) 48 w' w.heap.size (fun k_ => ((P0_1_ k_ ∨ P0_2_ k_ ∨ P1_1_ k_ ∨ P1_2_ k_) ∨ w.heap.size ≤ k_) ∧ some k_ ≠ (.slice Ao58 y1403.length co58 : Value).ownBlock ∧ some k_ ≠ (s_.1 : Value).ownBlock ∧ k_ ≠ gb1401 ∧ k_ ≠ gb1402 ∧ k_ ≠ gb1415 ∧ k_ ≠ s_.2.2.2.2.2) (.slice A1_1 l1_1.length c1_1) l1_1) ∧ (Kd.V (Kd.int .u32) 48 w' w.heap.size (fun k_ => ((P0_1_ k_ ∨ P0_2_ k_ ∨ P1_1_ k_ ∨ P1_2_ k_) ∨ w.heap.size ≤ k_) ∧ some k_ ≠ (.slice Ao58 y1403.length co58 : Value).ownBlock ∧ some k_ ≠ (s_.1 : Value).ownBlock ∧ k_ ≠ gb1401 ∧ k_ ≠ gb1402 ∧ k_ ≠ gb1415 ∧ k_ ≠ s_.2.2.2.2.2) (.slice A1_2 l1_2.length c1_2) l1_2) ∧ (w'.heap[gb1401]? = some (.cells #[.bool a0_0, .slice A0_1 l0_1.length c0_1, .slice A0_2 l0_2.length c0_2] 67 (0, 0))) ∧ (w'.heap[gb1402]? = some (.cells #[.bool a1_0, .slice A1_1 l1_1.length c1_1, .slice A1_2 l1_2.length c1_2] 67 (0, 0))) ∧ (w'.heap[gb1415]? = some (.cells #[.bool t1407, .slice Ao66 t1408.length co66, .slice Ao67 t1411.length co67] 67 (0, 0))) ∧ (w'.heap[s_.2.2.2.2.2]? = some (.cells #[.bool false, .slice none 0 0, .slice none 0 0] 67 (0, 0))) ∧ (w.heap.size ≤ s_.2.2.2.2.2) ∧ (w.heap.size ≤ s_.2.2.2.2.2) ∧ (gb1401 ≠ s_.2.2.2.2.2) ∧ (s_.2.2.2.2.2 ≠ gb1401) ∧ (gb1402 ≠ s_.2.2.2.2.2) ∧ (s_.2.2.2.2.2 ≠ gb1402) ∧ (gb1415 ≠ s_.2.2.2.2.2) ∧ (s_.2.2.2.2.2 ≠ gb1415) ∧ (Below w.heap.size w w')) ?_ ?_
       rotate_left
       ·
        intro hCont
        refine two_ (i := 2) (j := 9) (Ni := some 31) (Nj := some 7) #[true, true, true, false, true, false, false, false, false, false, false, false] #[true, true, false, false, true, false, false, false, false, true, false, false] rfl rfl rfl rfl (two_of HT_.out (by kernel_rfl)) (by decide) (by decide) (fun K hK => ?_) (fun K hK => ?_)
        ·
         skip
         refine Kd.N_lit_step k67 _ 67 ?hg (N' := 31) ?hd (xs := ([(⟨a0_0, l0_1, l0_2⟩ : S67), (⟨a1_0, l1_1, l1_2⟩ : S67)] : List (S67))) (inner := [.bool a0_0, .slice A0_1 l0_1.length c0_1, .slice A0_2 l0_2.length c0_2, .bool a1_0, .slice A1_1 l1_1.length c1_1, .slice A1_2 l1_2.length c1_2]) (ok := (fun k_ => ((P0_1_ k_ ∨ P0_2_ k_ ∨ P1_1_ k_ ∨ P1_2_ k_) ∨ w.heap.size ≤ k_) ∧ some k_ ≠ (.slice Ao58 y1403.length co58 : Value).ownBlock ∧ k_ ≠ gb1401 ∧ k_ ≠ gb1402 ∧ k_ ≠ gb1415)) (okp := (fun k_ => ((P0_1_ k_ ∨ P0_2_ k_ ∨ P1_1_ k_ ∨ P1_2_ k_) ∨ w.heap.size ≤ k_) ∧ some k_ ≠ (.slice Ao58 y1403.length co58 : Value).ownBlock ∧ k_ ≠ gb1401 ∧ k_ ≠ gb1402 ∧ k_ ≠ gb1415)) ?hr ?hp (fun _ hk => hk) ((show ∀ k_, w70.heap.size ≤ k_ → (fun k_ => ((P0_1_ k_ ∨ P0_2_ k_ ∨ P1_1_ k_ ∨ P1_2_ k_) ∨ w.heap.size ≤ k_) ∧ some k_ ≠ (.slice Ao58 y1403.length co58 : Value).ownBlock ∧ k_ ≠ gb1401 ∧ k_ ≠ gb1402 ∧ k_ ≠ gb1415) k_ from fun k_ hk => ⟨(.inr (Nat.le_trans (below_size (bu3 HB.out GE1401.out GE1402.out GE1415.out)) hk)), Kd.fresh' (Kd.N_lt (nu HO1405.out)) k_ hk, Kd.freshB (g := gb1401) (o := .cells #[.bool a0_0, .slice A0_1 l0_1.length c0_1, .slice A0_2 l0_2.length c0_2] 67 (0, 0)) (ku BK1401.out) k_ hk, Kd.freshB (g := gb1402) (o := .cells #[.bool a1_0, .slice A1_1 l1_1.length c1_1, .slice A1_2 l1_2.length c1_2] 67 (0, 0)) (ku BK1402.out) k_ hk, Kd.freshB (g := gb1415) (o := .cells #[.bool t1407, .slice Ao66 t1408.length co66, .slice Ao67 t1411.length co67] 67 (0, 0)) (ku BK1415.out) k_ hk⟩) _ (Nat.le_refl _)) (Below.refl _ _) (Nat.le_refl _) (by simp) ?_; (case hd => rfl); (case hg => rfl); (case hr => first | (go_simp; done) | (go_simp; rfl)); (case hp => exact (Reps.c3 (show Kd.FK k67 _ _ (⟨a0_0, l0_1, l0_2⟩ : S67) [.bool a0_0, .slice A0_1 l0_1.length c0_1, .slice A0_2 l0_2.length c0_2] from (k67_mkF _ _ (⟨a0_0, l0_1, l0_2⟩ : S67) (Kd.V_reads' (vy ((fun k_ => ((P0_1_ k_ ∨ P0_2_ k_ ∨ P1_1_ k_ ∨ P1_2_ k_) ∨ w.heap.size ≤ k_) ∧ some k_ ≠ (.slice Ao58 y1403.length co58 : Value).ownBlock ∧ k_ ≠ gb1401 ∧ k_ ≠ gb1402 ∧ k_ ≠ gb1415)) HO0_1.out)).2.1 (Kd.V_F (vy ((fun k_ => ((P0_1_ k_ ∨ P0_2_ k_ ∨ P1_1_ k_ ∨ P1_2_ k_) ∨ w.heap.size ≤ k_) ∧ some k_ ≠ (.slice Ao58 y1403.length co58 : Value).ownBlock ∧ k_ ≠ gb1401 ∧ k_ ≠ gb1402 ∧ k_ ≠ gb1415)) HO0_1.out)) (Kd.V_reads' (vy ((fun k_ => ((P0_1_ k_ ∨ P0_2_ k_ ∨ P1_1_ k_ ∨ P1_2_ k_) ∨ w.heap.size ≤ k_) ∧ some k_ ≠ (.slice Ao58 y1403.length co58 : Value).ownBlock ∧ k_ ≠ gb1401 ∧ k_ ≠ gb1402 ∧ k_ ≠ gb1415)) HO0_2.out)).2.1 (Kd.V_F (vy ((fun k_ => ((P0_1_ k_ ∨ P0_2_ k_ ∨ P1_1_ k_ ∨ P1_2_ k_) ∨ w.heap.size ≤ k_) ∧ some k_ ≠ (.slice Ao58 y1403.length co58 : Value).ownBlock ∧ k_ ≠ gb1401 ∧ k_ ≠ gb1402 ∧ k_ ≠ gb1415)) HO0_2.out)))) (Reps.c3 (show Kd.FK k67 _ _ (⟨a1_0, l1_1, l1_2⟩ : S67) [.bool a1_0, .slice A1_1 l1_1.length c1_1, .slice A1_2 l1_2.length c1_2] from (k67_mkF _ _ (⟨a1_0, l1_1, l1_2⟩ : S67) (Kd.V_reads' (vy ((fun k_ => ((P0_1_ k_ ∨ P0_2_ k_ ∨ P1_1_ k_ ∨ P1_2_ k_) ∨ w.heap.size ≤ k_) ∧ some k_ ≠ (.slice Ao58 y1403.length co58 : Value).ownBlock ∧ k_ ≠ gb1401 ∧ k_ ≠ gb1402 ∧ k_ ≠ gb1415)) HO1_1.out)).2.1 (Kd.V_F (vy ((fun k_ => ((P0_1_ k_ ∨ P0_2_ k_ ∨ P1_1_ k_ ∨ P1_2_ k_) ∨ w.heap.size ≤ k_) ∧ some k_ ≠ (.slice Ao58 y1403.length co58 : Value).ownBlock ∧ k_ ≠ gb1401 ∧ k_ ≠ gb1402 ∧ k_ ≠ gb1415)) HO1_1.out)) (Kd.V_reads' (vy ((fun k_ => ((P0_1_ k_ ∨ P0_2_ k_ ∨ P1_1_ k_ ∨ P1_2_ k_) ∨ w.heap.size ≤ k_) ∧ some k_ ≠ (.slice Ao58 y1403.length co58 : Value).ownBlock ∧ k_ ≠ gb1401 ∧ k_ ≠ gb1402 ∧ k_ ≠ gb1415)) HO1_2.out)).2.1 (Kd.V_F (vy ((fun k_ => ((P0_1_ k_ ∨ P0_2_ k_ ∨ P1_1_ k_ ∨ P1_2_ k_) ∨ w.heap.size ≤ k_) ∧ some k_ ≠ (.slice Ao58 y1403.length co58 : Value).ownBlock ∧ k_ ≠ gb1401 ∧ k_ ≠ gb1402 ∧ k_ ≠ gb1415)) HO1_2.out)))) (Reps.none _ _))))
         intro v1419 w71 ho72 hb hg_ hnew_
         clear hg_ hnew_
         (first | rw [← Ny1418.out] at ho72 | (simp only [Int.reduceToNat] at ho72; rw [← Ny1418.out] at ho72))
         replace HO0_1 := Aside0.mk (Kd.V_elder' (vu HO0_1.out) (Kd.N_base ho72) hb)
         replace HO0_2 := Aside0.mk (Kd.V_elder' (vu HO0_2.out) (Kd.N_base ho72) hb)
         replace HO1_1 := Aside0.mk (Kd.V_elder' (vu HO1_1.out) (Kd.N_base ho72) hb)
         replace HO1_2 := Aside0.mk (Kd.V_elder' (vu HO1_2.out) (Kd.N_base ho72) hb)
         replace HO1405 := Aside0.mk (Kd.N_elder' (nu HO1405.out) (Kd.N_base ho72) hb)
         replace HO1410 := Aside0.mk (Kd.V_elder' (vu HO1410.out) (Kd.N_base ho72) hb)
         replace HO1413 := Aside0.mk (Kd.V_elder' (vu HO1413.out) (Kd.N_base ho72) hb)
         have HO1420 := Aside0.mk (Kd.N_lower ho72 (below_size (bu3 HB.out GE1401.out GE1402.out GE1415.out)))
         replace BK1401 := kb BK1401 hb
         replace BK1402 := kb BK1402 hb
         replace BK1415 := kb BK1415 hb
         replace HB := Aside0.mk (below_step (bu3 HB.out GE1401.out GE1402.out GE1415.out) hb)
         clear hb ho72
         obtain ⟨Ao73, co73, eo73⟩ := Kd.N_slice HO1420.out
         (first | subst eo73 | (injection eo73 with f1_ f2_ f3_; have f4_ := f1_.symm; have f5_ := f3_.symm; clear f1_ f2_ f3_; subst f4_; subst f5_))
         refine hK.out _ _ ⟨bc BK1401 0, bc BK1401 1, bc BK1401 2, bc BK1402 0, bc BK1402 1, bc BK1402 2⟩ (fun hHeld => ?_)
         clear hK K
         refine nq 31 ?_
         refine two_ (i := 3) (j := 9) (Ni := some 32) (Nj := some 7) #[true, true, true, true, true, false, false, false, false, false, false, false] #[true, true, true, false, true, false, false, false, false, true, false, false] rfl rfl rfl rfl (two_of HT_.out (by kernel_rfl)) (by decide) (by decide) (fun K hK => ?_) (fun K hK => ?_)
         ·
          skip
          refine goes_ Try.func95 (by kernel_rfl) rfl #[.slice Ao73 y1418.length co73] (by rfl) rfl rfl lu ?_
          with_reducible refine (rational_Mul.calls k (fun k_ => (((P0_1_ k_ ∨ P0_2_ k_ ∨ P1_1_ k_ ∨ P1_2_ k_) ∨ w.heap.size ≤ k_) ∧ (some k_ ≠ (.slice Ao58 y1403.length co58 : Value).ownBlock ∧ (k_ ≠ gb1401 ∧ (k_ ≠ gb1402 ∧ k_ ≠ gb1415))))) _ _ y1418 t1421 t1422 t1425 _ ?side1 A39.out).mono ?_
          (case side1 => exact Kd.N_V (HO1420.out))
          rintro e w74 ⟨v1423, v1426, rfl, ho0, ho1, hb⟩
          refine ⟨_, rfl, ?_⟩
          replace HO0_1 := kv HO0_1 hb
          replace HO0_2 := kv HO0_2 hb
          replace HO1_1 := kv HO1_1 hb
          replace HO1_2 := kv HO1_2 hb
          replace HO1410 := kv HO1410 hb
          replace HO1413 := kv HO1413 hb
          replace HO1420 := Aside0.mk (Kd.N_below (nu HO1420.out) hb)
          have HO1424 := Aside0.mk (Kd.V_lower (Kd.V_mono (ok' := fun k_ => ((P0_1_ k_ ∨ P0_2_ k_ ∨ P1_1_ k_ ∨ P1_2_ k_) ∨ w.heap.size ≤ k_) ∧ some k_ ≠ (.slice Ao58 y1403.length co58 : Value).ownBlock ∧ k_ ≠ gb1401 ∧ k_ ≠ gb1402 ∧ k_ ≠ gb1415) ho0 (fun k_ hk_ => ⟨Or.elim hk_ (fun hs_ => hs_.1) (fun hn_ => (.inr (Nat.le_trans (below_size (bu3 HB.out GE1401.out GE1402.out GE1415.out)) hn_))), Or.elim hk_ (fun hs_ => hs_.2.1) (fun hn_ => (Kd.fresh' (Kd.N_lt (nu HO1405.out)) k_ hn_)), Or.elim hk_ (fun hs_ => hs_.2.2.1) (fun hn_ => (Kd.freshB (g := gb1401) (o := .cells #[.bool a0_0, .slice A0_1 l0_1.length c0_1, .slice A0_2 l0_2.length c0_2] 67 (0, 0)) (ku BK1401.out) k_ hn_)), Or.elim hk_ (fun hs_ => hs_.2.2.2.1) (fun hn_ => (Kd.freshB (g := gb1402) (o := .cells #[.bool a1_0, .slice A1_1 l1_1.length c1_1, .slice A1_2 l1_2.length c1_2] 67 (0, 0)) (ku BK1402.out) k_ hn_)), Or.elim hk_ (fun hs_ => hs_.2.2.2.2) (fun hn_ => (Kd.freshB (g := gb1415) (o := .cells #[.bool t1407, .slice Ao66 t1408.length co66, .slice Ao67 t1411.length co67] 67 (0, 0)) (ku BK1415.out) k_ hn_))⟩)) (below_size (bu3 HB.out GE1401.out GE1402.out GE1415.out)))
          have HO1427 := Aside0.mk (Kd.V_lower (Kd.V_mono (ok' := fun k_ => ((P0_1_ k_ ∨ P0_2_ k_ ∨ P1_1_ k_ ∨ P1_2_ k_) ∨ w.heap.size ≤ k_) ∧ some k_ ≠ (.slice Ao58 y1403.length co58 : Value).ownBlock ∧ k_ ≠ gb1401 ∧ k_ ≠ gb1402 ∧ k_ ≠ gb1415) ho1 (fun k_ hk_ => ⟨Or.elim hk_ (fun hs_ => hs_.1) (fun hn_ => (.inr (Nat.le_trans (below_size (bu3 HB.out GE1401.out GE1402.out GE1415.out)) hn_))), Or.elim hk_ (fun hs_ => hs_.2.1) (fun hn_ => (Kd.fresh' (Kd.N_lt (nu HO1405.out)) k_ hn_)), Or.elim hk_ (fun hs_ => hs_.2.2.1) (fun hn_ => (Kd.freshB (g := gb1401) (o := .cells #[.bool a0_0, .slice A0_1 l0_1.length c0_1, .slice A0_2 l0_2.length c0_2] 67 (0, 0)) (ku BK1401.out) k_ hn_)), Or.elim hk_ (fun hs_ => hs_.2.2.2.1) (fun hn_ => (Kd.freshB (g := gb1402) (o := .cells #[.bool a1_0, .slice A1_1 l1_1.length c1_1, .slice A1_2 l1_2.length c1_2] 67 (0, 0)) (ku BK1402.out) k_ hn_)), Or.elim hk_ (fun hs_ => hs_.2.2.2.2) (fun hn_ => (Kd.freshB (g := gb1415) (o := .cells #[.bool t1407, .slice Ao66 t1408.length co66, .slice Ao67 t1411.length co67] 67 (0, 0)) (ku BK1415.out) k_ hn_))⟩)) (below_size (bu3 HB.out GE1401.out GE1402.out GE1415.out)))
          replace HO1405 := Aside0.mk (Kd.N_below (nu HO1405.out) hb)
          replace BK1401 := kb BK1401 hb
          replace BK1402 := kb BK1402 hb
          replace BK1415 := kb BK1415 hb
          replace HB := Aside0.mk (below_step (bu3 HB.out GE1401.out GE1402.out GE1415.out) hb)
          (try clear hb)
          (try clear hb2)
          (try clear hk)
          (try clear hi)
          (try clear ho0)
          (try clear ho1)
          obtain ⟨Ao75, co75, eo75⟩ := Kd.V_slice HO1424.out
          (first | subst eo75 | (injection eo75 with f1_ f2_ f3_; have f4_ := f1_.symm; have f5_ := f3_.symm; clear f1_ f2_ f3_; subst f4_; subst f5_))
          obtain ⟨Ao76, co76, eo76⟩ := Kd.V_slice HO1427.out
          (first | subst eo76 | (injection eo76 with f1_ f2_ f3_; have f4_ := f1_.symm; have f5_ := f3_.symm; clear f1_ f2_ f3_; subst f4_; subst f5_))
          refine hK.out _ _ ⟨bc BK1401 0, bc BK1401 1, bc BK1401 2, bc BK1402 0, bc BK1402 1, bc BK1402 2⟩ (fun hHeld => ?_)
          clear hK K
          refine nq 32 ?_
          refine two_ (i := 5) (j := 9) (Ni := some 34) (Nj := some 7) #[true, true, true, true, true, true, false, false, false, false, false, false] #[true, true, true, true, true, false, false, false, false, true, false, false] rfl rfl rfl rfl (two_of HT_.out (by kernel_rfl)) (by decide) (by decide) (fun K hK => ?_) (fun K hK => ?_)
          ·
           skip
           refine goes_ Try.func94 (by kernel_rfl) rfl #[.agg #[.bool t1421, .slice Ao75 t1422.length co75, .slice Ao76 t1425.length co76], .agg #[.bool a1_0, .slice A1_1 l1_1.length c1_1, .slice A1_2 l1_2.length c1_2]] (by rfl) rfl rfl lu ?_
           with_reducible refine (rational_Div.calls k t1421 (fun k_ => (((P0_1_ k_ ∨ P0_2_ k_ ∨ P1_1_ k_ ∨ P1_2_ k_) ∨ w.heap.size ≤ k_) ∧ (some k_ ≠ (.slice Ao58 y1403.length co58 : Value).ownBlock ∧ (k_ ≠ gb1401 ∧ (k_ ≠ gb1402 ∧ k_ ≠ gb1415))))) _ _ t1422 (fun k_ => (((P0_1_ k_ ∨ P0_2_ k_ ∨ P1_1_ k_ ∨ P1_2_ k_) ∨ w.heap.size ≤ k_) ∧ (some k_ ≠ (.slice Ao58 y1403.length co58 : Value).ownBlock ∧ (k_ ≠ gb1401 ∧ (k_ ≠ gb1402 ∧ k_ ≠ gb1415))))) _ _ t1425 a1_0 (fun k_ => (((((((P0_1_ k_ ∨ P0_2_ k_ ∨ P1_1_ k_ ∨ P1_2_ k_) ∨ w.heap.size ≤ k_) ∧ k_ ≠ gb1401) ∧ k_ ≠ gb1402) ∧ some k_ ≠ (.slice Ao58 y1403.length co58 : Value).ownBlock) ∧ k_ ≠ gb1415) ∧ some k_ ≠ (.slice Ao73 y1418.length co73 : Value).ownBlock)) _ _ l1_1 (fun k_ => (((((((P0_1_ k_ ∨ P0_2_ k_ ∨ P1_1_ k_ ∨ P1_2_ k_) ∨ w.heap.size ≤ k_) ∧ k_ ≠ gb1401) ∧ k_ ≠ gb1402) ∧ some k_ ≠ (.slice Ao58 y1403.length co58 : Value).ownBlock) ∧ k_ ≠ gb1415) ∧ some k_ ≠ (.slice Ao73 y1418.length co73 : Value).ownBlock)) _ _ l1_2 t1428 t1429 t1432 t1435 _ ?side1 ?side2 ?side3 ?side4 A40.out).mono ?_
           (case side1 => first | exact HO1424.out | exact vz HO1424.out)
           (case side2 => first | exact HO1427.out | exact vz HO1427.out)
           (case side3 => first | exact HO1_1.out | exact vz HO1_1.out)
           (case side4 => first | exact HO1_2.out | exact vz HO1_2.out)
           rintro e w77 ⟨v1430, v1433, rfl, ho0, ho1, hb⟩
           refine ⟨_, rfl, ?_⟩
           replace HO0_1 := kv HO0_1 hb
           replace HO0_2 := kv HO0_2 hb
           replace HO1_1 := kv HO1_1 hb
           replace HO1_2 := kv HO1_2 hb
           replace HO1410 := kv HO1410 hb
           replace HO1413 := kv HO1413 hb
           replace HO1420 := Aside0.mk (Kd.N_below (nu HO1420.out) hb)
           replace HO1424 := kv HO1424 hb
           replace HO1427 := kv HO1427 hb
           have HO1431 := Aside0.mk (Kd.V_lower (Kd.V_mono (ok' := fun k_ => ((P0_1_ k_ ∨ P0_2_ k_ ∨ P1_1_ k_ ∨ P1_2_ k_) ∨ w.heap.size ≤ k_) ∧ some k_ ≠ (.slice Ao58 y1403.length co58 : Value).ownBlock ∧ k_ ≠ gb1401 ∧ k_ ≠ gb1402 ∧ k_ ≠ gb1415) ho0 (fun k_ hk_ => ⟨Or.elim hk_ (fun hs_ => Or.elim hs_ (fun hs_ => hs_.1) (fun hs_ => Or.elim hs_ (fun hs_ => hs_.1) (fun hs_ => Or.elim hs_ (fun hs_ => hs_.1.1.1.1.1) (fun hs_ => hs_.1.1.1.1.1)))) (fun hn_ => (.inr (Nat.le_trans (below_size (bu3 HB.out GE1401.out GE1402.out GE1415.out)) hn_))), Or.elim hk_ (fun hs_ => Or.elim hs_ (fun hs_ => hs_.2.1) (fun hs_ => Or.elim hs_ (fun hs_ => hs_.2.1) (fun hs_ => Or.elim hs_ (fun hs_ => hs_.1.1.2) (fun hs_ => hs_.1.1.2)))) (fun hn_ => (Kd.fresh' (Kd.N_lt (nu HO1405.out)) k_ hn_)), Or.elim hk_ (fun hs_ => Or.elim hs_ (fun hs_ => hs_.2.2.1) (fun hs_ => Or.elim hs_ (fun hs_ => hs_.2.2.1) (fun hs_ => Or.elim hs_ (fun hs_ => hs_.1.1.1.1.2) (fun hs_ => hs_.1.1.1.1.2)))) (fun hn_ => (Kd.freshB (g := gb1401) (o := .cells #[.bool a0_0, .slice A0_1 l0_1.length c0_1, .slice A0_2 l0_2.length c0_2] 67 (0, 0)) (ku BK1401.out) k_ hn_)), Or.elim hk_ (fun hs_ => Or.elim hs_ (fun hs_ => hs_.2.2.2.1) (fun hs_ => Or.elim hs_ (fun hs_ => hs_.2.2.2.1) (fun hs_ => Or.elim hs_ (fun hs_ => hs_.1.1.1.2) (fun hs_ => hs_.1.1.1.2)))) (fun hn_ => (Kd.freshB (g := gb1402) (o := .cells #[.bool a1_0, .slice A1_1 l1_1.length c1_1, .slice A1_2 l1_2.length c1_2] 67 (0, 0)) (ku BK1402.out) k_ hn_)), Or.elim hk_ (fun hs_ => Or.elim hs_ (fun hs_ => hs_.2.2.2.2) (fun hs_ => Or.elim hs_ (fun hs_ => hs_.2.2.2.2) (fun hs_ => Or.elim hs_ (fun hs_ => hs_.1.2) (fun hs_ => hs_.1.2)))) (fun hn_ => (Kd.freshB (g := gb1415) (o := .cells #[.bool t1407, .slice Ao66 t1408.length co66, .slice Ao67 t1411.length co67] 67 (0, 0)) (ku BK1415.out) k_ hn_))⟩)) (below_size (bu3 HB.out GE1401.out GE1402.out GE1415.out)))
           have HO1434 := Aside0.mk (Kd.V_lower (Kd.V_mono (ok' := fun k_ => ((P0_1_ k_ ∨ P0_2_ k_ ∨ P1_1_ k_ ∨ P1_2_ k_) ∨ w.heap.size ≤ k_) ∧ some k_ ≠ (.slice Ao58 y1403.length co58 : Value).ownBlock ∧ k_ ≠ gb1401 ∧ k_ ≠ gb1402 ∧ k_ ≠ gb1415) ho1 (fun k_ hk_ => ⟨Or.elim hk_ (fun hs_ => Or.elim hs_ (fun hs_ => hs_.1) (fun hs_ => Or.elim hs_ (fun hs_ => hs_.1) (fun hs_ => Or.elim hs_ (fun hs_ => hs_.1.1.1.1.1) (fun hs_ => hs_.1.1.1.1.1)))) (fun hn_ => (.inr (Nat.le_trans (below_size (bu3 HB.out GE1401.out GE1402.out GE1415.out)) hn_))), Or.elim hk_ (fun hs_ => Or.elim hs_ (fun hs_ => hs_.2.1) (fun hs_ => Or.elim hs_ (fun hs_ => hs_.2.1) (fun hs_ => Or.elim hs_ (fun hs_ => hs_.1.1.2) (fun hs_ => hs_.1.1.2)))) (fun hn_ => (Kd.fresh' (Kd.N_lt (nu HO1405.out)) k_ hn_)), Or.elim hk_ (fun hs_ => Or.elim hs_ (fun hs_ => hs_.2.2.1) (fun hs_ => Or.elim hs_ (fun hs_ => hs_.2.2.1) (fun hs_ => Or.elim hs_ (fun hs_ => hs_.1.1.1.1.2) (fun hs_ => hs_.1.1.1.1.2)))) (fun hn_ => (Kd.freshB (g := gb1401) (o := .cells #[.bool a0_0, .slice A0_1 l0_1.length c0_1, .slice A0_2 l0_2.length c0_2] 67 (0, 0)) (ku BK1401.out) k_ hn_)), Or.elim hk_ (fun hs_ => Or.elim hs_ (fun hs_ => hs_.2.2.2.1) (fun hs_ => Or.elim hs_ (fun hs_ => hs_.2.2.2.1) (fun hs_ => Or.elim hs_ (fun hs_ => hs_.1.1.1.2) (fun hs_ => hs_.1.1.1.2)))) (fun hn_ => (Kd.freshB (g := gb1402) (o := .cells #[.bool a1_0, .slice A1_1 l1_1.length c1_1, .slice A1_2 l1_2.length c1_2] 67 (0, 0)) (ku BK1402.out) k_ hn_)), Or.elim hk_ (fun hs_ => Or.elim hs_ (fun hs_ => hs_.2.2.2.2) (fun hs_ => Or.elim hs_ (fun hs_ => hs_.2.2.2.2) (fun hs_ => Or.elim hs_ (fun hs_ => hs_.1.2) (fun hs_ => hs_.1.2)))) (fun hn_ => (Kd.freshB (g := gb1415) (o := .cells #[.bool t1407, .slice Ao66 t1408.length co66, .slice Ao67 t1411.length co67] 67 (0, 0)) (ku BK1415.out) k_ hn_))⟩)) (below_size (bu3 HB.out GE1401.out GE1402.out GE1415.out)))
           replace HO1405 := Aside0.mk (Kd.N_below (nu HO1405.out) hb)
           replace BK1401 := kb BK1401 hb
           replace BK1402 := kb BK1402 hb
           replace BK1415 := kb BK1415 hb
           replace HB := Aside0.mk (below_step (bu3 HB.out GE1401.out GE1402.out GE1415.out) hb)
           (try clear hb)
           (try clear hb2)
           (try clear hk)
           (try clear hi)
           (try clear ho0)
           (try clear ho1)
           refine hK.out _ _ ⟨bc BK1401 0, bc BK1401 1, bc BK1401 2, bc BK1402 0, bc BK1402 1, bc BK1402 2⟩ (fun hHeld => ?_)
           clear hK K
           refine nq 34 ?_
           refine pq 6 (some 28) #[true, true, true, true, true, true, true, false, false, false, false, false] HT_ ?_
           refine pq 7 (some 35) #[true, true, true, true, true, true, true, true, false, false, false, false] HT_ ?_
           refine pq 8 (some 36) #[true, true, true, true, true, true, true, true, true, false, false, false] HT_ ?_
           refine one_ (i := 9) (N := some 7) #[true, true, true, true, true, true, true, true, true, true, false, false] rfl rfl (one_of HT_.out (by kernel_rfl)) (by decide) (fun K hK => ?_)
           refine box_step ?hg (N := 7) ?hd (cs := #[.bool false, .slice none 0 0, .slice none 0 0]) (t := 67) ?hr ?_; (case hd => rfl); (case hg => rfl); (case hr => first | (go_simp; done) | (go_simp; rfl))
           intro gb1436 hg w78 hbox hb
           replace HO0_1 := ke HO0_1 hg hb
           replace HO0_2 := ke HO0_2 hg hb
           replace HO1_1 := ke HO1_1 hg hb
           replace HO1_2 := ke HO1_2 hg hb
           replace HO1405 := Aside0.mk (Kd.N_below (Kd.N_elderB (nu HO1405.out) gb1436 (Nat.le_of_eq hg.symm)) hb)
           replace HO1410 := ke HO1410 hg hb
           replace HO1413 := ke HO1413 hg hb
           replace HO1420 := Aside0.mk (Kd.N_below (Kd.N_elderB (nu HO1420.out) gb1436 (Nat.le_of_eq hg.symm)) hb)
           replace HO1424 := ke HO1424 hg hb
           replace HO1427 := ke HO1427 hg hb
           replace HO1431 := ke HO1431 hg hb
           replace HO1434 := ke HO1434 hg hb
           have BK1436 := Aside0.mk (hbox)
           have GW1436 := ng hg (bu3 HB.out GE1401.out GE1402.out GE1415.out)
           have GE1436 := ng hg (bu3 HB.out GE1401.out GE1402.out GE1415.out)
           replace HB := Aside0.mk (below_step (bu3 HB.out GE1401.out GE1402.out GE1415.out) hb)
           have NB1401_1436 := nl hg BK1401
           have NB1436_1401 := nr hg BK1401
           replace BK1401 := kb BK1401 hb
           have NB1402_1436 := nl hg BK1402
           have NB1436_1402 := nr hg BK1402
           replace BK1402 := kb BK1402 hb
           have NB1415_1436 := nl hg BK1415
           have NB1436_1415 := nr hg BK1415
           replace BK1415 := kb BK1415 hb
           clear hb hbox hg
           refine hK.out _ _ ⟨bc BK1401 0, bc BK1401 1, bc BK1401 2, bc BK1402 0, bc BK1402 1, bc BK1402 2⟩ (fun hHeld => ?_)
           clear hK K
           refine nq 7 ?_
           exact norm_ (by simp only [putAll, Act.put, List.setIfInBounds_toArray, List.set_cons_zero, List.set_cons_succ]) (hCont (.slice Ao73 y1418.length co73, .slice Ao75 t1422.length co75, .slice Ao76 t1425.length co76, v1430, v1433, gb1436) _ ⟨hHeld, (vz HO0_1.out), (vz HO0_2.out), (by (with_reducible repeat (first | apply Kd.N_alloc | apply Kd.N_drewN | apply Kd.N_drew)); exact Kd.N_mono HO1405.out (fun _ hk => ⟨hk.1.1.1.1, ⟨hk.1.2, ⟨hk.1.1.1.2.1, ⟨hk.1.1.1.2.2, ⟨hk.1.1.2, hk.2⟩⟩⟩⟩⟩)), (vz HO1410.out), (vz HO1413.out), (by (with_reducible repeat (first | apply Kd.N_alloc | apply Kd.N_drewN | apply Kd.N_drew)); exact Kd.N_mono HO1420.out (fun _ hk => ⟨hk.1.1, ⟨hk.1.2.1, ⟨hk.1.2.2.1, ⟨hk.1.2.2.2.1, ⟨hk.1.2.2.2.2, hk.2⟩⟩⟩⟩⟩)), (vz HO1424.out), (vz HO1427.out), (vz HO1431.out), (vz HO1434.out), (vz HO1_1.out), (vz HO1_2.out), (ku BK1401.out), (ku BK1402.out), (ku BK1415.out), (ku BK1436.out), GW1436.out, GE1436.out, NB1401_1436.out, NB1436_1401.out, NB1402_1436.out, NB1436_1402.out, NB1415_1436.out, NB1436_1415.out, (bu4 HB.out GE1401.out GE1402.out GE1415.out GE1436.out)⟩)
          ·
           skip
           refine box_step ?hg (N := 7) ?hd (cs := #[.bool false, .slice none 0 0, .slice none 0 0]) (t := 67) ?hr ?_; (case hd => rfl); (case hg => rfl); (case hr => first | (go_simp; done) | (go_simp; rfl))
           intro gb1436 hg w75 hbox hb
           replace HO0_1 := ke HO0_1 hg hb
           replace HO0_2 := ke HO0_2 hg hb
           replace HO1_1 := ke HO1_1 hg hb
           replace HO1_2 := ke HO1_2 hg hb
           replace HO1405 := Aside0.mk (Kd.N_below (Kd.N_elderB (nu HO1405.out) gb1436 (Nat.le_of_eq hg.symm)) hb)
           replace HO1410 := ke HO1410 hg hb
           replace HO1413 := ke HO1413 hg hb
           replace HO1420 := Aside0.mk (Kd.N_below (Kd.N_elderB (nu HO1420.out) gb1436 (Nat.le_of_eq hg.symm)) hb)
           replace HO1424 := ke HO1424 hg hb
           replace HO1427 := ke HO1427 hg hb
           have BK1436 := Aside0.mk (hbox)
           have GW1436 := ng hg (bu3 HB.out GE1401.out GE1402.out GE1415.out)
           have GE1436 := ng hg (bu3 HB.out GE1401.out GE1402.out GE1415.out)
           replace HB := Aside0.mk (below_step (bu3 HB.out GE1401.out GE1402.out GE1415.out) hb)
           have NB1401_1436 := nl hg BK1401
           have NB1436_1401 := nr hg BK1401
           replace BK1401 := kb BK1401 hb
           have NB1402_1436 := nl hg BK1402
           have NB1436_1402 := nr hg BK1402
           replace BK1402 := kb BK1402 hb
           have NB1415_1436 := nl hg BK1415
           have NB1436_1415 := nr hg BK1415
           replace BK1415 := kb BK1415 hb
           clear hb hbox hg
           obtain ⟨Ao76, co76, eo76⟩ := Kd.V_slice HO1424.out
           (first | subst eo76 | (injection eo76 with f1_ f2_ f3_; have f4_ := f1_.symm; have f5_ := f3_.symm; clear f1_ f2_ f3_; subst f4_; subst f5_))
           obtain ⟨Ao77, co77, eo77⟩ := Kd.V_slice HO1427.out
           (first | subst eo77 | (injection eo77 with f1_ f2_ f3_; have f4_ := f1_.symm; have f5_ := f3_.symm; clear f1_ f2_ f3_; subst f4_; subst f5_))
           refine hK.out _ _ ⟨bc BK1401 0, bc BK1401 1, bc BK1401 2, bc BK1402 0, bc BK1402 1, bc BK1402 2⟩ (fun hHeld => ?_)
           clear hK K
           refine nq 7 ?_
           refine one_ (i := 5) (N := some 34) #[true, true, true, true, true, true, false, false, false, true, false, false] rfl rfl (one_of HT_.out (by kernel_rfl)) (by decide) (fun K hK => ?_)
           refine goes_ Try.func94 (by kernel_rfl) rfl #[.agg #[.bool t1421, .slice Ao76 t1422.length co76, .slice Ao77 t1425.length co77], .agg #[.bool a1_0, .slice A1_1 l1_1.length c1_1, .slice A1_2 l1_2.length c1_2]] (by rfl) rfl rfl lu ?_
           with_reducible refine (rational_Div.calls k t1421 (fun k_ => ((((P0_1_ k_ ∨ P0_2_ k_ ∨ P1_1_ k_ ∨ P1_2_ k_) ∨ w.heap.size ≤ k_) ∧ (some k_ ≠ (.slice Ao58 y1403.length co58 : Value).ownBlock ∧ (k_ ≠ gb1401 ∧ (k_ ≠ gb1402 ∧ k_ ≠ gb1415)))) ∧ k_ ≠ gb1436)) _ _ t1422 (fun k_ => ((((P0_1_ k_ ∨ P0_2_ k_ ∨ P1_1_ k_ ∨ P1_2_ k_) ∨ w.heap.size ≤ k_) ∧ (some k_ ≠ (.slice Ao58 y1403.length co58 : Value).ownBlock ∧ (k_ ≠ gb1401 ∧ (k_ ≠ gb1402 ∧ k_ ≠ gb1415)))) ∧ k_ ≠ gb1436)) _ _ t1425 a1_0 (fun k_ => ((((((((P0_1_ k_ ∨ P0_2_ k_ ∨ P1_1_ k_ ∨ P1_2_ k_) ∨ w.heap.size ≤ k_) ∧ k_ ≠ gb1401) ∧ k_ ≠ gb1402) ∧ some k_ ≠ (.slice Ao58 y1403.length co58 : Value).ownBlock) ∧ k_ ≠ gb1415) ∧ some k_ ≠ (.slice Ao73 y1418.length co73 : Value).ownBlock) ∧ k_ ≠ gb1436)) _ _ l1_1 (fun k_ => ((((((((P0_1_ k_ ∨ P0_2_ k_ ∨ P1_1_ k_ ∨ P1_2_ k_) ∨ w.heap.size ≤ k_) ∧ k_ ≠ gb1401) ∧ k_ ≠ gb1402) ∧ some k_ ≠ (.slice Ao58 y1403.length co58 : Value).ownBlock) ∧ k_ ≠ gb1415) ∧ some k_ ≠ (.slice Ao73 y1418.length co73 : Value).ownBlock) ∧ k_ ≠ gb1436)) _ _ l1_2 t1428 t1429 t1432 t1435 _ ?side1 ?side2 ?side3 ?side4 A40.out).mono ?_
           (case side1 => first | exact HO1424.out | exact vz HO1424.out)
           (case side2 => first | exact HO1427.out | exact vz HO1427.out)
           (case side3 => first | exact HO1_1.out | exact vz HO1_1.out)
           (case side4 => first | exact HO1_2.out | exact vz HO1_2.out)
           rintro e w78 ⟨v1430, v1433, rfl, ho0, ho1, hb⟩
           refine ⟨_, rfl, ?_⟩
           replace HO0_1 := kv HO0_1 hb
           replace HO0_2 := kv HO0_2 hb
           replace HO1_1 := kv HO1_1 hb
           replace HO1_2 := kv HO1_2 hb
           replace HO1410 := kv HO1410 hb
           replace HO1413 := kv HO1413 hb
           replace HO1420 := Aside0.mk (Kd.N_below (nu HO1420.out) hb)
           replace HO1424 := kv HO1424 hb
           replace HO1427 := kv HO1427 hb
           have HO1431 := Aside0.mk (Kd.V_lower (Kd.V_mono (ok' := fun k_ => ((P0_1_ k_ ∨ P0_2_ k_ ∨ P1_1_ k_ ∨ P1_2_ k_) ∨ w.heap.size ≤ k_) ∧ some k_ ≠ (.slice Ao58 y1403.length co58 : Value).ownBlock ∧ k_ ≠ gb1401 ∧ k_ ≠ gb1402 ∧ k_ ≠ gb1415 ∧ k_ ≠ gb1436) ho0 (fun k_ hk_ => ⟨Or.elim hk_ (fun hs_ => Or.elim hs_ (fun hs_ => hs_.1.1) (fun hs_ => Or.elim hs_ (fun hs_ => hs_.1.1) (fun hs_ => Or.elim hs_ (fun hs_ => hs_.1.1.1.1.1.1) (fun hs_ => hs_.1.1.1.1.1.1)))) (fun hn_ => (.inr (Nat.le_trans (below_size (bu4 HB.out GE1401.out GE1402.out GE1415.out GE1436.out)) hn_))), Or.elim hk_ (fun hs_ => Or.elim hs_ (fun hs_ => hs_.1.2.1) (fun hs_ => Or.elim hs_ (fun hs_ => hs_.1.2.1) (fun hs_ => Or.elim hs_ (fun hs_ => hs_.1.1.1.2) (fun hs_ => hs_.1.1.1.2)))) (fun hn_ => (Kd.fresh' (Kd.N_lt (nu HO1405.out)) k_ hn_)), Or.elim hk_ (fun hs_ => Or.elim hs_ (fun hs_ => hs_.1.2.2.1) (fun hs_ => Or.elim hs_ (fun hs_ => hs_.1.2.2.1) (fun hs_ => Or.elim hs_ (fun hs_ => hs_.1.1.1.1.1.2) (fun hs_ => hs_.1.1.1.1.1.2)))) (fun hn_ => (Kd.freshB (g := gb1401) (o := .cells #[.bool a0_0, .slice A0_1 l0_1.length c0_1, .slice A0_2 l0_2.length c0_2] 67 (0, 0)) (ku BK1401.out) k_ hn_)), Or.elim hk_ (fun hs_ => Or.elim hs_ (fun hs_ => hs_.1.2.2.2.1) (fun hs_ => Or.elim hs_ (fun hs_ => hs_.1.2.2.2.1) (fun hs_ => Or.elim hs_ (fun hs_ => hs_.1.1.1.1.2) (fun hs_ => hs_.1.1.1.1.2)))) (fun hn_ => (Kd.freshB (g := gb1402) (o := .cells #[.bool a1_0, .slice A1_1 l1_1.length c1_1, .slice A1_2 l1_2.length c1_2] 67 (0, 0)) (ku BK1402.out) k_ hn_)), Or.elim hk_ (fun hs_ => Or.elim hs_ (fun hs_ => hs_.1.2.2.2.2) (fun hs_ => Or.elim hs_ (fun hs_ => hs_.1.2.2.2.2) (fun hs_ => Or.elim hs_ (fun hs_ => hs_.1.1.2) (fun hs_ => hs_.1.1.2)))) (fun hn_ => (Kd.freshB (g := gb1415) (o := .cells #[.bool t1407, .slice Ao66 t1408.length co66, .slice Ao67 t1411.length co67] 67 (0, 0)) (ku BK1415.out) k_ hn_)), Or.elim hk_ (fun hs_ => Or.elim hs_ (fun hs_ => hs_.2) (fun hs_ => Or.elim hs_ (fun hs_ => hs_.2) (fun hs_ => Or.elim hs_ (fun hs_ => hs_.2) (fun hs_ => hs_.2)))) (fun hn_ => (Kd.freshB (g := gb1436) (o := .cells #[.bool false, .slice none 0 0, .slice none 0 0] 67 (0, 0)) (ku BK1436.out) k_ hn_))⟩)) (below_size (bu4 HB.out GE1401.out GE1402.out GE1415.out GE1436.out)))
           have HO1434 := Aside0.mk (Kd.V_lower (Kd.V_mono (ok' := fun k_ => ((P0_1_ k_ ∨ P0_2_ k_ ∨ P1_1_ k_ ∨ P1_2_ k_) ∨ w.heap.size ≤ k_) ∧ some k_ ≠ (.slice Ao58 y1403.length co58 : Value).ownBlock ∧ k_ ≠ gb1401 ∧ k_ ≠ gb1402 ∧ k_ ≠ gb1415 ∧ k_ ≠ gb1436) ho1 (fun k_ hk_ => ⟨Or.elim hk_ (fun hs_ => Or.elim hs_ (fun hs_ => hs_.1.1) (fun hs_ => Or.elim hs_ (fun hs_ => hs_.1.1) (fun hs_ => Or.elim hs_ (fun hs_ => hs_.1.1.1.1.1.1) (fun hs_ => hs_.1.1.1.1.1.1)))) (fun hn_ => (.inr (Nat.le_trans (below_size (bu4 HB.out GE1401.out GE1402.out GE1415.out GE1436.out)) hn_))), Or.elim hk_ (fun hs_ => Or.elim hs_ (fun hs_ => hs_.1.2.1) (fun hs_ => Or.elim hs_ (fun hs_ => hs_.1.2.1) (fun hs_ => Or.elim hs_ (fun hs_ => hs_.1.1.1.2) (fun hs_ => hs_.1.1.1.2)))) (fun hn_ => (Kd.fresh' (Kd.N_lt (nu HO1405.out)) k_ hn_)), Or.elim hk_ (fun hs_ => Or.elim hs_ (fun hs_ => hs_.1.2.2.1) (fun hs_ => Or.elim hs_ (fun hs_ => hs_.1.2.2.1) (fun hs_ => Or.elim hs_ (fun hs_ => hs_.1.1.1.1.1.2) (fun hs_ => hs_.1.1.1.1.1.2)))) (fun hn_ => (Kd.freshB (g := gb1401) (o := .cells #[.bool a0_0, .slice A0_1 l0_1.length c0_1, .slice A0_2 l0_2.length c0_2] 67 (0, 0)) (ku BK1401.out) k_ hn_)), Or.elim hk_ (fun hs_ => Or.elim hs_ (fun hs_ => hs_.1.2.2.2.1) (fun hs_ => Or.elim hs_ (fun hs_ => hs_.1.2.2.2.1) (fun hs_ => Or.elim hs_ (fun hs_ => hs_.1.1.1.1.2) (fun hs_ => hs_.1.1.1.1.2)))) (fun hn_ => (Kd.freshB (g := gb1402) (o := .cells #[.bool a1_0, .slice A1_1 l1_1.length c1_1, .slice A1_2 l1_2.length c1_2] 67 (0, 0)) (ku BK1402.out) k_ hn_)), Or.elim hk_ (fun hs_ => Or.elim hs_ (fun hs_ => hs_.1.2.2.2.2) (fun hs_ => Or.elim hs_ (fun hs_ => hs_.1.2.2.2.2) (fun hs_ => Or.elim hs_ (fun hs_ => hs_.1.1.2) (fun hs_ => hs_.1.1.2)))) (fun hn_ => (Kd.freshB (g := gb1415) (o := .cells #[.bool t1407, .slice Ao66 t1408.length co66, .slice Ao67 t1411.length co67] 67 (0, 0)) (ku BK1415.out) k_ hn_)), Or.elim hk_ (fun hs_ => Or.elim hs_ (fun hs_ => hs_.2) (fun hs_ => Or.elim hs_ (fun hs_ => hs_.2) (fun hs_ => Or.elim hs_ (fun hs_ => hs_.2) (fun hs_ => hs_.2)))) (fun hn_ => (Kd.freshB (g := gb1436) (o := .cells #[.bool false, .slice none 0 0, .slice none 0 0] 67 (0, 0)) (ku BK1436.out) k_ hn_))⟩)) (below_size (bu4 HB.out GE1401.out GE1402.out GE1415.out GE1436.out)))
           replace HO1405 := Aside0.mk (Kd.N_below (nu HO1405.out) hb)
           replace BK1401 := kb BK1401 hb
           replace BK1402 := kb BK1402 hb
           replace BK1415 := kb BK1415 hb
           replace BK1436 := kb BK1436 hb
           replace HB := Aside0.mk (below_step (bu4 HB.out GE1401.out GE1402.out GE1415.out GE1436.out) hb)
           (try clear hb)
           (try clear hb2)
           (try clear hk)
           (try clear hi)
           (try clear ho0)
           (try clear ho1)
           refine hK.out _ _ ⟨bc BK1401 0, bc BK1401 1, bc BK1401 2, bc BK1402 0, bc BK1402 1, bc BK1402 2⟩ (fun hHeld => ?_)
           clear hK K
           refine nq 34 ?_
           refine pq 6 (some 28) #[true, true, true, true, true, true, true, false, false, true, false, false] HT_ ?_
           refine pq 7 (some 35) #[true, true, true, true, true, true, true, true, false, true, false, false] HT_ ?_
           refine pq 8 (some 36) #[true, true, true, true, true, true, true, true, true, true, false, false] HT_ ?_
           exact norm_ (by simp only [putAll, Act.put, List.setIfInBounds_toArray, List.set_cons_zero, List.set_cons_succ]) (hCont (.slice Ao73 y1418.length co73, .slice Ao76 t1422.length co76, .slice Ao77 t1425.length co77, v1430, v1433, gb1436) _ ⟨hHeld, (vz HO0_1.out), (vz HO0_2.out), (by (with_reducible repeat (first | apply Kd.N_alloc | apply Kd.N_drewN | apply Kd.N_drew)); exact Kd.N_mono HO1405.out (fun _ hk => ⟨hk.1.1.1.1, ⟨hk.1.2, ⟨hk.1.1.1.2.1, ⟨hk.1.1.1.2.2, ⟨hk.1.1.2, hk.2⟩⟩⟩⟩⟩)), (vz HO1410.out), (vz HO1413.out), (by (with_reducible repeat (first | apply Kd.N_alloc | apply Kd.N_drewN | apply Kd.N_drew)); exact Kd.N_mono HO1420.out (fun _ hk => ⟨hk.1.1, ⟨hk.1.2.1, ⟨hk.1.2.2.1, ⟨hk.1.2.2.2.1, ⟨hk.1.2.2.2.2, hk.2⟩⟩⟩⟩⟩)), (vz HO1424.out), (vz HO1427.out), (vu HO1431.out), (vu HO1434.out), (vz HO1_1.out), (vz HO1_2.out), (ku BK1401.out), (ku BK1402.out), (ku BK1415.out), (ku BK1436.out), GW1436.out, GE1436.out, NB1401_1436.out, NB1436_1401.out, NB1402_1436.out, NB1436_1402.out, NB1415_1436.out, NB1436_1415.out, (bu4 HB.out GE1401.out GE1402.out GE1415.out GE1436.out)⟩)
         ·
          skip
          refine box_step ?hg (N := 7) ?hd (cs := #[.bool false, .slice none 0 0, .slice none 0 0]) (t := 67) ?hr ?_; (case hd => rfl); (case hg => rfl); (case hr => first | (go_simp; done) | (go_simp; rfl))
          intro gb1436 hg w73 hbox hb
          replace HO0_1 := ke HO0_1 hg hb
          replace HO0_2 := ke HO0_2 hg hb
          replace HO1_1 := ke HO1_1 hg hb
          replace HO1_2 := ke HO1_2 hg hb
          replace HO1405 := Aside0.mk (Kd.N_below (Kd.N_elderB (nu HO1405.out) gb1436 (Nat.le_of_eq hg.symm)) hb)
          replace HO1410 := ke HO1410 hg hb
          replace HO1413 := ke HO1413 hg hb
          replace HO1420 := Aside0.mk (Kd.N_below (Kd.N_elderB (nu HO1420.out) gb1436 (Nat.le_of_eq hg.symm)) hb)
          have BK1436 := Aside0.mk (hbox)
          have GW1436 := ng hg (bu3 HB.out GE1401.out GE1402.out GE1415.out)
          have GE1436 := ng hg (bu3 HB.out GE1401.out GE1402.out GE1415.out)
          replace HB := Aside0.mk (below_step (bu3 HB.out GE1401.out GE1402.out GE1415.out) hb)
          have NB1401_1436 := nl hg BK1401
          have NB1436_1401 := nr hg BK1401
          replace BK1401 := kb BK1401 hb
          have NB1402_1436 := nl hg BK1402
          have NB1436_1402 := nr hg BK1402
          replace BK1402 := kb BK1402 hb
          have NB1415_1436 := nl hg BK1415
          have NB1436_1415 := nr hg BK1415
          replace BK1415 := kb BK1415 hb
          clear hb hbox hg
          obtain ⟨Ao74, co74, eo74⟩ := Kd.N_slice HO1420.out
          (first | subst eo74 | (injection eo74 with f1_ f2_ f3_; have f4_ := f1_.symm; have f5_ := f3_.symm; clear f1_ f2_ f3_; subst f4_; subst f5_))
          refine hK.out _ _ ⟨bc BK1401 0, bc BK1401 1, bc BK1401 2, bc BK1402 0, bc BK1402 1, bc BK1402 2⟩ (fun hHeld => ?_)
          clear hK K
          refine nq 7 ?_
          refine one_ (i := 3) (N := some 32) #[true, true, true, true, true, false, false, false, false, true, false, false] rfl rfl (one_of HT_.out (by kernel_rfl)) (by decide) (fun K hK => ?_)
          refine goes_ Try.func95 (by kernel_rfl) rfl #[.slice Ao74 y1418.length co74] (by rfl) rfl rfl lu ?_
          with_reducible refine (rational_Mul.calls k (fun k_ => ((((P0_1_ k_ ∨ P0_2_ k_ ∨ P1_1_ k_ ∨ P1_2_ k_) ∨ w.heap.size ≤ k_) ∧ (some k_ ≠ (.slice Ao58 y1403.length co58 : Value).ownBlock ∧ (k_ ≠ gb1401 ∧ (k_ ≠ gb1402 ∧ k_ ≠ gb1415)))) ∧ k_ ≠ gb1436)) _ _ y1418 t1421 t1422 t1425 _ ?side1 A39.out).mono ?_
          (case side1 => exact Kd.N_V (HO1420.out))
          rintro e w75 ⟨v1423, v1426, rfl, ho0, ho1, hb⟩
          refine ⟨_, rfl, ?_⟩
          replace HO0_1 := kv HO0_1 hb
          replace HO0_2 := kv HO0_2 hb
          replace HO1_1 := kv HO1_1 hb
          replace HO1_2 := kv HO1_2 hb
          replace HO1410 := kv HO1410 hb
          replace HO1413 := kv HO1413 hb
          replace HO1420 := Aside0.mk (Kd.N_below (nu HO1420.out) hb)
          have HO1424 := Aside0.mk (Kd.V_lower (Kd.V_mono (ok' := fun k_ => ((P0_1_ k_ ∨ P0_2_ k_ ∨ P1_1_ k_ ∨ P1_2_ k_) ∨ w.heap.size ≤ k_) ∧ some k_ ≠ (.slice Ao58 y1403.length co58 : Value).ownBlock ∧ k_ ≠ gb1401 ∧ k_ ≠ gb1402 ∧ k_ ≠ gb1415 ∧ k_ ≠ gb1436) ho0 (fun k_ hk_ => ⟨Or.elim hk_ (fun hs_ => hs_.1.1) (fun hn_ => (.inr (Nat.le_trans (below_size (bu4 HB.out GE1401.out GE1402.out GE1415.out GE1436.out)) hn_))), Or.elim hk_ (fun hs_ => hs_.1.2.1) (fun hn_ => (Kd.fresh' (Kd.N_lt (nu HO1405.out)) k_ hn_)), Or.elim hk_ (fun hs_ => hs_.1.2.2.1) (fun hn_ => (Kd.freshB (g := gb1401) (o := .cells #[.bool a0_0, .slice A0_1 l0_1.length c0_1, .slice A0_2 l0_2.length c0_2] 67 (0, 0)) (ku BK1401.out) k_ hn_)), Or.elim hk_ (fun hs_ => hs_.1.2.2.2.1) (fun hn_ => (Kd.freshB (g := gb1402) (o := .cells #[.bool a1_0, .slice A1_1 l1_1.length c1_1, .slice A1_2 l1_2.length c1_2] 67 (0, 0)) (ku BK1402.out) k_ hn_)), Or.elim hk_ (fun hs_ => hs_.1.2.2.2.2) (fun hn_ => (Kd.freshB (g := gb1415) (o := .cells #[.bool t1407, .slice Ao66 t1408.length co66, .slice Ao67 t1411.length co67] 67 (0, 0)) (ku BK1415.out) k_ hn_)), Or.elim hk_ (fun hs_ => hs_.2) (fun hn_ => (Kd.freshB (g := gb1436) (o := .cells #[.bool false, .slice none 0 0, .slice none 0 0] 67 (0, 0)) (ku BK1436.out) k_ hn_))⟩)) (below_size (bu4 HB.out GE1401.out GE1402.out GE1415.out GE1436.out)))
          have HO1427 := Aside0.mk (Kd.V_lower (Kd.V_mono (ok' := fun k_ => ((P0_1_ k_ ∨ P0_2_ k_ ∨ P1_1_ k_ ∨ P1_2_ k_) ∨ w.heap.size ≤ k_) ∧ some k_ ≠ (.slice Ao58 y1403.length co58 : Value).ownBlock ∧ k_ ≠ gb1401 ∧ k_ ≠ gb1402 ∧ k_ ≠ gb1415 ∧ k_ ≠ gb1436) ho1 (fun k_ hk_ => ⟨Or.elim hk_ (fun hs_ => hs_.1.1) (fun hn_ => (.inr (Nat.le_trans (below_size (bu4 HB.out GE1401.out GE1402.out GE1415.out GE1436.out)) hn_))), Or.elim hk_ (fun hs_ => hs_.1.2.1) (fun hn_ => (Kd.fresh' (Kd.N_lt (nu HO1405.out)) k_ hn_)), Or.elim hk_ (fun hs_ => hs_.1.2.2.1) (fun hn_ => (Kd.freshB (g := gb1401) (o := .cells #[.bool a0_0, .slice A0_1 l0_1.length c0_1, .slice A0_2 l0_2.length c0_2] 67 (0, 0)) (ku BK1401.out) k_ hn_)), Or.elim hk_ (fun hs_ => hs_.1.2.2.2.1) (fun hn_ => (Kd.freshB (g := gb1402) (o := .cells #[.bool a1_0, .slice A1_1 l1_1.length c1_1, .slice A1_2 l1_2.length c1_2] 67 (0, 0)) (ku BK1402.out) k_ hn_)), Or.elim hk_ (fun hs_ => hs_.1.2.2.2.2) (fun hn_ => (Kd.freshB (g := gb1415) (o := .cells #[.bool t1407, .slice Ao66 t1408.length co66, .slice Ao67 t1411.length co67] 67 (0, 0)) (ku BK1415.out) k_ hn_)), Or.elim hk_ (fun hs_ => hs_.2) (fun hn_ => (Kd.freshB (g := gb1436) (o := .cells #[.bool false, .slice none 0 0, .slice none 0 0] 67 (0, 0)) (ku BK1436.out) k_ hn_))⟩)) (below_size (bu4 HB.out GE1401.out GE1402.out GE1415.out GE1436.out)))
          replace HO1405 := Aside0.mk (Kd.N_below (nu HO1405.out) hb)
          replace BK1401 := kb BK1401 hb
          replace BK1402 := kb BK1402 hb
          replace BK1415 := kb BK1415 hb
          replace BK1436 := kb BK1436 hb
          replace HB := Aside0.mk (below_step (bu4 HB.out GE1401.out GE1402.out GE1415.out GE1436.out) hb)
          (try clear hb)
          (try clear hb2)
          (try clear hk)
          (try clear hi)
          (try clear ho0)
          (try clear ho1)
          obtain ⟨Ao76, co76, eo76⟩ := Kd.V_slice HO1424.out
          (first | subst eo76 | (injection eo76 with f1_ f2_ f3_; have f4_ := f1_.symm; have f5_ := f3_.symm; clear f1_ f2_ f3_; subst f4_; subst f5_))
          obtain ⟨Ao77, co77, eo77⟩ := Kd.V_slice HO1427.out
          (first | subst eo77 | (injection eo77 with f1_ f2_ f3_; have f4_ := f1_.symm; have f5_ := f3_.symm; clear f1_ f2_ f3_; subst f4_; subst f5_))
          refine hK.out _ _ ⟨bc BK1401 0, bc BK1401 1, bc BK1401 2, bc BK1402 0, bc BK1402 1, bc BK1402 2⟩ (fun hHeld => ?_)
          clear hK K
          refine nq 32 ?_
          refine one_ (i := 5) (N := some 34) #[true, true, true, true, true, true, false, false, false, true, false, false] rfl rfl (one_of HT_.out (by kernel_rfl)) (by decide) (fun K hK => ?_)
          refine goes_ Try.func94 (by kernel_rfl) rfl #[.agg #[.bool t1421, .slice Ao76 t1422.length co76, .slice Ao77 t1425.length co77], .agg #[.bool a1_0, .slice A1_1 l1_1.length c1_1, .slice A1_2 l1_2.length c1_2]] (by rfl) rfl rfl lu ?_
          with_reducible refine (rational_Div.calls k t1421 (fun k_ => (((P0_1_ k_ ∨ P0_2_ k_ ∨ P1_1_ k_ ∨ P1_2_ k_) ∨ w.heap.size ≤ k_) ∧ (some k_ ≠ (.slice Ao58 y1403.length co58 : Value).ownBlock ∧ (k_ ≠ gb1401 ∧ (k_ ≠ gb1402 ∧ (k_ ≠ gb1415 ∧ k_ ≠ gb1436)))))) _ _ t1422 (fun k_ => (((P0_1_ k_ ∨ P0_2_ k_ ∨ P1_1_ k_ ∨ P1_2_ k_) ∨ w.heap.size ≤ k_) ∧ (some k_ ≠ (.slice Ao58 y1403.length co58 : Value).ownBlock ∧ (k_ ≠ gb1401 ∧ (k_ ≠ gb1402 ∧ (k_ ≠ gb1415 ∧ k_ ≠ gb1436)))))) _ _ t1425 a1_0 (fun k_ => ((((((((P0_1_ k_ ∨ P0_2_ k_ ∨ P1_1_ k_ ∨ P1_2_ k_) ∨ w.heap.size ≤ k_) ∧ k_ ≠ gb1401) ∧ k_ ≠ gb1402) ∧ some k_ ≠ (.slice Ao58 y1403.length co58 : Value).ownBlock) ∧ k_ ≠ gb1415) ∧ some k_ ≠ (.slice Ao74 y1418.length co74 : Value).ownBlock) ∧ k_ ≠ gb1436)) _ _ l1_1 (fun k_ => ((((((((P0_1_ k_ ∨ P0_2_ k_ ∨ P1_1_ k_ ∨ P1_2_ k_) ∨ w.heap.size ≤ k_) ∧ k_ ≠ gb1401) ∧ k_ ≠ gb1402) ∧ some k_ ≠ (.slice Ao58 y1403.length co58 : Value).ownBlock) ∧ k_ ≠ gb1415) ∧ some k_ ≠ (.slice Ao74 y1418.length co74 : Value).ownBlock) ∧ k_ ≠ gb1436)) _ _ l1_2 t1428 t1429 t1432 t1435 _ ?side1 ?side2 ?side3 ?side4 A40.out).mono ?_
          (case side1 => first | exact HO1424.out | exact vz HO1424.out)
          (case side2 => first | exact HO1427.out | exact vz HO1427.out)
          (case side3 => first | exact HO1_1.out | exact vz HO1_1.out)
          (case side4 => first | exact HO1_2.out | exact vz HO1_2.out)
          rintro e w78 ⟨v1430, v1433, rfl, ho0, ho1, hb⟩
          refine ⟨_, rfl, ?_⟩
          replace HO0_1 := kv HO0_1 hb
          replace HO0_2 := kv HO0_2 hb
          replace HO1_1 := kv HO1_1 hb
          replace HO1_2 := kv HO1_2 hb
          replace HO1410 := kv HO1410 hb
          replace HO1413 := kv HO1413 hb
          replace HO1420 := Aside0.mk (Kd.N_below (nu HO1420.out) hb)
          replace HO1424 := kv HO1424 hb
          replace HO1427 := kv HO1427 hb
          have HO1431 := Aside0.mk (Kd.V_lower (Kd.V_mono (ok' := fun k_ => ((P0_1_ k_ ∨ P0_2_ k_ ∨ P1_1_ k_ ∨ P1_2_ k_) ∨ w.heap.size ≤ k_) ∧ some k_ ≠ (.slice Ao58 y1403.length co58 : Value).ownBlock ∧ k_ ≠ gb1401 ∧ k_ ≠ gb1402 ∧ k_ ≠ gb1415 ∧ k_ ≠ gb1436) ho0 (fun k_ hk_ => ⟨Or.elim hk_ (fun hs_ => Or.elim hs_ (fun hs_ => hs_.1) (fun hs_ => Or.elim hs_ (fun hs_ => hs_.1) (fun hs_ => Or.elim hs_ (fun hs_ => hs_.1.1.1.1.1.1) (fun hs_ => hs_.1.1.1.1.1.1)))) (fun hn_ => (.inr (Nat.le_trans (below_size (bu4 HB.out GE1401.out GE1402.out GE1415.out GE1436.out)) hn_))), Or.elim hk_ (fun hs_ => Or.elim hs_ (fun hs_ => hs_.2.1) (fun hs_ => Or.elim hs_ (fun hs_ => hs_.2.1) (fun hs_ => Or.elim hs_ (fun hs_ => hs_.1.1.1.2) (fun hs_ => hs_.1.1.1.2)))) (fun hn_ => (Kd.fresh' (Kd.N_lt (nu HO1405.out)) k_ hn_)), Or.elim hk_ (fun hs_ => Or.elim hs_ (fun hs_ => hs_.2.2.1) (fun hs_ => Or.elim hs_ (fun hs_ => hs_.2.2.1) (fun hs_ => Or.elim hs_ (fun hs_ => hs_.1.1.1.1.1.2) (fun hs_ => hs_.1.1.1.1.1.2)))) (fun hn_ => (Kd.freshB (g := gb1401) (o := .cells #[.bool a0_0, .slice A0_1 l0_1.length c0_1, .slice A0_2 l0_2.length c0_2] 67 (0, 0)) (ku BK1401.out) k_ hn_)), Or.elim hk_ (fun hs_ => Or.elim hs_ (fun hs_ => hs_.2.2.2.1) (fun hs_ => Or.elim hs_ (fun hs_ => hs_.2.2.2.1) (fun hs_ => Or.elim hs_ (fun hs_ => hs_.1.1.1.1.2) (fun hs_ => hs_.1.1.1.1.2)))) (fun hn_ => (Kd.freshB (g := gb1402) (o := .cells #[.bool a1_0, .slice A1_1 l1_1.length c1_1, .slice A1_2 l1_2.length c1_2] 67 (0, 0)) (ku BK1402.out) k_ hn_)), Or.elim hk_ (fun hs_ => Or.elim hs_ (fun hs_ => hs_.2.2.2.2.1) (fun hs_ => Or.elim hs_ (fun hs_ => hs_.2.2.2.2.1) (fun hs_ => Or.elim hs_ (fun hs_ => hs_.1.1.2) (fun hs_ => hs_.1.1.2)))) (fun hn_ => (Kd.freshB (g := gb1415) (o := .cells #[.bool t1407, .slice Ao66 t1408.length co66, .slice Ao67 t1411.length co67] 67 (0, 0)) (ku BK1415.out) k_ hn_)), Or.elim hk_ (fun hs_ => Or.elim hs_ (fun hs_ => hs_.2.2.2.2.2) (fun hs_ => Or.elim hs_ (fun hs_ => hs_.2.2.2.2.2) (fun hs_ => Or.elim hs_ (fun hs_ => hs_.2) (fun hs_ => hs_.2)))) (fun hn_ => (Kd.freshB (g := gb1436) (o := .cells #[.bool false, .slice none 0 0, .slice none 0 0] 67 (0, 0)) (ku BK1436.out) k_ hn_))⟩)) (below_size (bu4 HB.out GE1401.out GE1402.out GE1415.out GE1436.out)))
          have HO1434 := Aside0.mk (Kd.V_lower (Kd.V_mono (ok' := fun k_ => ((P0_1_ k_ ∨ P0_2_ k_ ∨ P1_1_ k_ ∨ P1_2_ k_) ∨ w.heap.size ≤ k_) ∧ some k_ ≠ (.slice Ao58 y1403.length co58 : Value).ownBlock ∧ k_ ≠ gb1401 ∧ k_ ≠ gb1402 ∧ k_ ≠ gb1415 ∧ k_ ≠ gb1436) ho1 (fun k_ hk_ => ⟨Or.elim hk_ (fun hs_ => Or.elim hs_ (fun hs_ => hs_.1) (fun hs_ => Or.elim hs_ (fun hs_ => hs_.1) (fun hs_ => Or.elim hs_ (fun hs_ => hs_.1.1.1.1.1.1) (fun hs_ => hs_.1.1.1.1.1.1)))) (fun hn_ => (.inr (Nat.le_trans (below_size (bu4 HB.out GE1401.out GE1402.out GE1415.out GE1436.out)) hn_))), Or.elim hk_ (fun hs_ => Or.elim hs_ (fun hs_ => hs_.2.1) (fun hs_ => Or.elim hs_ (fun hs_ => hs_.2.1) (fun hs_ => Or.elim hs_ (fun hs_ => hs_.1.1.1.2) (fun hs_ => hs_.1.1.1.2)))) (fun hn_ => (Kd.fresh' (Kd.N_lt (nu HO1405.out)) k_ hn_)), Or.elim hk_ (fun hs_ => Or.elim hs_ (fun hs_ => hs_.2.2.1) (fun hs_ => Or.elim hs_ (fun hs_ => hs_.2.2.1) (fun hs_ => Or.elim hs_ (fun hs_ => hs_.1.1.1.1.1.2) (fun hs_ => hs_.1.1.1.1.1.2)))) (fun hn_ => (Kd.freshB (g := gb1401) (o := .cells #[.bool a0_0, .slice A0_1 l0_1.length c0_1, .slice A0_2 l0_2.length c0_2] 67 (0, 0)) (ku BK1401.out) k_ hn_)), Or.elim hk_ (fun hs_ => Or.elim hs_ (fun hs_ => hs_.2.2.2.1) (fun hs_ => Or.elim hs_ (fun hs_ => hs_.2.2.2.1) (fun hs_ => Or.elim hs_ (fun hs_ => hs_.1.1.1.1.2) (fun hs_ => hs_.1.1.1.1.2)))) (fun hn_ => (Kd.freshB (g := gb1402) (o := .cells #[.bool a1_0, .slice A1_1 l1_1.length c1_1, .slice A1_2 l1_2.length c1_2] 67 (0, 0)) (ku BK1402.out) k_ hn_)), Or.elim hk_ (fun hs_ => Or.elim hs_ (fun hs_ => hs_.2.2.2.2.1) (fun hs_ => Or.elim hs_ (fun hs_ => hs_.2.2.2.2.1) (fun hs_ => Or.elim hs_ (fun hs_ => hs_.1.1.2) (fun hs_ => hs_.1.1.2)))) (fun hn_ => (Kd.freshB (g := gb1415) (o := .cells #[.bool t1407, .slice Ao66 t1408.length co66, .slice Ao67 t1411.length co67] 67 (0, 0)) (ku BK1415.out) k_ hn_)), Or.elim hk_ (fun hs_ => Or.elim hs_ (fun hs_ => hs_.2.2.2.2.2) (fun hs_ => Or.elim hs_ (fun hs_ => hs_.2.2.2.2.2) (fun hs_ => Or.elim hs_ (fun hs_ => hs_.2) (fun hs_ => hs_.2)))) (fun hn_ => (Kd.freshB (g := gb1436) (o := .cells #[.bool false, .slice none 0 0, .slice none 0 0] 67 (0, 0)) (ku BK1436.out) k_ hn_))⟩)) (below_size (bu4 HB.out GE1401.out GE1402.out GE1415.out GE1436.out)))
          replace HO1405 := Aside0.mk (Kd.N_below (nu HO1405.out) hb)
          replace BK1401 := kb BK1401 hb
          replace BK1402 := kb BK1402 hb
          replace BK1415 := kb BK1415 hb
          replace BK1436 := kb BK1436 hb
          replace HB := Aside0.mk (below_step (bu4 HB.out GE1401.out GE1402.out GE1415.out GE1436.out) hb)
          (try clear hb)
          (try clear hb2)
          (try clear hk)
          (try clear hi)
          (try clear ho0)
          (try clear ho1)
          refine hK.out _ _ ⟨bc BK1401 0, bc BK1401 1, bc BK1401 2, bc BK1402 0, bc BK1402 1, bc BK1402 2⟩ (fun hHeld => ?_)
          clear hK K
          refine nq 34 ?_
          refine pq 6 (some 28) #[true, true, true, true, true, true, true, false, false, true, false, false] HT_ ?_
          refine pq 7 (some 35) #[true, true, true, true, true, true, true, true, false, true, false, false] HT_ ?_
          refine pq 8 (some 36) #[true, true, true, true, true, true, true, true, true, true, false, false] HT_ ?_
          exact norm_ (by simp only [putAll, Act.put, List.setIfInBounds_toArray, List.set_cons_zero, List.set_cons_succ]) (hCont (.slice Ao74 y1418.length co74, .slice Ao76 t1422.length co76, .slice Ao77 t1425.length co77, v1430, v1433, gb1436) _ ⟨hHeld, (vz HO0_1.out), (vz HO0_2.out), (by (with_reducible repeat (first | apply Kd.N_alloc | apply Kd.N_drewN | apply Kd.N_drew)); exact Kd.N_mono HO1405.out (fun _ hk => ⟨hk.1.1.1.1, ⟨hk.1.2, ⟨hk.1.1.1.2.1, ⟨hk.1.1.1.2.2, ⟨hk.1.1.2, hk.2⟩⟩⟩⟩⟩)), (vz HO1410.out), (vz HO1413.out), (by (with_reducible repeat (first | apply Kd.N_alloc | apply Kd.N_drewN | apply Kd.N_drew)); exact Kd.N_mono HO1420.out (fun _ hk => ⟨hk.1.1, ⟨hk.1.2.1, ⟨hk.1.2.2.1, ⟨hk.1.2.2.2.1, ⟨hk.1.2.2.2.2, hk.2⟩⟩⟩⟩⟩)), (vu HO1424.out), (vu HO1427.out), (vu HO1431.out), (vu HO1434.out), (vz HO1_1.out), (vz HO1_2.out), (ku BK1401.out), (ku BK1402.out), (ku BK1415.out), (ku BK1436.out), GW1436.out, GE1436.out, NB1401_1436.out, NB1436_1401.out, NB1402_1436.out, NB1436_1402.out, NB1415_1436.out, NB1436_1415.out, (bu4 HB.out GE1401.out GE1402.out GE1415.out GE1436.out)⟩)
        ·
         skip
         refine box_step ?hg (N := 7) ?hd (cs := #[.bool false, .slice none 0 0, .slice none 0 0]) (t := 67) ?hr ?_; (case hd => rfl); (case hg => rfl); (case hr => first | (go_simp; done) | (go_simp; rfl))
         intro gb1436 hg w71 hbox hb
         replace HO0_1 := ke HO0_1 hg hb
         replace HO0_2 := ke HO0_2 hg hb
         replace HO1_1 := ke HO1_1 hg hb
         replace HO1_2 := ke HO1_2 hg hb
         replace HO1405 := Aside0.mk (Kd.N_below (Kd.N_elderB (nu HO1405.out) gb1436 (Nat.le_of_eq hg.symm)) hb)
         replace HO1410 := ke HO1410 hg hb
         replace HO1413 := ke HO1413 hg hb
         have BK1436 := Aside0.mk (hbox)
         have GW1436 := ng hg (bu3 HB.out GE1401.out GE1402.out GE1415.out)
         have GE1436 := ng hg (bu3 HB.out GE1401.out GE1402.out GE1415.out)
         replace HB := Aside0.mk (below_step (bu3 HB.out GE1401.out GE1402.out GE1415.out) hb)
         have NB1401_1436 := nl hg BK1401
         have NB1436_1401 := nr hg BK1401
         replace BK1401 := kb BK1401 hb
         have NB1402_1436 := nl hg BK1402
         have NB1436_1402 := nr hg BK1402
         replace BK1402 := kb BK1402 hb
         have NB1415_1436 := nl hg BK1415
         have NB1436_1415 := nr hg BK1415
         replace BK1415 := kb BK1415 hb
         clear hb hbox hg
         refine hK.out _ _ ⟨bc BK1401 0, bc BK1401 1, bc BK1401 2, bc BK1402 0, bc BK1402 1, bc BK1402 2⟩ (fun hHeld => ?_)
         clear hK K
         refine nq 7 ?_
         refine one_ (i := 2) (N := some 31) #[true, true, true, false, true, false, false, false, false, true, false, false] rfl rfl (one_of HT_.out (by kernel_rfl)) (by decide) (fun K hK => ?_)
         refine Kd.N_lit_step k67 _ 67 ?hg (N' := 31) ?hd (xs := ([(⟨a0_0, l0_1, l0_2⟩ : S67), (⟨a1_0, l1_1, l1_2⟩ : S67)] : List (S67))) (inner := [.bool a0_0, .slice A0_1 l0_1.length c0_1, .slice A0_2 l0_2.length c0_2, .bool a1_0, .slice A1_1 l1_1.length c1_1, .slice A1_2 l1_2.length c1_2]) (ok := (fun k_ => ((P0_1_ k_ ∨ P0_2_ k_ ∨ P1_1_ k_ ∨ P1_2_ k_) ∨ w.heap.size ≤ k_) ∧ some k_ ≠ (.slice Ao58 y1403.length co58 : Value).ownBlock ∧ k_ ≠ gb1401 ∧ k_ ≠ gb1402 ∧ k_ ≠ gb1415 ∧ k_ ≠ gb1436)) (okp := (fun k_ => ((P0_1_ k_ ∨ P0_2_ k_ ∨ P1_1_ k_ ∨ P1_2_ k_) ∨ w.heap.size ≤ k_) ∧ some k_ ≠ (.slice Ao58 y1403.length co58 : Value).ownBlock ∧ k_ ≠ gb1401 ∧ k_ ≠ gb1402 ∧ k_ ≠ gb1415 ∧ k_ ≠ gb1436)) ?hr ?hp (fun _ hk => hk) ((show ∀ k_, w71.heap.size ≤ k_ → (fun k_ => ((P0_1_ k_ ∨ P0_2_ k_ ∨ P1_1_ k_ ∨ P1_2_ k_) ∨ w.heap.size ≤ k_) ∧ some k_ ≠ (.slice Ao58 y1403.length co58 : Value).ownBlock ∧ k_ ≠ gb1401 ∧ k_ ≠ gb1402 ∧ k_ ≠ gb1415 ∧ k_ ≠ gb1436) k_ from fun k_ hk => ⟨(.inr (Nat.le_trans (below_size (bu4 HB.out GE1401.out GE1402.out GE1415.out GE1436.out)) hk)), Kd.fresh' (Kd.N_lt (nu HO1405.out)) k_ hk, Kd.freshB (g := gb1401) (o := .cells #[.bool a0_0, .slice A0_1 l0_1.length c0_1, .slice A0_2 l0_2.length c0_2] 67 (0, 0)) (ku BK1401.out) k_ hk, Kd.freshB (g := gb1402) (o := .cells #[.bool a1_0, .slice A1_1 l1_1.length c1_1, .slice A1_2 l1_2.length c1_2] 67 (0, 0)) (ku BK1402.out) k_ hk, Kd.freshB (g := gb1415) (o := .cells #[.bool t1407, .slice Ao66 t1408.length co66, .slice Ao67 t1411.length co67] 67 (0, 0)) (ku BK1415.out) k_ hk, Kd.freshB (g := gb1436) (o := .cells #[.bool false, .slice none 0 0, .slice none 0 0] 67 (0, 0)) (ku BK1436.out) k_ hk⟩) _ (Nat.le_refl _)) (Below.refl _ _) (Nat.le_refl _) (by simp) ?_; (case hd => rfl); (case hg => rfl); (case hr => first | (go_simp; done) | (go_simp; rfl)); (case hp => exact (Reps.c3 (show Kd.FK k67 _ _ (⟨a0_0, l0_1, l0_2⟩ : S67) [.bool a0_0, .slice A0_1 l0_1.length c0_1, .slice A0_2 l0_2.length c0_2] from (k67_mkF _ _ (⟨a0_0, l0_1, l0_2⟩ : S67) (Kd.V_reads' (vy ((fun k_ => ((P0_1_ k_ ∨ P0_2_ k_ ∨ P1_1_ k_ ∨ P1_2_ k_) ∨ w.heap.size ≤ k_) ∧ some k_ ≠ (.slice Ao58 y1403.length co58 : Value).ownBlock ∧ k_ ≠ gb1401 ∧ k_ ≠ gb1402 ∧ k_ ≠ gb1415 ∧ k_ ≠ gb1436)) HO0_1.out)).2.1 (Kd.V_F (vy ((fun k_ => ((P0_1_ k_ ∨ P0_2_ k_ ∨ P1_1_ k_ ∨ P1_2_ k_) ∨ w.heap.size ≤ k_) ∧ some k_ ≠ (.slice Ao58 y1403.length co58 : Value).ownBlock ∧ k_ ≠ gb1401 ∧ k_ ≠ gb1402 ∧ k_ ≠ gb1415 ∧ k_ ≠ gb1436)) HO0_1.out)) (Kd.V_reads' (vy ((fun k_ => ((P0_1_ k_ ∨ P0_2_ k_ ∨ P1_1_ k_ ∨ P1_2_ k_) ∨ w.heap.size ≤ k_) ∧ some k_ ≠ (.slice Ao58 y1403.length co58 : Value).ownBlock ∧ k_ ≠ gb1401 ∧ k_ ≠ gb1402 ∧ k_ ≠ gb1415 ∧ k_ ≠ gb1436)) HO0_2.out)).2.1 (Kd.V_F (vy ((fun k_ => ((P0_1_ k_ ∨ P0_2_ k_ ∨ P1_1_ k_ ∨ P1_2_ k_) ∨ w.heap.size ≤ k_) ∧ some k_ ≠ (.slice Ao58 y1403.length co58 : Value).ownBlock ∧ k_ ≠ gb1401 ∧ k_ ≠ gb1402 ∧ k_ ≠ gb1415 ∧ k_ ≠ gb1436)) HO0_2.out)))) (Reps.c3 (show Kd.FK k67 _ _ (⟨a1_0, l1_1, l1_2⟩ : S67) [.bool a1_0, .slice A1_1 l1_1.length c1_1, .slice A1_2 l1_2.length c1_2] from (k67_mkF _ _ (⟨a1_0, l1_1, l1_2⟩ : S67) (Kd.V_reads' (vy ((fun k_ => ((P0_1_ k_ ∨ P0_2_ k_ ∨ P1_1_ k_ ∨ P1_2_ k_) ∨ w.heap.size ≤ k_) ∧ some k_ ≠ (.slice Ao58 y1403.length co58 : Value).ownBlock ∧ k_ ≠ gb1401 ∧ k_ ≠ gb1402 ∧ k_ ≠ gb1415 ∧ k_ ≠ gb1436)) HO1_1.out)).2.1 (Kd.V_F (vy ((fun k_ => ((P0_1_ k_ ∨ P0_2_ k_ ∨ P1_1_ k_ ∨ P1_2_ k_) ∨ w.heap.size ≤ k_) ∧ some k_ ≠ (.slice Ao58 y1403.length co58 : Value).ownBlock ∧ k_ ≠ gb1401 ∧ k_ ≠ gb1402 ∧ k_ ≠ gb1415 ∧ k_ ≠ gb1436)) HO1_1.out)) (Kd.V_reads' (vy ((fun k_ => ((P0_1_ k_ ∨ P0_2_ k_ ∨ P1_1_ k_ ∨ P1_2_ k_) ∨ w.heap.size ≤ k_) ∧ some k_ ≠ (.slice Ao58 y1403.length co58 : Value).ownBlock ∧ k_ ≠ gb1401 ∧ k_ ≠ gb1402 ∧ k_ ≠ gb1415 ∧ k_ ≠ gb1436)) HO1_2.out)).2.1 (Kd.V_F (vy ((fun k_ => ((P0_1_ k_ ∨ P0_2_ k_ ∨ P1_1_ k_ ∨ P1_2_ k_) ∨ w.heap.size ≤ k_) ∧ some k_ ≠ (.slice Ao58 y1403.length co58 : Value).ownBlock ∧ k_ ≠ gb1401 ∧ k_ ≠ gb1402 ∧ k_ ≠ gb1415 ∧ k_ ≠ gb1436)) HO1_2.out)))) (Reps.none _ _))))
         intro v1419 w72 ho73 hb hg_ hnew_
         clear hg_ hnew_
         (first | rw [← Ny1418.out] at ho73 | (simp only [Int.reduceToNat] at ho73; rw [← Ny1418.out] at ho73))
         replace HO0_1 := Aside0.mk (Kd.V_elder' (vu HO0_1.out) (Kd.N_base ho73) hb)
         replace HO0_2 := Aside0.mk (Kd.V_elder' (vu HO0_2.out) (Kd.N_base ho73) hb)
         replace HO1_1 := Aside0.mk (Kd.V_elder' (vu HO1_1.out) (Kd.N_base ho73) hb)
         replace HO1_2 := Aside0.mk (Kd.V_elder' (vu HO1_2.out) (Kd.N_base ho73) hb)
         replace HO1405 := Aside0.mk (Kd.N_elder' (nu HO1405.out) (Kd.N_base ho73) hb)
         replace HO1410 := Aside0.mk (Kd.V_elder' (vu HO1410.out) (Kd.N_base ho73) hb)
         replace HO1413 := Aside0.mk (Kd.V_elder' (vu HO1413.out) (Kd.N_base ho73) hb)
         have HO1420 := Aside0.mk (Kd.N_lower ho73 (below_size (bu4 HB.out GE1401.out GE1402.out GE1415.out GE1436.out)))
         replace BK1401 := kb BK1401 hb
         replace BK1402 := kb BK1402 hb
         replace BK1415 := kb BK1415 hb
         replace BK1436 := kb BK1436 hb
         replace HB := Aside0.mk (below_step (bu4 HB.out GE1401.out GE1402.out GE1415.out GE1436.out) hb)
         clear hb ho73
         obtain ⟨Ao74, co74, eo74⟩ := Kd.N_slice HO1420.out
         (first | subst eo74 | (injection eo74 with f1_ f2_ f3_; have f4_ := f1_.symm; have f5_ := f3_.symm; clear f1_ f2_ f3_; subst f4_; subst f5_))
         refine hK.out _ _ ⟨bc BK1401 0, bc BK1401 1, bc BK1401 2, bc BK1402 0, bc BK1402 1, bc BK1402 2⟩ (fun hHeld => ?_)
         clear hK K
         refine nq 31 ?_
         refine one_ (i := 3) (N := some 32) #[true, true, true, true, true, false, false, false, false, true, false, false] rfl rfl (one_of HT_.out (by kernel_rfl)) (by decide) (fun K hK => ?_)
         refine goes_ Try.func95 (by kernel_rfl) rfl #[.slice Ao74 y1418.length co74] (by rfl) rfl rfl lu ?_
         with_reducible refine (rational_Mul.calls k (fun k_ => (((P0_1_ k_ ∨ P0_2_ k_ ∨ P1_1_ k_ ∨ P1_2_ k_) ∨ w.heap.size ≤ k_) ∧ (some k_ ≠ (.slice Ao58 y1403.length co58 : Value).ownBlock ∧ (k_ ≠ gb1401 ∧ (k_ ≠ gb1402 ∧ (k_ ≠ gb1415 ∧ k_ ≠ gb1436)))))) _ _ y1418 t1421 t1422 t1425 _ ?side1 A39.out).mono ?_
         (case side1 => exact Kd.N_V (HO1420.out))
         rintro e w75 ⟨v1423, v1426, rfl, ho0, ho1, hb⟩
         refine ⟨_, rfl, ?_⟩
         replace HO0_1 := kv HO0_1 hb
         replace HO0_2 := kv HO0_2 hb
         replace HO1_1 := kv HO1_1 hb
         replace HO1_2 := kv HO1_2 hb
         replace HO1410 := kv HO1410 hb
         replace HO1413 := kv HO1413 hb
         replace HO1420 := Aside0.mk (Kd.N_below (nu HO1420.out) hb)
         have HO1424 := Aside0.mk (Kd.V_lower (Kd.V_mono (ok' := fun k_ => ((P0_1_ k_ ∨ P0_2_ k_ ∨ P1_1_ k_ ∨ P1_2_ k_) ∨ w.heap.size ≤ k_) ∧ some k_ ≠ (.slice Ao58 y1403.length co58 : Value).ownBlock ∧ k_ ≠ gb1401 ∧ k_ ≠ gb1402 ∧ k_ ≠ gb1415 ∧ k_ ≠ gb1436) ho0 (fun k_ hk_ => ⟨Or.elim hk_ (fun hs_ => hs_.1) (fun hn_ => (.inr (Nat.le_trans (below_size (bu4 HB.out GE1401.out GE1402.out GE1415.out GE1436.out)) hn_))), Or.elim hk_ (fun hs_ => hs_.2.1) (fun hn_ => (Kd.fresh' (Kd.N_lt (nu HO1405.out)) k_ hn_)), Or.elim hk_ (fun hs_ => hs_.2.2.1) (fun hn_ => (Kd.freshB (g := gb1401) (o := .cells #[.bool a0_0, .slice A0_1 l0_1.length c0_1, .slice A0_2 l0_2.length c0_2] 67 (0, 0)) (ku BK1401.out) k_ hn_)), Or.elim hk_ (fun hs_ => hs_.2.2.2.1) (fun hn_ => (Kd.freshB (g := gb1402) (o := .cells #[.bool a1_0, .slice A1_1 l1_1.length c1_1, .slice A1_2 l1_2.length c1_2] 67 (0, 0)) (ku BK1402.out) k_ hn_)), Or.elim hk_ (fun hs_ => hs_.2.2.2.2.1) (fun hn_ => (Kd.freshB (g := gb1415) (o := .cells #[.bool t1407, .slice Ao66 t1408.length co66, .slice Ao67 t1411.length co67] 67 (0, 0)) (ku BK1415.out) k_ hn_)), Or.elim hk_ (fun hs_ => hs_.2.2.2.2.2) (fun hn_ => (Kd.freshB (g := gb1436) (o := .cells #[.bool false, .slice none 0 0, .slice none 0 0] 67 (0, 0)) (ku BK1436.out) k_ hn_))⟩)) (below_size (bu4 HB.out GE1401.out GE1402.out GE1415.out GE1436.out)))
         have HO1427 := Aside0.mk (Kd.V_lower (Kd.V_mono (ok' := fun k_ => ((P0_1_ k_ ∨ P0_2_ k_ ∨ P1_1_ k_ ∨ P1_2_ k_) ∨ w.heap.size ≤ k_) ∧ some k_ ≠ (.slice Ao58 y1403.length co58 : Value).ownBlock ∧ k_ ≠ gb1401 ∧ k_ ≠ gb1402 ∧ k_ ≠ gb1415 ∧ k_ ≠ gb1436) ho1 (fun k_ hk_ => ⟨Or.elim hk_ (fun hs_ => hs_.1) (fun hn_ => (.inr (Nat.le_trans (below_size (bu4 HB.out GE1401.out GE1402.out GE1415.out GE1436.out)) hn_))), Or.elim hk_ (fun hs_ => hs_.2.1) (fun hn_ => (Kd.fresh' (Kd.N_lt (nu HO1405.out)) k_ hn_)), Or.elim hk_ (fun hs_ => hs_.2.2.1) (fun hn_ => (Kd.freshB (g := gb1401) (o := .cells #[.bool a0_0, .slice A0_1 l0_1.length c0_1, .slice A0_2 l0_2.length c0_2] 67 (0, 0)) (ku BK1401.out) k_ hn_)), Or.elim hk_ (fun hs_ => hs_.2.2.2.1) (fun hn_ => (Kd.freshB (g := gb1402) (o := .cells #[.bool a1_0, .slice A1_1 l1_1.length c1_1, .slice A1_2 l1_2.length c1_2] 67 (0, 0)) (ku BK1402.out) k_ hn_)), Or.elim hk_ (fun hs_ => hs_.2.2.2.2.1) (fun hn_ => (Kd.freshB (g := gb1415) (o := .cells #[.bool t1407, .slice Ao66 t1408.length co66, .slice Ao67 t1411.length co67] 67 (0, 0)) (ku BK1415.out) k_ hn_)), Or.elim hk_ (fun hs_ => hs_.2.2.2.2.2) (fun hn_ => (Kd.freshB (g := gb1436) (o := .cells #[.bool false, .slice none 0 0, .slice none 0 0] 67 (0, 0)) (ku BK1436.out) k_ hn_))⟩)) (below_size (bu4 HB.out GE1401.out GE1402.out GE1415.out GE1436.out)))
         replace HO1405 := Aside0.mk (Kd.N_below (nu HO1405.out) hb)
         replace BK1401 := kb BK1401 hb
         replace BK1402 := kb BK1402 hb
         replace BK1415 := kb BK1415 hb
         replace BK1436 := kb BK1436 hb
         replace HB := Aside0.mk (below_step (bu4 HB.out GE1401.out GE1402.out GE1415.out GE1436.out) hb)
         (try clear hb)
         (try clear hb2)
         (try clear hk)
         (try clear hi)
         (try clear ho0)
         (try clear ho1)
         obtain ⟨Ao76, co76, eo76⟩ := Kd.V_slice HO1424.out
         (first | subst eo76 | (injection eo76 with f1_ f2_ f3_; have f4_ := f1_.symm; have f5_ := f3_.symm; clear f1_ f2_ f3_; subst f4_; subst f5_))
         obtain ⟨Ao77, co77, eo77⟩ := Kd.V_slice HO1427.out
         (first | subst eo77 | (injection eo77 with f1_ f2_ f3_; have f4_ := f1_.symm; have f5_ := f3_.symm; clear f1_ f2_ f3_; subst f4_; subst f5_))
         refine hK.out _ _ ⟨bc BK1401 0, bc BK1401 1, bc BK1401 2, bc BK1402 0, bc BK1402 1, bc BK1402 2⟩ (fun hHeld => ?_)
         clear hK K
         refine nq 32 ?_
         refine one_ (i := 5) (N := some 34) #[true, true, true, true, true, true, false, false, false, true, false, false] rfl rfl (one_of HT_.out (by kernel_rfl)) (by decide) (fun K hK => ?_)
         refine goes_ Try.func94 (by kernel_rfl) rfl #[.agg #[.bool t1421, .slice Ao76 t1422.length co76, .slice Ao77 t1425.length co77], .agg #[.bool a1_0, .slice A1_1 l1_1.length c1_1, .slice A1_2 l1_2.length c1_2]] (by rfl) rfl rfl lu ?_
         with_reducible refine (rational_Div.calls k t1421 (fun k_ => (((P0_1_ k_ ∨ P0_2_ k_ ∨ P1_1_ k_ ∨ P1_2_ k_) ∨ w.heap.size ≤ k_) ∧ (some k_ ≠ (.slice Ao58 y1403.length co58 : Value).ownBlock ∧ (k_ ≠ gb1401 ∧ (k_ ≠ gb1402 ∧ (k_ ≠ gb1415 ∧ k_ ≠ gb1436)))))) _ _ t1422 (fun k_ => (((P0_1_ k_ ∨ P0_2_ k_ ∨ P1_1_ k_ ∨ P1_2_ k_) ∨ w.heap.size ≤ k_) ∧ (some k_ ≠ (.slice Ao58 y1403.length co58 : Value).ownBlock ∧ (k_ ≠ gb1401 ∧ (k_ ≠ gb1402 ∧ (k_ ≠ gb1415 ∧ k_ ≠ gb1436)))))) _ _ t1425 a1_0 (fun k_ => ((((((((P0_1_ k_ ∨ P0_2_ k_ ∨ P1_1_ k_ ∨ P1_2_ k_) ∨ w.heap.size ≤ k_) ∧ k_ ≠ gb1401) ∧ k_ ≠ gb1402) ∧ some k_ ≠ (.slice Ao58 y1403.length co58 : Value).ownBlock) ∧ k_ ≠ gb1415) ∧ k_ ≠ gb1436) ∧ some k_ ≠ (.slice Ao74 y1418.length co74 : Value).ownBlock)) _ _ l1_1 (fun k_ => ((((((((P0_1_ k_ ∨ P0_2_ k_ ∨ P1_1_ k_ ∨ P1_2_ k_) ∨ w.heap.size ≤ k_) ∧ k_ ≠ gb1401) ∧ k_ ≠ gb1402) ∧ some k_ ≠ (.slice Ao58 y1403.length co58 : Value).ownBlock) ∧ k_ ≠ gb1415) ∧ k_ ≠ gb1436) ∧ some k_ ≠ (.slice Ao74 y1418.length co74 : Value).ownBlock)) _ _ l1_2 t1428 t1429 t1432 t1435 _ ?side1 ?side2 ?side3 ?side4 A40.out).mono ?_
         (case side1 => first | exact HO1424.out | exact vz HO1424.out)
         (case side2 => first | exact HO1427.out | exact vz HO1427.out)
         (case side3 => first | exact HO1_1.out | exact vz HO1_1.out)
         (case side4 => first | exact HO1_2.out | exact vz HO1_2.out)
         rintro e w78 ⟨v1430, v1433, rfl, ho0, ho1, hb⟩
         refine ⟨_, rfl, ?_⟩
         replace HO0_1 := kv HO0_1 hb
         replace HO0_2 := kv HO0_2 hb
         replace HO1_1 := kv HO1_1 hb
         replace HO1_2 := kv HO1_2 hb
         replace HO1410 := kv HO1410 hb
         replace HO1413 := kv HO1413 hb
         replace HO1420 := Aside0.mk (Kd.N_below (nu HO1420.out) hb)
         replace HO1424 := kv HO1424 hb
         replace HO1427 := kv HO1427 hb
         have HO1431 := Aside0.mk (Kd.V_lower (Kd.V_mono (ok' := fun k_ => ((P0_1_ k_ ∨ P0_2_ k_ ∨ P1_1_ k_ ∨ P1_2_ k_) ∨ w.heap.size ≤ k_) ∧ some k_ ≠ (.slice Ao58 y1403.length co58 : Value).ownBlock ∧ k_ ≠ gb1401 ∧ k_ ≠ gb1402 ∧ k_ ≠ gb1415 ∧ k_ ≠ gb1436) ho0 (fun k_ hk_ => ⟨Or.elim hk_ (fun hs_ => Or.elim hs_ (fun hs_ => hs_.1) (fun hs_ => Or.elim hs_ (fun hs_ => hs_.1) (fun hs_ => Or.elim hs_ (fun hs_ => hs_.1.1.1.1.1.1) (fun hs_ => hs_.1.1.1.1.1.1)))) (fun hn_ => (.inr (Nat.le_trans (below_size (bu4 HB.out GE1401.out GE1402.out GE1415.out GE1436.out)) hn_))), Or.elim hk_ (fun hs_ => Or.elim hs_ (fun hs_ => hs_.2.1) (fun hs_ => Or.elim hs_ (fun hs_ => hs_.2.1) (fun hs_ => Or.elim hs_ (fun hs_ => hs_.1.1.1.2) (fun hs_ => hs_.1.1.1.2)))) (fun hn_ => (Kd.fresh' (Kd.N_lt (nu HO1405.out)) k_ hn_)), Or.elim hk_ (fun hs_ => Or.elim hs_ (fun hs_ => hs_.2.2.1) (fun hs_ => Or.elim hs_ (fun hs_ => hs_.2.2.1) (fun hs_ => Or.elim hs_ (fun hs_ => hs_.1.1.1.1.1.2) (fun hs_ => hs_.1.1.1.1.1.2)))) (fun hn_ => (Kd.freshB (g := gb1401) (o := .cells #[.bool a0_0, .slice A0_1 l0_1.length c0_1, .slice A0_2 l0_2.length c0_2] 67 (0, 0)) (ku BK1401.out) k_ hn_)), Or.elim hk_ (fun hs_ => Or.elim hs_ (fun hs_ => hs_.2.2.2.1) (fun hs_ => Or.elim hs_ (fun hs_ => hs_.2.2.2.1) (fun hs_ => Or.elim hs_ (fun hs_ => hs_.1.1.1.1.2) (fun hs_ => hs_.1.1.1.1.2)))) (fun hn_ => (Kd.freshB (g := gb1402) (o := .cells #[.bool a1_0, .slice A1_1 l1_1.length c1_1, .slice A1_2 l1_2.length c1_2] 67 (0, 0)) (ku BK1402.out) k_ hn_)), Or.elim hk_ (fun hs_ => Or.elim hs_ (fun hs_ => hs_.2.2.2.2.1) (fun hs_ => Or.elim hs_ (fun hs_ => hs_.2.2.2.2.1) (fun hs_ => Or.elim hs_ (fun hs_ => hs_.1.1.2) (fun hs_ => hs_.1.1.2)))) (fun hn_ => (Kd.freshB (g := gb1415) (o := .cells #[.bool t1407, .slice Ao66 t1408.length co66, .slice Ao67 t1411.length co67] 67 (0, 0)) (ku BK1415.out) k_ hn_)), Or.elim hk_ (fun hs_ => Or.elim hs_ (fun hs_ => hs_.2.2.2.2.2) (fun hs_ => Or.elim hs_ (fun hs_ => hs_.2.2.2.2.2) (fun hs_ => Or.elim hs_ (fun hs_ => hs_.1.2) (fun hs_ => hs_.1.2)))) (fun hn_ => (Kd.freshB (g := gb1436) (o := .cells #[.bool false, .slice none 0 0, .slice none 0 0] 67 (0, 0)) (ku BK1436.out) k_ hn_))⟩)) (below_size (bu4 HB.out GE1401.out GE1402.out GE1415.out GE1436.out)))
         have HO1434 := Aside0.mk (Kd.V_lower (Kd.V_mono (ok' := fun k_ => ((P0_1_ k_ ∨ P0_2_ k_ ∨ P1_1_ k_ ∨ P1_2_ k_) ∨ w.heap.size ≤ k_) ∧ some k_ ≠ (.slice Ao58 y1403.length co58 : Value).ownBlock ∧ k_ ≠ gb1401 ∧ k_ ≠ gb1402 ∧ k_ ≠ gb1415 ∧ k_ ≠ gb1436) ho1 (fun k_ hk_ => ⟨Or.elim hk_ (fun hs_ => Or.elim hs_ (fun hs_ => hs_.1) (fun hs_ => Or.elim hs_ (fun hs_ => hs_.1) (fun hs_ => Or.elim hs_ (fun hs_ => hs_.1.1.1.1.1.1) (fun hs_ => hs_.1.1.1.1.1.1)))) (fun hn_ => (.inr (Nat.le_trans (below_size (bu4 HB.out GE1401.out GE1402.out GE1415.out GE1436.out)) hn_))), Or.elim hk_ (fun hs_ => Or.elim hs_ (fun hs_ => hs_.2.1) (fun hs_ => Or.elim hs_ (fun hs_ => hs_.2.1) (fun hs_ => Or.elim hs_ (fun hs_ => hs_.1.1.1.2) (fun hs_ => hs_.1.1.1.2)))) (fun hn_ => (Kd.fresh' (Kd.N_lt (nu HO1405.out)) k_ hn_)), Or.elim hk_ (fun hs_ => Or.elim hs_ (fun hs_ => hs_.2.2.1) (fun hs_ => Or.elim hs_ (fun hs_ => hs_.2.2.1) (fun hs_ => Or.elim hs_ (fun hs_ => hs_.1.1.1.1.1.2) (fun hs_ => hs_.1.1.1.1.1.2)))) (fun hn_ => (Kd.freshB (g := gb1401) (o := .cells #[.bool a0_0, .slice A0_1 l0_1.length c0_1, .slice A0_2 l0_2.length c0_2] 67 (0, 0)) (ku BK1401.out) k_ hn_)), Or.elim hk_ (fun hs_ => Or.elim hs_ (fun hs_ => hs_.2.2.2.1) (fun hs_ => Or.elim hs_ (fun hs_ => hs_.2.2.2.1) (fun hs_ => Or.elim hs_ (fun hs_ => hs_.1.1.1.1.2) (fun hs_ => hs_.1.1.1.1.2)))) (fun hn_ => (Kd.freshB (g := gb1402) (o := .cells #[.bool a1_0, .slice A1_1 l1_1.length c1_1, .slice A1_2 l1_2.length c1_2] 67 (0, 0)) (ku BK1402.out) k_ hn_)), Or.elim hk_ (fun hs_ => Or.elim hs_ (fun hs_ => hs_.2.2.2.2.1) (fun hs_ => Or.elim hs_ (fun hs_ => hs_.2.2.2.2.1) (fun hs_ => Or.elim hs_ (fun hs_ => hs_.1.1.2) (fun hs_ => hs_.1.1.2)))) (fun hn_ => (Kd.freshB (g := gb1415) (o := .cells #[.bool t1407, .slice Ao66 t1408.length co66, .slice Ao67 t1411.length co67] 67 (0, 0)) (ku BK1415.out) k_ hn_)), Or.elim hk_ (fun hs_ => Or.elim hs_ (fun hs_ => hs_.2.2.2.2.2) (fun hs_ => Or.elim hs_ (fun hs_ => hs_.2.2.2.2.2) (fun hs_ => Or.elim hs_ (fun hs_ => hs_.1.2) (fun hs_ => hs_.1.2)))) (fun hn_ => (Kd.freshB (g := gb1436) (o := .cells #[.bool false, .slice none 0 0, .slice none 0 0] 67 (0, 0)) (ku BK1436.out) k_ hn_))⟩)) (below_size (bu4 HB.out GE1401.out GE1402.out GE1415.out GE1436.out)))
         replace HO1405 := Aside0.mk (Kd.N_below (nu HO1405.out) hb)
         replace BK1401 := kb BK1401 hb
         replace BK1402 := kb BK1402 hb
         replace BK1415 := kb BK1415 hb
         replace BK1436 := kb BK1436 hb
         replace HB := Aside0.mk (below_step (bu4 HB.out GE1401.out GE1402.out GE1415.out GE1436.out) hb)
         (try clear hb)
         (try clear hb2)
         (try clear hk)
         (try clear hi)
         (try clear ho0)
         (try clear ho1)
         refine hK.out _ _ ⟨bc BK1401 0, bc BK1401 1, bc BK1401 2, bc BK1402 0, bc BK1402 1, bc BK1402 2⟩ (fun hHeld => ?_)
         clear hK K
         refine nq 34 ?_
         refine pq 6 (some 28) #[true, true, true, true, true, true, true, false, false, true, false, false] HT_ ?_
         refine pq 7 (some 35) #[true, true, true, true, true, true, true, true, false, true, false, false] HT_ ?_
         refine pq 8 (some 36) #[true, true, true, true, true, true, true, true, true, true, false, false] HT_ ?_
         exact norm_ (by simp only [putAll, Act.put, List.setIfInBounds_toArray, List.set_cons_zero, List.set_cons_succ]) (hCont (.slice Ao74 y1418.length co74, .slice Ao76 t1422.length co76, .slice Ao77 t1425.length co77, v1430, v1433, gb1436) _ ⟨hHeld, (vz HO0_1.out), (vz HO0_2.out), (by (with_reducible repeat (first | apply Kd.N_alloc | apply Kd.N_drewN | apply Kd.N_drew)); exact Kd.N_mono HO1405.out (fun _ hk => ⟨hk.1.1.1.1, ⟨hk.2, ⟨hk.1.1.1.2.1, ⟨hk.1.1.1.2.2, ⟨hk.1.1.2, hk.1.2⟩⟩⟩⟩⟩)), (vz HO1410.out), (vz HO1413.out), (nu HO1420.out), (vu HO1424.out), (vu HO1427.out), (vu HO1431.out), (vu HO1434.out), (vz HO1_1.out), (vz HO1_2.out), (ku BK1401.out), (ku BK1402.out), (ku BK1415.out), (ku BK1436.out), GW1436.out, GE1436.out, NB1401_1436.out, NB1436_1401.out, NB1402_1436.out, NB1436_1402.out, NB1415_1436.out, NB1436_1415.out, (bu4 HB.out GE1401.out GE1402.out GE1415.out GE1436.out)⟩)
       rintro ⟨v1419, v1423, v1426, v1430, v1433, gb1436⟩ w79 ⟨hS_, h0_, h1_, h2_, h3_, h4_, h5_, h6_, h7_, h8_, h9_, h10_, h11_, h12_, h13_, h14_, h15_, h16_, h17_, h18_, h19_, h20_, h21_, h22_, h23_, h24_⟩
       have n0_ : Aside0 (Kd.V (Kd.int .u32) 48 w79 w.heap.size (fun k_ => ((P0_1_ k_ ∨ P0_2_ k_ ∨ P1_1_ k_ ∨ P1_2_ k_) ∨ w.heap.size ≤ k_) ∧ some k_ ≠ (.slice Ao58 y1403.length co58 : Value).ownBlock ∧ some k_ ≠ (v1419 : Value).ownBlock ∧ k_ ≠ gb1401 ∧ k_ ≠ gb1402 ∧ k_ ≠ gb1415 ∧ k_ ≠ gb1436) (.slice A0_1 l0_1.length c0_1) l0_1) := ⟨h0_⟩
       have n1_ : Aside0 (Kd.V (Kd.int .u32) 48 w79 w.heap.size (fun k_ => ((P0_1_ k_ ∨ P0_2_ k_ ∨ P1_1_ k_ ∨ P1_2_ k_) ∨ w.heap.size ≤ k_) ∧ some k_ ≠ (.slice Ao58 y1403.length co58 : Value).ownBlock ∧ some k_ ≠ (v1419 : Value).ownBlock ∧ k_ ≠ gb1401 ∧ k_ ≠ gb1402 ∧ k_ ≠ gb1415 ∧ k_ ≠ gb1436) (.slice A0_2 l0_2.length c0_2) l0_2) := ⟨h1_⟩
       have n2_ : Aside0 (Kd.N k67 67 w79 w.heap.size (fun k_ => ((P0_1_ k_ ∨ P0_2_ k_ ∨ P1_1_ k_ ∨ P1_2_ k_) ∨ w.heap.size ≤ k_) ∧ some k_ ≠ (v1419 : Value).ownBlock ∧ k_ ≠ gb1401 ∧ k_ ≠ gb1402 ∧ k_ ≠ gb1415 ∧ k_ ≠ gb1436) (.slice Ao58 y1403.length co58) y1403) := ⟨h2_⟩
       have n3_ : Aside0 (Kd.V (Kd.int .u32) 48 w79 w.heap.size (fun k_ => ((P0_1_ k_ ∨ P0_2_ k_ ∨ P1_1_ k_ ∨ P1_2_ k_) ∨ w.heap.size ≤ k_) ∧ some k_ ≠ (.slice Ao58 y1403.length co58 : Value).ownBlock ∧ some k_ ≠ (v1419 : Value).ownBlock ∧ k_ ≠ gb1401 ∧ k_ ≠ gb1402 ∧ k_ ≠ gb1415 ∧ k_ ≠ gb1436) (.slice Ao66 t1408.length co66) t1408) := ⟨h3_⟩
       have n4_ : Aside0 (Kd.V (Kd.int .u32) 48 w79 w.heap.size (fun k_ => ((P0_1_ k_ ∨ P0_2_ k_ ∨ P1_1_ k_ ∨ P1_2_ k_) ∨ w.heap.size ≤ k_) ∧ some k_ ≠ (.slice Ao58 y1403.length co58 : Value).ownBlock ∧ some k_ ≠ (v1419 : Value).ownBlock ∧ k_ ≠ gb1401 ∧ k_ ≠ gb1402 ∧ k_ ≠ gb1415 ∧ k_ ≠ gb1436) (.slice Ao67 t1411.length co67) t1411) := ⟨h4_⟩
       have n5_ : Aside0 (Kd.N k67 67 w79 w.heap.size (fun k_ => ((P0_1_ k_ ∨ P0_2_ k_ ∨ P1_1_ k_ ∨ P1_2_ k_) ∨ w.heap.size ≤ k_) ∧ some k_ ≠ (.slice Ao58 y1403.length co58 : Value).ownBlock ∧ k_ ≠ gb1401 ∧ k_ ≠ gb1402 ∧ k_ ≠ gb1415 ∧ k_ ≠ gb1436) v1419 y1418) := ⟨h5_⟩
       have n6_ : Aside0 (Kd.V (Kd.int .u32) 48 w79 w.heap.size (fun k_ => ((P0_1_ k_ ∨ P0_2_ k_ ∨ P1_1_ k_ ∨ P1_2_ k_) ∨ w.heap.size ≤ k_) ∧ some k_ ≠ (.slice Ao58 y1403.length co58 : Value).ownBlock ∧ k_ ≠ gb1401 ∧ k_ ≠ gb1402 ∧ k_ ≠ gb1415 ∧ k_ ≠ gb1436) v1423 t1422) := ⟨h6_⟩
       have n7_ : Aside0 (Kd.V (Kd.int .u32) 48 w79 w.heap.size (fun k_ => ((P0_1_ k_ ∨ P0_2_ k_ ∨ P1_1_ k_ ∨ P1_2_ k_) ∨ w.heap.size ≤ k_) ∧ some k_ ≠ (.slice Ao58 y1403.length co58 : Value).ownBlock ∧ k_ ≠ gb1401 ∧ k_ ≠ gb1402 ∧ k_ ≠ gb1415 ∧ k_ ≠ gb1436) v1426 t1425) := ⟨h7_⟩
       have n8_ : Aside0 (Kd.V (Kd.int .u32) 48 w79 w.heap.size (fun k_ => ((P0_1_ k_ ∨ P0_2_ k_ ∨ P1_1_ k_ ∨ P1_2_ k_) ∨ w.heap.size ≤ k_) ∧ some k_ ≠ (.slice Ao58 y1403.length co58 : Value).ownBlock ∧ k_ ≠ gb1401 ∧ k_ ≠ gb1402 ∧ k_ ≠ gb1415 ∧ k_ ≠ gb1436) v1430 t1429) := ⟨h8_⟩
       have n9_ : Aside0 (Kd.V (Kd.int .u32) 48 w79 w.heap.size (fun k_ => ((P0_1_ k_ ∨ P0_2_ k_ ∨ P1_1_ k_ ∨ P1_2_ k_) ∨ w.heap.size ≤ k_) ∧ some k_ ≠ (.slice Ao58 y1403.length co58 : Value).ownBlock ∧ k_ ≠ gb1401 ∧ k_ ≠ gb1402 ∧ k_ ≠ gb1415 ∧ k_ ≠ gb1436) v1433 t1432) := ⟨h9_⟩
       have n10_ : Aside0 (Kd.V (Kd.int .u32) 48 w79 w.heap.size (fun k_ => ((P0_1_ k_ ∨ P0_2_ k_ ∨ P1_1_ k_ ∨ P1_2_ k_) ∨ w.heap.size ≤ k_) ∧ some k_ ≠ (.slice Ao58 y1403.length co58 : Value).ownBlock ∧ some k_ ≠ (v1419 : Value).ownBlock ∧ k_ ≠ gb1401 ∧ k_ ≠ gb1402 ∧ k_ ≠ gb1415 ∧ k_ ≠ gb1436) (.slice A1_1 l1_1.length c1_1) l1_1) := ⟨h10_⟩
       have n11_ : Aside0 (Kd.V (Kd.int .u32) 48 w79 w.heap.size (fun k_ => ((P0_1_ k_ ∨ P0_2_ k_ ∨ P1_1_ k_ ∨ P1_2_ k_) ∨ w.heap.size ≤ k_) ∧ some k_ ≠ (.slice Ao58 y1403.length co58 : Value).ownBlock ∧ some k_ ≠ (v1419 : Value).ownBlock ∧ k_ ≠ gb1401 ∧ k_ ≠ gb1402 ∧ k_ ≠ gb1415 ∧ k_ ≠ gb1436) (.slice A1_2 l1_2.length c1_2) l1_2) := ⟨h11_⟩
       have n12_ : Aside0 (w79.heap[gb1401]? = some (.cells #[.bool a0_0, .slice A0_1 l0_1.length c0_1, .slice A0_2 l0_2.length c0_2] 67 (0, 0))) := ⟨h12_⟩
       have n13_ : Aside0 (w79.heap[gb1402]? = some (.cells #[.bool a1_0, .slice A1_1 l1_1.length c1_1, .slice A1_2 l1_2.length c1_2] 67 (0, 0))) := ⟨h13_⟩
       have n14_ : Aside0 (w79.heap[gb1415]? = some (.cells #[.bool t1407, .slice Ao66 t1408.length co66, .slice Ao67 t1411.length co67] 67 (0, 0))) := ⟨h14_⟩
       have n15_ : Aside0 (w79.heap[gb1436]? = some (.cells #[.bool false, .slice none 0 0, .slice none 0 0] 67 (0, 0))) := ⟨h15_⟩
       have n16_ : Aside0 (w.heap.size ≤ gb1436) := ⟨h16_⟩
       have n17_ : Aside0 (w.heap.size ≤ gb1436) := ⟨h17_⟩
       have n18_ : Aside0 (gb1401 ≠ gb1436) := ⟨h18_⟩
       have n19_ : Aside0 (gb1436 ≠ gb1401) := ⟨h19_⟩
       have n20_ : Aside0 (gb1402 ≠ gb1436) := ⟨h20_⟩
       have n21_ : Aside0 (gb1436 ≠ gb1402) := ⟨h21_⟩
       have n22_ : Aside0 (gb1415 ≠ gb1436) := ⟨h22_⟩
       have n23_ : Aside0 (gb1436 ≠ gb1415) := ⟨h23_⟩
       have n24_ : Aside0 (Below w.heap.size w w79) := ⟨h24_⟩
       clear HO0_1 HO0_2 HO1_1 HO1_2 HO1405 HO1410 HO1413 BK1401 BK1402 BK1415 HB h0_ h1_ h2_ h3_ h4_ h5_ h6_ h7_ h8_ h9_ h10_ h11_ h12_ h13_ h14_ h15_ h16_ h17_ h18_ h19_ h20_ h21_ h22_ h23_ h24_
       have HO0_1 := n0_
       have HO0_2 := n1_
       have HO1405 := n2_
       have HO1410 := n3_
       have HO1413 := n4_
       have HO1420 := n5_
       have HO1424 := n6_
       have HO1427 := n7_
       have HO1431 := n8_
       have HO1434 := n9_
       have HO1_1 := n10_
       have HO1_2 := n11_
       have BK1401 := n12_
       have BK1402 := n13_
       have BK1415 := n14_
       have BK1436 := n15_
       have GW1436 := n16_
       have GE1436 := n17_
       have NB1401_1436 := n18_
       have NB1436_1401 := n19_
       have NB1402_1436 := n20_
       have NB1436_1402 := n21_
       have NB1415_1436 := n22_
       have NB1436_1415 := n23_
       have HB := n24_
       clear n0_ n1_ n2_ n3_ n4_ n5_ n6_ n7_ n8_ n9_ n10_ n11_ n12_ n13_ n14_ n15_ n16_ n17_ n18_ n19_ n20_ n21_ n22_ n23_ n24_
       have hHeld : w79.cell? ⟨gb1401, 0, none⟩ = some (.bool a0_0) ∧ w79.cell? ⟨gb1401, 1, none⟩ = some (.slice A0_1 l0_1.length c0_1) ∧ w79.cell? ⟨gb1401, 2, none⟩ = some (.slice A0_2 l0_2.length c0_2) ∧ w79.cell? ⟨gb1402, 0, none⟩ = some (.bool a1_0) ∧ w79.cell? ⟨gb1402, 1, none⟩ = some (.slice A1_1 l1_1.length c1_1) ∧ w79.cell? ⟨gb1402, 2, none⟩ = some (.slice A1_2 l1_2.length c1_2) := hS_
       obtain ⟨Ao81, co81, eo81⟩ := Kd.V_slice HO1431.out
       (first | subst eo81 | (injection eo81 with f1_ f2_ f3_; have f4_ := f1_.symm; have f5_ := f3_.symm; clear f1_ f2_ f3_; subst f4_; subst f5_))
       obtain ⟨Ao83, co83, eo83⟩ := Kd.V_slice HO1434.out
       (first | subst eo83 | (injection eo83 with f1_ f2_ f3_; have f4_ := f1_.symm; have f5_ := f3_.symm; clear f1_ f2_ f3_; subst f4_; subst f5_))
       refine norm_ (a' := ?_) ?_ ?_
       rotate_left
       ·
        simp only [putAll, Act.put, List.setIfInBounds_toArray, List.set_cons_zero, List.set_cons_succ]
        rfl
       refine one_ (i := 10) (N := none) #[true, true, true, true, true, true, true, true, true, true, true, false] rfl rfl (one_of HT_.out (by kernel_rfl)) (by decide) (fun K hK => ?_)
       have hs80 : w79.cell? ⟨gb1436, 0, none⟩ = some (.bool false) := bc BK1436 0
       have hfs80 := blk_frozen BK1436.out 0
       have hns80_0 := NB1401_1436.out
       have hns80_1 := NB1402_1436.out
       have hns80_2 := NB1415_1436.out
       have hms80_0 := NB1436_1401.out
       have hms80_1 := NB1436_1402.out
       have hms80_2 := NB1436_1415.out
       have hs82 : w79.cell? ⟨gb1436, 1, none⟩ = some (.slice none 0 0) := bc BK1436 1
       have hfs82 := blk_frozen BK1436.out 1
       have hns82_0 := NB1401_1436.out
       have hns82_1 := NB1402_1436.out
       have hns82_2 := NB1415_1436.out
       have hms82_0 := NB1436_1401.out
       have hms82_1 := NB1436_1402.out
       have hms82_2 := NB1436_1415.out
       have hs84 : w79.cell? ⟨gb1436, 2, none⟩ = some (.slice none 0 0) := bc BK1436 2
       have hfs84 := blk_frozen BK1436.out 2
       have hns84_0 := NB1401_1436.out
       have hns84_1 := NB1402_1436.out
       have hns84_2 := NB1415_1436.out
       have hms84_0 := NB1436_1401.out
       have hms84_1 := NB1436_1402.out
       have hms84_2 := NB1436_1415.out
       refine skip_ (w1 := ?_) (by rfl) rfl ?_ ?_
       rotate_left
       ·
        go_simp
        rfl
       refine hK.out _ _ ⟨((cell_far (p := ⟨gb1436, _, none⟩) NB1401_1436.out _).trans (((cell_far (p := ⟨gb1436, _, none⟩) NB1401_1436.out _).trans (((cell_far (p := ⟨gb1436, _, none⟩) NB1401_1436.out _).trans (hHeld.1)))))), ((cell_far (p := ⟨gb1436, _, none⟩) NB1401_1436.out _).trans (((cell_far (p := ⟨gb1436, _, none⟩) NB1401_1436.out _).trans (((cell_far (p := ⟨gb1436, _, none⟩) NB1401_1436.out _).trans (hHeld.2.1)))))), ((cell_far (p := ⟨gb1436, _, none⟩) NB1401_1436.out _).trans (((cell_far (p := ⟨gb1436, _, none⟩) NB1401_1436.out _).trans (((cell_far (p := ⟨gb1436, _, none⟩) NB1401_1436.out _).trans (hHeld.2.2.1)))))), ((cell_far (p := ⟨gb1436, _, none⟩) NB1402_1436.out _).trans (((cell_far (p := ⟨gb1436, _, none⟩) NB1402_1436.out _).trans (((cell_far (p := ⟨gb1436, _, none⟩) NB1402_1436.out _).trans (hHeld.2.2.2.1)))))), ((cell_far (p := ⟨gb1436, _, none⟩) NB1402_1436.out _).trans (((cell_far (p := ⟨gb1436, _, none⟩) NB1402_1436.out _).trans (((cell_far (p := ⟨gb1436, _, none⟩) NB1402_1436.out _).trans (hHeld.2.2.2.2.1)))))), ((cell_far (p := ⟨gb1436, _, none⟩) NB1402_1436.out _).trans (((cell_far (p := ⟨gb1436, _, none⟩) NB1402_1436.out _).trans (((cell_far (p := ⟨gb1436, _, none⟩) NB1402_1436.out _).trans (hHeld.2.2.2.2.2))))))⟩ (fun hHeld => ?_)
       clear hK K
       refine pq 11 (some 8) #[true, true, true, true, true, true, true, true, true, true, true, true] HT_ ?_
       refine done_ (done_of HT_.out (by kernel_rfl)) ?_
       try go_wp2
       have n0_ : Aside0 (Kd.V (Kd.int .u32) 48 (((w79.setCell ⟨gb1436, 0, none⟩ (.bool t1428)).setCell ⟨gb1436, 1, none⟩ (.slice Ao81 t1429.length co81)).setCell ⟨gb1436, 2, none⟩ (.slice Ao83 t1432.length co83)) w.heap.size (fun k_ => ((P0_1_ k_ ∨ P0_2_ k_ ∨ P1_1_ k_ ∨ P1_2_ k_) ∨ w.heap.size ≤ k_) ∧ some k_ ≠ (.slice Ao58 y1403.length co58 : Value).ownBlock ∧ some k_ ≠ (v1419 : Value).ownBlock ∧ k_ ≠ gb1401 ∧ k_ ≠ gb1402 ∧ k_ ≠ gb1415 ∧ k_ ≠ gb1436) (.slice A0_1 l0_1.length c0_1) l0_1) := ⟨by exact vf HO0_1.out⟩
       have n1_ : Aside0 (Kd.V (Kd.int .u32) 48 (((w79.setCell ⟨gb1436, 0, none⟩ (.bool t1428)).setCell ⟨gb1436, 1, none⟩ (.slice Ao81 t1429.length co81)).setCell ⟨gb1436, 2, none⟩ (.slice Ao83 t1432.length co83)) w.heap.size (fun k_ => ((P0_1_ k_ ∨ P0_2_ k_ ∨ P1_1_ k_ ∨ P1_2_ k_) ∨ w.heap.size ≤ k_) ∧ some k_ ≠ (.slice Ao58 y1403.length co58 : Value).ownBlock ∧ some k_ ≠ (v1419 : Value).ownBlock ∧ k_ ≠ gb1401 ∧ k_ ≠ gb1402 ∧ k_ ≠ gb1415 ∧ k_ ≠ gb1436) (.slice A0_2 l0_2.length c0_2) l0_2) := ⟨by exact vf HO0_2.out⟩
       have n2_ : Aside0 (Kd.V (Kd.int .u32) 48 (((w79.setCell ⟨gb1436, 0, none⟩ (.bool t1428)).setCell ⟨gb1436, 1, none⟩ (.slice Ao81 t1429.length co81)).setCell ⟨gb1436, 2, none⟩ (.slice Ao83 t1432.length co83)) w.heap.size (fun k_ => ((P0_1_ k_ ∨ P0_2_ k_ ∨ P1_1_ k_ ∨ P1_2_ k_) ∨ w.heap.size ≤ k_) ∧ some k_ ≠ (.slice Ao58 y1403.length co58 : Value).ownBlock ∧ some k_ ≠ (v1419 : Value).ownBlock ∧ k_ ≠ gb1401 ∧ k_ ≠ gb1402 ∧ k_ ≠ gb1415 ∧ k_ ≠ gb1436) (.slice A1_1 l1_1.length c1_1) l1_1) := ⟨by exact vf HO1_1.out⟩
       have n3_ : Aside0 (Kd.V (Kd.int .u32) 48 (((w79.setCell ⟨gb1436, 0, none⟩ (.bool t1428)).setCell ⟨gb1436, 1, none⟩ (.slice Ao81 t1429.length co81)).setCell ⟨gb1436, 2, none⟩ (.slice Ao83 t1432.length co83)) w.heap.size (fun k_ => ((P0_1_ k_ ∨ P0_2_ k_ ∨ P1_1_ k_ ∨ P1_2_ k_) ∨ w.heap.size ≤ k_) ∧ some k_ ≠ (.slice Ao58 y1403.length co58 : Value).ownBlock ∧ some k_ ≠ (v1419 : Value).ownBlock ∧ k_ ≠ gb1401 ∧ k_ ≠ gb1402 ∧ k_ ≠ gb1415 ∧ k_ ≠ gb1436) (.slice A1_2 l1_2.length c1_2) l1_2) := ⟨by exact vf HO1_2.out⟩
       have n4_ : Aside0 (Kd.N k67 67 (((w79.setCell ⟨gb1436, 0, none⟩ (.bool t1428)).setCell ⟨gb1436, 1, none⟩ (.slice Ao81 t1429.length co81)).setCell ⟨gb1436, 2, none⟩ (.slice Ao83 t1432.length co83)) w.heap.size (fun k_ => ((P0_1_ k_ ∨ P0_2_ k_ ∨ P1_1_ k_ ∨ P1_2_ k_) ∨ w.heap.size ≤ k_) ∧ some k_ ≠ (v1419 : Value).ownBlock ∧ k_ ≠ gb1401 ∧ k_ ≠ gb1402 ∧ k_ ≠ gb1415 ∧ k_ ≠ gb1436) (.slice Ao58 y1403.length co58) y1403) := ⟨by (with_reducible repeat (first | apply Kd.N_alloc | apply Kd.N_drewN | apply Kd.N_drew)); exact Kd.N_mono (Kd.N_far (p := ⟨gb1436, 2, none⟩) (Kd.N_far (p := ⟨gb1436, 1, none⟩) (Kd.N_far (p := ⟨gb1436, 0, none⟩) (Kd.N_mono HO1405.out (fun k_ hk => (⟨hk, hk.2.2.2.2.2⟩ : _ ∧ k_ ≠ gb1436))) (fun _ hk => hk.2) (.bool t1428)) (fun _ hk => hk.2) (.slice Ao81 t1429.length co81)) (fun _ hk => hk.2) (.slice Ao83 t1432.length co83)) (fun _ hk => ⟨hk.1.1, ⟨hk.1.2.1, ⟨hk.1.2.2.1, ⟨hk.1.2.2.2.1, ⟨hk.1.2.2.2.2.1, hk.1.2.2.2.2.2⟩⟩⟩⟩⟩)⟩
       have n5_ : Aside0 (Kd.V (Kd.int .u32) 48 (((w79.setCell ⟨gb1436, 0, none⟩ (.bool t1428)).setCell ⟨gb1436, 1, none⟩ (.slice Ao81 t1429.length co81)).setCell ⟨gb1436, 2, none⟩ (.slice Ao83 t1432.length co83)) w.heap.size (fun k_ => ((P0_1_ k_ ∨ P0_2_ k_ ∨ P1_1_ k_ ∨ P1_2_ k_) ∨ w.heap.size ≤ k_) ∧ some k_ ≠ (.slice Ao58 y1403.length co58 : Value).ownBlock ∧ some k_ ≠ (v1419 : Value).ownBlock ∧ k_ ≠ gb1401 ∧ k_ ≠ gb1402 ∧ k_ ≠ gb1415 ∧ k_ ≠ gb1436) (.slice Ao66 t1408.length co66) t1408) := ⟨by exact vf HO1410.out⟩
       have n6_ : Aside0 (Kd.V (Kd.int .u32) 48 (((w79.setCell ⟨gb1436, 0, none⟩ (.bool t1428)).setCell ⟨gb1436, 1, none⟩ (.slice Ao81 t1429.length co81)).setCell ⟨gb1436, 2, none⟩ (.slice Ao83 t1432.length co83)) w.heap.size (fun k_ => ((P0_1_ k_ ∨ P0_2_ k_ ∨ P1_1_ k_ ∨ P1_2_ k_) ∨ w.heap.size ≤ k_) ∧ some k_ ≠ (.slice Ao58 y1403.length co58 : Value).ownBlock ∧ some k_ ≠ (v1419 : Value).ownBlock ∧ k_ ≠ gb1401 ∧ k_ ≠ gb1402 ∧ k_ ≠ gb1415 ∧ k_ ≠ gb1436) (.slice Ao67 t1411.length co67) t1411) := ⟨by exact vf HO1413.out⟩
       have n7_ : Aside0 (Kd.N k67 67 (((w79.setCell ⟨gb1436, 0, none⟩ (.bool t1428)).setCell ⟨gb1436, 1, none⟩ (.slice Ao81 t1429.length co81)).setCell ⟨gb1436, 2, none⟩ (.slice Ao83 t1432.length co83)) w.heap.size (fun k_ => ((P0_1_ k_ ∨ P0_2_ k_ ∨ P1_1_ k_ ∨ P1_2_ k_) ∨ w.heap.size ≤ k_) ∧ some k_ ≠ (.slice Ao58 y1403.length co58 : Value).ownBlock ∧ k_ ≠ gb1401 ∧ k_ ≠ gb1402 ∧ k_ ≠ gb1415 ∧ k_ ≠ gb1436) v1419 y1418) := ⟨by (with_reducible repeat (first | apply Kd.N_alloc | apply Kd.N_drewN | apply Kd.N_drew)); exact Kd.N_mono (Kd.N_far (p := ⟨gb1436, 2, none⟩) (Kd.N_far (p := ⟨gb1436, 1, none⟩) (Kd.N_far (p := ⟨gb1436, 0, none⟩) (Kd.N_mono HO1420.out (fun k_ hk => (⟨hk, hk.2.2.2.2.2⟩ : _ ∧ k_ ≠ gb1436))) (fun _ hk => hk.2) (.bool t1428)) (fun _ hk => hk.2) (.slice Ao81 t1429.length co81)) (fun _ hk => hk.2) (.slice Ao83 t1432.length co83)) (fun _ hk => ⟨hk.1.1, ⟨hk.1.2.1, ⟨hk.1.2.2.1, ⟨hk.1.2.2.2.1, ⟨hk.1.2.2.2.2.1, hk.1.2.2.2.2.2⟩⟩⟩⟩⟩)⟩
       have n8_ : Aside0 (Kd.V (Kd.int .u32) 48 (((w79.setCell ⟨gb1436, 0, none⟩ (.bool t1428)).setCell ⟨gb1436, 1, none⟩ (.slice Ao81 t1429.length co81)).setCell ⟨gb1436, 2, none⟩ (.slice Ao83 t1432.length co83)) w.heap.size (fun k_ => ((P0_1_ k_ ∨ P0_2_ k_ ∨ P1_1_ k_ ∨ P1_2_ k_) ∨ w.heap.size ≤ k_) ∧ some k_ ≠ (.slice Ao58 y1403.length co58 : Value).ownBlock ∧ k_ ≠ gb1401 ∧ k_ ≠ gb1402 ∧ k_ ≠ gb1415 ∧ k_ ≠ gb1436) v1423 t1422) := ⟨by exact vf HO1424.out⟩
       have n9_ : Aside0 (Kd.V (Kd.int .u32) 48 (((w79.setCell ⟨gb1436, 0, none⟩ (.bool t1428)).setCell ⟨gb1436, 1, none⟩ (.slice Ao81 t1429.length co81)).setCell ⟨gb1436, 2, none⟩ (.slice Ao83 t1432.length co83)) w.heap.size (fun k_ => ((P0_1_ k_ ∨ P0_2_ k_ ∨ P1_1_ k_ ∨ P1_2_ k_) ∨ w.heap.size ≤ k_) ∧ some k_ ≠ (.slice Ao58 y1403.length co58 : Value).ownBlock ∧ k_ ≠ gb1401 ∧ k_ ≠ gb1402 ∧ k_ ≠ gb1415 ∧ k_ ≠ gb1436) v1426 t1425) := ⟨by exact vf HO1427.out⟩
       have n10_ : Aside0 (Kd.V (Kd.int .u32) 48 (((w79.setCell ⟨gb1436, 0, none⟩ (.bool t1428)).setCell ⟨gb1436, 1, none⟩ (.slice Ao81 t1429.length co81)).setCell ⟨gb1436, 2, none⟩ (.slice Ao83 t1432.length co83)) w.heap.size (fun k_ => ((P0_1_ k_ ∨ P0_2_ k_ ∨ P1_1_ k_ ∨ P1_2_ k_) ∨ w.heap.size ≤ k_) ∧ some k_ ≠ (.slice Ao58 y1403.length co58 : Value).ownBlock ∧ k_ ≠ gb1401 ∧ k_ ≠ gb1402 ∧ k_ ≠ gb1415 ∧ k_ ≠ gb1436) (.slice Ao81 t1429.length co81) t1429) := ⟨by exact vf HO1431.out⟩
       have n11_ : Aside0 (Kd.V (Kd.int .u32) 48 (((w79.setCell ⟨gb1436, 0, none⟩ (.bool t1428)).setCell ⟨gb1436, 1, none⟩ (.slice Ao81 t1429.length co81)).setCell ⟨gb1436, 2, none⟩ (.slice Ao83 t1432.length co83)) w.heap.size (fun k_ => ((P0_1_ k_ ∨ P0_2_ k_ ∨ P1_1_ k_ ∨ P1_2_ k_) ∨ w.heap.size ≤ k_) ∧ some k_ ≠ (.slice Ao58 y1403.length co58 : Value).ownBlock ∧ k_ ≠ gb1401 ∧ k_ ≠ gb1402 ∧ k_ ≠ gb1415 ∧ k_ ≠ gb1436) (.slice Ao83 t1432.length co83) t1432) := ⟨by exact vf HO1434.out⟩
       have n12_ : Aside0 ((((w79.setCell ⟨gb1436, 0, none⟩ (.bool t1428)).setCell ⟨gb1436, 1, none⟩ (.slice Ao81 t1429.length co81)).setCell ⟨gb1436, 2, none⟩ (.slice Ao83 t1432.length co83)).heap[gb1401]? = some (.cells #[.bool a0_0, .slice A0_1 l0_1.length c0_1, .slice A0_2 l0_2.length c0_2] 67 (0, 0))) := ⟨by (with_reducible repeat (first | refine blk_drewN ?_ _ | refine blk_drew ?_ | refine blk_alloc ?_ _)); refine blk_far ?_ NB1401_1436.out _; (with_reducible repeat (first | refine blk_drewN ?_ _ | refine blk_drew ?_ | refine blk_alloc ?_ _)); refine blk_far ?_ NB1401_1436.out _; (with_reducible repeat (first | refine blk_drewN ?_ _ | refine blk_drew ?_ | refine blk_alloc ?_ _)); refine blk_far ?_ NB1401_1436.out _; (with_reducible repeat (first | refine blk_drewN ?_ _ | refine blk_drew ?_ | refine blk_alloc ?_ _)); exact BK1401.out⟩
       have n13_ : Aside0 ((((w79.setCell ⟨gb1436, 0, none⟩ (.bool t1428)).setCell ⟨gb1436, 1, none⟩ (.slice Ao81 t1429.length co81)).setCell ⟨gb1436, 2, none⟩ (.slice Ao83 t1432.length co83)).heap[gb1402]? = some (.cells #[.bool a1_0, .slice A1_1 l1_1.length c1_1, .slice A1_2 l1_2.length c1_2] 67 (0, 0))) := ⟨by (with_reducible repeat (first | refine blk_drewN ?_ _ | refine blk_drew ?_ | refine blk_alloc ?_ _)); refine blk_far ?_ NB1402_1436.out _; (with_reducible repeat (first | refine blk_drewN ?_ _ | refine blk_drew ?_ | refine blk_alloc ?_ _)); refine blk_far ?_ NB1402_1436.out _; (with_reducible repeat (first | refine blk_drewN ?_ _ | refine blk_drew ?_ | refine blk_alloc ?_ _)); refine blk_far ?_ NB1402_1436.out _; (with_reducible repeat (first | refine blk_drewN ?_ _ | refine blk_drew ?_ | refine blk_alloc ?_ _)); exact BK1402.out⟩
       have n14_ : Aside0 ((((w79.setCell ⟨gb1436, 0, none⟩ (.bool t1428)).setCell ⟨gb1436, 1, none⟩ (.slice Ao81 t1429.length co81)).setCell ⟨gb1436, 2, none⟩ (.slice Ao83 t1432.length co83)).heap[gb1415]? = some (.cells #[.bool t1407, .slice Ao66 t1408.length co66, .slice Ao67 t1411.length co67] 67 (0, 0))) := ⟨by (with_reducible repeat (first | refine blk_drewN ?_ _ | refine blk_drew ?_ | refine blk_alloc ?_ _)); refine blk_far ?_ NB1415_1436.out _; (with_reducible repeat (first | refine blk_drewN ?_ _ | refine blk_drew ?_ | refine blk_alloc ?_ _)); refine blk_far ?_ NB1415_1436.out _; (with_reducible repeat (first | refine blk_drewN ?_ _ | refine blk_drew ?_ | refine blk_alloc ?_ _)); refine blk_far ?_ NB1415_1436.out _; (with_reducible repeat (first | refine blk_drewN ?_ _ | refine blk_drew ?_ | refine blk_alloc ?_ _)); exact BK1415.out⟩
       have n15_ : Aside0 ((((w79.setCell ⟨gb1436, 0, none⟩ (.bool t1428)).setCell ⟨gb1436, 1, none⟩ (.slice Ao81 t1429.length co81)).setCell ⟨gb1436, 2, none⟩ (.slice Ao83 t1432.length co83)).heap[gb1436]? = some (.cells #[.bool t1428, .slice Ao81 t1429.length co81, .slice Ao83 t1432.length co83] 67 (0, 0))) := ⟨by (with_reducible repeat (first | refine blk_drewN ?_ _ | refine blk_drew ?_ | refine blk_alloc ?_ _)); refine blk_put (cs := #[.bool t1428, .slice Ao81 t1429.length co81, .slice none 0 0]) ?_ 2 _ rfl; (with_reducible repeat (first | refine blk_drewN ?_ _ | refine blk_drew ?_ | refine blk_alloc ?_ _)); refine blk_put (cs := #[.bool t1428, .slice none 0 0, .slice none 0 0]) ?_ 1 _ rfl; (with_reducible repeat (first | refine blk_drewN ?_ _ | refine blk_drew ?_ | refine blk_alloc ?_ _)); refine blk_put (cs := #[.bool false, .slice none 0 0, .slice none 0 0]) ?_ 0 _ rfl; (with_reducible repeat (first | refine blk_drewN ?_ _ | refine blk_drew ?_ | refine blk_alloc ?_ _)); exact BK1436.out⟩
       have n16_ : Aside0 (Below w.heap.size w (((w79.setCell ⟨gb1436, 0, none⟩ (.bool t1428)).setCell ⟨gb1436, 1, none⟩ (.slice Ao81 t1429.length co81)).setCell ⟨gb1436, 2, none⟩ (.slice Ao83 t1432.length co83))) := ⟨by repeat (first | (with_reducible first | exact HB.out | apply below_alloc | apply pw_below_drewN | apply below_drew1 | refine below_set ?_ GE1401.out | refine below_set ?_ GE1402.out | refine below_set ?_ GE1415.out | refine below_set ?_ GE1436.out) | exact HB.out)⟩
       (try clear HO0_1)
       (try clear HO0_2)
       (try clear HO1_1)
       (try clear HO1_2)
       (try clear HO1405)
       (try clear HO1410)
       (try clear HO1413)
       (try clear HO1420)
       (try clear HO1424)
       (try clear HO1427)
       (try clear HO1431)
       (try clear HO1434)
       (try clear BK1401)
       (try clear BK1402)
       (try clear BK1415)
       (try clear BK1436)
       (try clear HB)
       generalize (((w79.setCell ⟨gb1436, 0, none⟩ (.bool t1428)).setCell ⟨gb1436, 1, none⟩ (.slice Ao81 t1429.length co81)).setCell ⟨gb1436, 2, none⟩ (.slice Ao83 t1432.length co83)) = w85 at n0_ n1_ n2_ n3_ n4_ n5_ n6_ n7_ n8_ n9_ n10_ n11_ n12_ n13_ n14_ n15_ n16_ ⊢
       have HO0_1 := n0_
       have HO0_2 := n1_
       have HO1_1 := n2_
       have HO1_2 := n3_
       have HO1405 := n4_
       have HO1410 := n5_
       have HO1413 := n6_
       have HO1420 := n7_
       have HO1424 := n8_
       have HO1427 := n9_
       have HO1431 := n10_
       have HO1434 := n11_
       have BK1401 := n12_
       have BK1402 := n13_
       have BK1415 := n14_
       have BK1436 := n15_
       have HB := n16_
       clear n0_ n1_ n2_ n3_ n4_ n5_ n6_ n7_ n8_ n9_ n10_ n11_ n12_ n13_ n14_ n15_ n16_
       replace HO0_1 := Aside0.mk (Kd.V_drew HO0_1.out)
       replace HO0_2 := Aside0.mk (Kd.V_drew HO0_2.out)
       replace HO1_1 := Aside0.mk (Kd.V_drew HO1_1.out)
       replace HO1_2 := Aside0.mk (Kd.V_drew HO1_2.out)
       replace HO1405 := Aside0.mk (Kd.N_drew HO1405.out)
       replace HO1410 := Aside0.mk (Kd.V_drew HO1410.out)
       replace HO1413 := Aside0.mk (Kd.V_drew HO1413.out)
       replace HO1420 := Aside0.mk (Kd.N_drew HO1420.out)
       replace HO1424 := Aside0.mk (Kd.V_drew HO1424.out)
       replace HO1427 := Aside0.mk (Kd.V_drew HO1427.out)
       replace HO1431 := Aside0.mk (Kd.V_drew HO1431.out)
       replace HO1434 := Aside0.mk (Kd.V_drew HO1434.out)
       replace BK1401 := Aside0.mk (blk_drew BK1401.out)
       replace BK1402 := Aside0.mk (blk_drew BK1402.out)
       replace BK1415 := Aside0.mk (blk_drew BK1415.out)
       replace BK1436 := Aside0.mk (blk_drew BK1436.out)
       replace HB := Aside0.mk (below_drew1 HB.out)
       refine start_ (n := 26) (S := fun w' => w'.cell? ⟨gb1415, 0, none⟩ = some (.bool t1407) ∧ w'.cell? ⟨gb1415, 1, none⟩ = some (.slice Ao66 t1408.length co66) ∧ w'.cell? ⟨gb1415, 2, none⟩ = some (.slice Ao67 t1411.length co67) ∧ w'.cell? ⟨gb1402, 0, none⟩ = some (.bool a1_0) ∧ w'.cell? ⟨gb1402, 1, none⟩ = some (.slice A1_1 l1_1.length c1_1) ∧ w'.cell? ⟨gb1402, 2, none⟩ = some (.slice A1_2 l1_2.length c1_2) ∧ w'.cell? ⟨gb1401, 0, none⟩ = some (.bool a0_0) ∧ w'.cell? ⟨gb1401, 1, none⟩ = some (.slice A0_1 l0_1.length c0_1) ∧ w'.cell? ⟨gb1401, 2, none⟩ = some (.slice A0_2 l0_2.length c0_2) ∧ w'.cell? ⟨gb1436, 0, none⟩ = some (.bool t1428) ∧ w'.cell? ⟨gb1436, 1, none⟩ = some (.slice Ao81 t1429.length co81) ∧ w'.cell? ⟨gb1436, 2, none⟩ = some (.slice Ao83 t1432.length co83)) (ds := []) #[false, false, false, false, false, false, false, false, false, false, false, false, false, false, false, false, false, false, false, false, false, false, false, false, false, false] (by kernel_rfl) rfl rfl ⟨bc BK1415 0, bc BK1415 1, bc BK1415 2, bc BK1402 0, bc BK1402 1, bc BK1402 2, bc BK1401 0, bc BK1401 1, bc BK1401 2, bc BK1436 0, bc BK1436 1, bc BK1436 2⟩ (fun hHeld => ?_); refine with_tabW codewrightlaw02_RationalDivides.tab7 codewrightlaw02_RationalDivides.bits7 (fun HT_ HW_ => ?_)
       generalize w85.drew = w86 at HO0_1 HO0_2 HO1_1 HO1_2 HO1405 HO1410 HO1413 HO1420 HO1424 HO1427 HO1431 HO1434 BK1401 BK1402 BK1415 BK1436 HB hHeld ⊢
       refine pq 0 (some 37) #[true, false, false, false, false, false, false, false, false, false, false, false, false, false, false, false, false, false, false, false, false, false, false, false, false, false] HT_ ?_
       refine pq 1 (some 38) #[true, true, false, false, false, false, false, false, false, false, false, false, false, false, false, false, false, false, false, false, false, false, false, false, false, false] HT_ ?_
       refine pq 2 (some 39) #[true, true, true, false, false, false, false, false, false, false, false, false, false, false, false, false, false, false, false, false, false, false, false, false, false, false] HT_ ?_
       refine pq 3 (some 40) #[true, true, true, true, false, false, false, false, false, false, false, false, false, false, false, false, false, false, false, false, false, false, false, false, false, false] HT_ ?_
       refine pq 4 (some 41) #[true, true, true, true, true, false, false, false, false, false, false, false, false, false, false, false, false, false, false, false, false, false, false, false, false, false] HT_ ?_
       refine pq 5 (some 42) #[true, true, true, true, true, true, false, false, false, false, false, false, false, false, false, false, false, false, false, false, false, false, false, false, false, false] HT_ ?_
       refine pq 6 (some 43) #[true, true, true, true, true, true, true, false, false, false, false, false, false, false, false, false, false, false, false, false, false, false, false, false, false, false] HT_ ?_
       refine tq 7 (some 44) #[true, true, true, true, true, true, true, true, false, false, false, false, false, false, false, false, false, false, false, false, false, false, false, false, false, false] HT_ HW_ hHeld ?_
       refine one_ (i := 8) (N := some 45) #[true, true, true, true, true, true, true, true, true, false, false, false, false, false, false, false, false, false, false, false, false, false, false, false, false, false] rfl rfl (one_of HT_.out (by kernel_rfl)) (by decide) (fun K hK => ?_)
       refine goes_ Try.func89 (by kernel_rfl) rfl #[.agg #[.bool t1407, .slice Ao66 t1408.length co66, .slice Ao67 t1411.length co67]] (by rfl) rfl rfl lu ?_
       with_reducible refine (rational_Is.calls k t1407 _ _ t1408 _ _ t1411 true _ ?side1 ?side2 ?side3 ?side4 A43.out).mono ?_
       (case side1 => exact cu (Kd.V_reads' HO1410.out).2.2)
       (case side2 => exact (Kd.V_reads' HO1410.out).2.1)
       (case side3 => exact cu (Kd.V_reads' HO1413.out).2.2)
       (case side4 => exact (Kd.V_reads' HO1413.out).2.1)
       rintro e w87 ⟨rfl, hb⟩
       refine ⟨_, rfl, ?_⟩
       replace HO0_1 := kv HO0_1 hb
       replace HO0_2 := kv HO0_2 hb
       replace HO1_1 := kv HO1_1 hb
       replace HO1_2 := kv HO1_2 hb
       replace HO1405 := Aside0.mk (Kd.N_below (nu HO1405.out) hb)
       replace HO1410 := kv HO1410 hb
       replace HO1413 := kv HO1413 hb
       replace HO1420 := Aside0.mk (Kd.N_below (nu HO1420.out) hb)
       replace HO1424 := kv HO1424 hb
       replace HO1427 := kv HO1427 hb
       replace HO1431 := kv HO1431 hb
       replace HO1434 := kv HO1434 hb
       replace BK1401 := kb BK1401 hb
       replace BK1402 := kb BK1402 hb
       replace BK1415 := kb BK1415 hb
       replace BK1436 := kb BK1436 hb
       replace HB := Aside0.mk (below_step (bu4 HB.out GE1401.out GE1402.out GE1415.out GE1436.out) hb)
       (try clear hb)
       (try clear hb2)
       (try clear hk)
       (try clear hi)
       refine hK.out _ _ ⟨bc BK1415 0, bc BK1415 1, bc BK1415 2, bc BK1402 0, bc BK1402 1, bc BK1402 2, bc BK1401 0, bc BK1401 1, bc BK1401 2, bc BK1436 0, bc BK1436 1, bc BK1436 2⟩ (fun hHeld => ?_)
       clear hK K
       refine nq 45 ?_
       refine pq 9 (some 46) #[true, true, true, true, true, true, true, true, true, true, false, false, false, false, false, false, false, false, false, false, false, false, false, false, false, false] HT_ ?_
       refine pq 10 (some 47) #[true, true, true, true, true, true, true, true, true, true, true, false, false, false, false, false, false, false, false, false, false, false, false, false, false, false] HT_ ?_
       refine tq 11 (some 48) #[true, true, true, true, true, true, true, true, true, true, true, true, false, false, false, false, false, false, false, false, false, false, false, false, false, false] HT_ HW_ hHeld ?_
       refine tq 12 (some 49) #[true, true, true, true, true, true, true, true, true, true, true, true, true, false, false, false, false, false, false, false, false, false, false, false, false, false] HT_ HW_ hHeld ?_
       refine tq 15 (some 52) #[true, true, true, true, true, true, true, true, true, true, true, true, true, false, false, true, false, false, false, false, false, false, false, false, false, false] HT_ HW_ hHeld ?_
       refine one_ (i := 13) (N := some 50) #[true, true, true, true, true, true, true, true, true, true, true, true, true, true, false, true, false, false, false, false, false, false, false, false, false, false] rfl rfl (one_of HT_.out (by kernel_rfl)) (by decide) (fun K hK => ?_)
       refine Kd.N_lit_step k67 _ 67 ?hg (N' := 50) ?hd (xs := ([(⟨t1407, t1408, t1411⟩ : S67), (⟨a1_0, l1_1, l1_2⟩ : S67)] : List (S67))) (inner := [.bool t1407, .slice Ao66 t1408.length co66, .slice Ao67 t1411.length co67, .bool a1_0, .slice A1_1 l1_1.length c1_1, .slice A1_2 l1_2.length c1_2]) (ok := (fun k_ => ((P0_1_ k_ ∨ P0_2_ k_ ∨ P1_1_ k_ ∨ P1_2_ k_) ∨ w.heap.size ≤ k_) ∧ some k_ ≠ (.slice Ao58 y1403.length co58 : Value).ownBlock ∧ some k_ ≠ (v1419 : Value).ownBlock ∧ k_ ≠ gb1401 ∧ k_ ≠ gb1402 ∧ k_ ≠ gb1415 ∧ k_ ≠ gb1436)) (okp := (fun k_ => ((P0_1_ k_ ∨ P0_2_ k_ ∨ P1_1_ k_ ∨ P1_2_ k_) ∨ w.heap.size ≤ k_) ∧ some k_ ≠ (.slice Ao58 y1403.length co58 : Value).ownBlock ∧ some k_ ≠ (v1419 : Value).ownBlock ∧ k_ ≠ gb1401 ∧ k_ ≠ gb1402 ∧ k_ ≠ gb1415 ∧ k_ ≠ gb1436)) ?hr ?hp (fun _ hk => hk) ((show ∀ k_, w87.heap.size ≤ k_ → (fun k_ => ((P0_1_ k_ ∨ P0_2_ k_ ∨ P1_1_ k_ ∨ P1_2_ k_) ∨ w.heap.size ≤ k_) ∧ some k_ ≠ (.slice Ao58 y1403.length co58 : Value).ownBlock ∧ some k_ ≠ (v1419 : Value).ownBlock ∧ k_ ≠ gb1401 ∧ k_ ≠ gb1402 ∧ k_ ≠ gb1415 ∧ k_ ≠ gb1436) k_ from fun k_ hk => ⟨(.inr (Nat.le_trans (below_size (bu4 HB.out GE1401.out GE1402.out GE1415.out GE1436.out)) hk)), Kd.fresh' (Kd.N_lt (nu HO1405.out)) k_ hk, Kd.fresh' (Kd.N_lt (nu HO1420.out)) k_ hk, Kd.freshB (g := gb1401) (o := .cells #[.bool a0_0, .slice A0_1 l0_1.length c0_1, .slice A0_2 l0_2.length c0_2] 67 (0, 0)) (ku BK1401.out) k_ hk, Kd.freshB (g := gb1402) (o := .cells #[.bool a1_0, .slice A1_1 l1_1.length c1_1, .slice A1_2 l1_2.length c1_2] 67 (0, 0)) (ku BK1402.out) k_ hk, Kd.freshB (g := gb1415) (o := .cells #[.bool t1407, .slice Ao66 t1408.length co66, .slice Ao67 t1411.length co67] 67 (0, 0)) (ku BK1415.out) k_ hk, Kd.freshB (g := gb1436) (o := .cells #[.bool t1428, .slice Ao81 t1429.length co81, .slice Ao83 t1432.length co83] 67 (0, 0)) (ku BK1436.out) k_ hk⟩) _ (Nat.le_refl _)) (Below.refl _ _) (Nat.le_refl _) (by simp) ?_; (case hd => rfl); (case hg => rfl); (case hr => first | (go_simp; done) | (go_simp; rfl)); (case hp => exact (Reps.c3 (show Kd.FK k67 _ _ (⟨t1407, t1408, t1411⟩ : S67) [.bool t1407, .slice Ao66 t1408.length co66, .slice Ao67 t1411.length co67] from (k67_mkF _ _ (⟨t1407, t1408, t1411⟩ : S67) (Kd.V_reads' (vy ((fun k_ => ((P0_1_ k_ ∨ P0_2_ k_ ∨ P1_1_ k_ ∨ P1_2_ k_) ∨ w.heap.size ≤ k_) ∧ some k_ ≠ (.slice Ao58 y1403.length co58 : Value).ownBlock ∧ some k_ ≠ (v1419 : Value).ownBlock ∧ k_ ≠ gb1401 ∧ k_ ≠ gb1402 ∧ k_ ≠ gb1415 ∧ k_ ≠ gb1436)) HO1410.out)).2.1 (Kd.V_F (vy ((fun k_ => ((P0_1_ k_ ∨ P0_2_ k_ ∨ P1_1_ k_ ∨ P1_2_ k_) ∨ w.heap.size ≤ k_) ∧ some k_ ≠ (.slice Ao58 y1403.length co58 : Value).ownBlock ∧ some k_ ≠ (v1419 : Value).ownBlock ∧ k_ ≠ gb1401 ∧ k_ ≠ gb1402 ∧ k_ ≠ gb1415 ∧ k_ ≠ gb1436)) HO1410.out)) (Kd.V_reads' (vy ((fun k_ => ((P0_1_ k_ ∨ P0_2_ k_ ∨ P1_1_ k_ ∨ P1_2_ k_) ∨ w.heap.size ≤ k_) ∧ some k_ ≠ (.slice Ao58 y1403.length co58 : Value).ownBlock ∧ some k_ ≠ (v1419 : Value).ownBlock ∧ k_ ≠ gb1401 ∧ k_ ≠ gb1402 ∧ k_ ≠ gb1415 ∧ k_ ≠ gb1436)) HO1413.out)).2.1 (Kd.V_F (vy ((fun k_ => ((P0_1_ k_ ∨ P0_2_ k_ ∨ P1_1_ k_ ∨ P1_2_ k_) ∨ w.heap.size ≤ k_) ∧ some k_ ≠ (.slice Ao58 y1403.length co58 : Value).ownBlock ∧ some k_ ≠ (v1419 : Value).ownBlock ∧ k_ ≠ gb1401 ∧ k_ ≠ gb1402 ∧ k_ ≠ gb1415 ∧ k_ ≠ gb1436)) HO1413.out)))) (Reps.c3 (show Kd.FK k67 _ _ (⟨a1_0, l1_1, l1_2⟩ : S67) [.bool a1_0, .slice A1_1 l1_1.length c1_1, .slice A1_2 l1_2.length c1_2] from (k67_mkF _ _ (⟨a1_0, l1_1, l1_2⟩ : S67) (Kd.V_reads' (vy ((fun k_ => ((P0_1_ k_ ∨ P0_2_ k_ ∨ P1_1_ k_ ∨ P1_2_ k_) ∨ w.heap.size ≤ k_) ∧ some k_ ≠ (.slice Ao58 y1403.length co58 : Value).ownBlock ∧ some k_ ≠ (v1419 : Value).ownBlock ∧ k_ ≠ gb1401 ∧ k_ ≠ gb1402 ∧ k_ ≠ gb1415 ∧ k_ ≠ gb1436)) HO1_1.out)).2.1 (Kd.V_F (vy ((fun k_ => ((P0_1_ k_ ∨ P0_2_ k_ ∨ P1_1_ k_ ∨ P1_2_ k_) ∨ w.heap.size ≤ k_) ∧ some k_ ≠ (.slice Ao58 y1403.length co58 : Value).ownBlock ∧ some k_ ≠ (v1419 : Value).ownBlock ∧ k_ ≠ gb1401 ∧ k_ ≠ gb1402 ∧ k_ ≠ gb1415 ∧ k_ ≠ gb1436)) HO1_1.out)) (Kd.V_reads' (vy ((fun k_ => ((P0_1_ k_ ∨ P0_2_ k_ ∨ P1_1_ k_ ∨ P1_2_ k_) ∨ w.heap.size ≤ k_) ∧ some k_ ≠ (.slice Ao58 y1403.length co58 : Value).ownBlock ∧ some k_ ≠ (v1419 : Value).ownBlock ∧ k_ ≠ gb1401 ∧ k_ ≠ gb1402 ∧ k_ ≠ gb1415 ∧ k_ ≠ gb1436)) HO1_2.out)).2.1 (Kd.V_F (vy ((fun k_ => ((P0_1_ k_ ∨ P0_2_ k_ ∨ P1_1_ k_ ∨ P1_2_ k_) ∨ w.heap.size ≤ k_) ∧ some k_ ≠ (.slice Ao58 y1403.length co58 : Value).ownBlock ∧ some k_ ≠ (v1419 : Value).ownBlock ∧ k_ ≠ gb1401 ∧ k_ ≠ gb1402 ∧ k_ ≠ gb1415 ∧ k_ ≠ gb1436)) HO1_2.out)))) (Reps.none _ _))))
       intro v1439 w88 ho89 hb hg_ hnew_
       clear hg_ hnew_
       (first | rw [← Ny1438.out] at ho89 | (simp only [Int.reduceToNat] at ho89; rw [← Ny1438.out] at ho89))
       replace HO0_1 := Aside0.mk (Kd.V_elder' (vu HO0_1.out) (Kd.N_base ho89) hb)
       replace HO0_2 := Aside0.mk (Kd.V_elder' (vu HO0_2.out) (Kd.N_base ho89) hb)
       replace HO1_1 := Aside0.mk (Kd.V_elder' (vu HO1_1.out) (Kd.N_base ho89) hb)
       replace HO1_2 := Aside0.mk (Kd.V_elder' (vu HO1_2.out) (Kd.N_base ho89) hb)
       replace HO1405 := Aside0.mk (Kd.N_elder' (nu HO1405.out) (Kd.N_base ho89) hb)
       replace HO1410 := Aside0.mk (Kd.V_elder' (vu HO1410.out) (Kd.N_base ho89) hb)
       replace HO1413 := Aside0.mk (Kd.V_elder' (vu HO1413.out) (Kd.N_base ho89) hb)
       replace HO1420 := Aside0.mk (Kd.N_elder' (nu HO1420.out) (Kd.N_base ho89) hb)
       replace HO1424 := Aside0.mk (Kd.V_elder' (vu HO1424.out) (Kd.N_base ho89) hb)
       replace HO1427 := Aside0.mk (Kd.V_elder' (vu HO1427.out) (Kd.N_base ho89) hb)
       replace HO1431 := Aside0.mk (Kd.V_elder' (vu HO1431.out) (Kd.N_base ho89) hb)
       replace HO1434 := Aside0.mk (Kd.V_elder' (vu HO1434.out) (Kd.N_base ho89) hb)
       have HO1440 := Aside0.mk (Kd.N_lower ho89 (below_size (bu4 HB.out GE1401.out GE1402.out GE1415.out GE1436.out)))
       replace BK1401 := kb BK1401 hb
       replace BK1402 := kb BK1402 hb
       replace BK1415 := kb BK1415 hb
       replace BK1436 := kb BK1436 hb
       replace HB := Aside0.mk (below_step (bu4 HB.out GE1401.out GE1402.out GE1415.out GE1436.out) hb)
       clear hb ho89
       obtain ⟨Ao90, co90, eo90⟩ := Kd.N_slice HO1440.out
       (first | subst eo90 | (injection eo90 with f1_ f2_ f3_; have f4_ := f1_.symm; have f5_ := f3_.symm; clear f1_ f2_ f3_; subst f4_; subst f5_))
       refine hK.out _ _ ⟨bc BK1415 0, bc BK1415 1, bc BK1415 2, bc BK1402 0, bc BK1402 1, bc BK1402 2, bc BK1401 0, bc BK1401 1, bc BK1401 2, bc BK1436 0, bc BK1436 1, bc BK1436 2⟩ (fun hHeld => ?_)
       clear hK K
       refine nq 50 ?_
       refine one_ (i := 14) (N := some 51) #[true, true, true, true, true, true, true, true, true, true, true, true, true, true, true, true, false, false, false, false, false, false, false, false, false, false] rfl rfl (one_of HT_.out (by kernel_rfl)) (by decide) (fun K hK => ?_)
       refine goes_ Try.func95 (by kernel_rfl) rfl #[.slice Ao90 y1438.length co90] (by rfl) rfl rfl lu ?_
       with_reducible refine (rational_Mul.calls k (fun k_ => (((P0_1_ k_ ∨ P0_2_ k_ ∨ P1_1_ k_ ∨ P1_2_ k_) ∨ w.heap.size ≤ k_) ∧ (some k_ ≠ (.slice Ao58 y1403.length co58 : Value).ownBlock ∧ (some k_ ≠ (v1419 : Value).ownBlock ∧ (k_ ≠ gb1401 ∧ (k_ ≠ gb1402 ∧ (k_ ≠ gb1415 ∧ k_ ≠ gb1436))))))) _ _ y1438 t1441 t1442 t1445 _ ?side1 A45.out).mono ?_
       (case side1 => exact Kd.N_V (HO1440.out))
       rintro e w91 ⟨v1443, v1446, rfl, ho0, ho1, hb⟩
       refine ⟨_, rfl, ?_⟩
       replace HO0_1 := kv HO0_1 hb
       replace HO0_2 := kv HO0_2 hb
       replace HO1_1 := kv HO1_1 hb
       replace HO1_2 := kv HO1_2 hb
       replace HO1410 := kv HO1410 hb
       replace HO1413 := kv HO1413 hb
       replace HO1424 := kv HO1424 hb
       replace HO1427 := kv HO1427 hb
       replace HO1431 := kv HO1431 hb
       replace HO1434 := kv HO1434 hb
       replace HO1440 := Aside0.mk (Kd.N_below (nu HO1440.out) hb)
       have HO1444 := Aside0.mk (Kd.V_lower (Kd.V_mono (ok' := fun k_ => ((P0_1_ k_ ∨ P0_2_ k_ ∨ P1_1_ k_ ∨ P1_2_ k_) ∨ w.heap.size ≤ k_) ∧ some k_ ≠ (.slice Ao58 y1403.length co58 : Value).ownBlock ∧ some k_ ≠ (v1419 : Value).ownBlock ∧ k_ ≠ gb1401 ∧ k_ ≠ gb1402 ∧ k_ ≠ gb1415 ∧ k_ ≠ gb1436) ho0 (fun k_ hk_ => ⟨Or.elim hk_ (fun hs_ => hs_.1) (fun hn_ => (.inr (Nat.le_trans (below_size (bu4 HB.out GE1401.out GE1402.out GE1415.out GE1436.out)) hn_))), Or.elim hk_ (fun hs_ => hs_.2.1) (fun hn_ => (Kd.fresh' (Kd.N_lt (nu HO1405.out)) k_ hn_)), Or.elim hk_ (fun hs_ => hs_.2.2.1) (fun hn_ => (Kd.fresh' (Kd.N_lt (nu HO1420.out)) k_ hn_)), Or.elim hk_ (fun hs_ => hs_.2.2.2.1) (fun hn_ => (Kd.freshB (g := gb1401) (o := .cells #[.bool a0_0, .slice A0_1 l0_1.length c0_1, .slice A0_2 l0_2.length c0_2] 67 (0, 0)) (ku BK1401.out) k_ hn_)), Or.elim hk_ (fun hs_ => hs_.2.2.2.2.1) (fun hn_ => (Kd.freshB (g := gb1402) (o := .cells #[.bool a1_0, .slice A1_1 l1_1.length c1_1, .slice A1_2 l1_2.length c1_2] 67 (0, 0)) (ku BK1402.out) k_ hn_)), Or.elim hk_ (fun hs_ => hs_.2.2.2.2.2.1) (fun hn_ => (Kd.freshB (g := gb1415) (o := .cells #[.bool t1407, .slice Ao66 t1408.length co66, .slice Ao67 t1411.length co67] 67 (0, 0)) (ku BK1415.out) k_ hn_)), Or.elim hk_ (fun hs_ => hs_.2.2.2.2.2.2) (fun hn_ => (Kd.freshB (g := gb1436) (o := .cells #[.bool t1428, .slice Ao81 t1429.length co81, .slice Ao83 t1432.length co83] 67 (0, 0)) (ku BK1436.out) k_ hn_))⟩)) (below_size (bu4 HB.out GE1401.out GE1402.out GE1415.out GE1436.out)))
       have HO1447 := Aside0.mk (Kd.V_lower (Kd.V_mono (ok' := fun k_ => ((P0_1_ k_ ∨ P0_2_ k_ ∨ P1_1_ k_ ∨ P1_2_ k_) ∨ w.heap.size ≤ k_) ∧ some k_ ≠ (.slice Ao58 y1403.length co58 : Value).ownBlock ∧ some k_ ≠ (v1419 : Value).ownBlock ∧ k_ ≠ gb1401 ∧ k_ ≠ gb1402 ∧ k_ ≠ gb1415 ∧ k_ ≠ gb1436) ho1 (fun k_ hk_ => ⟨Or.elim hk_ (fun hs_ => hs_.1) (fun hn_ => (.inr (Nat.le_trans (below_size (bu4 HB.out GE1401.out GE1402.out GE1415.out GE1436.out)) hn_))), Or.elim hk_ (fun hs_ => hs_.2.1) (fun hn_ => (Kd.fresh' (Kd.N_lt (nu HO1405.out)) k_ hn_)), Or.elim hk_ (fun hs_ => hs_.2.2.1) (fun hn_ => (Kd.fresh' (Kd.N_lt (nu HO1420.out)) k_ hn_)), Or.elim hk_ (fun hs_ => hs_.2.2.2.1) (fun hn_ => (Kd.freshB (g := gb1401) (o := .cells #[.bool a0_0, .slice A0_1 l0_1.length c0_1, .slice A0_2 l0_2.length c0_2] 67 (0, 0)) (ku BK1401.out) k_ hn_)), Or.elim hk_ (fun hs_ => hs_.2.2.2.2.1) (fun hn_ => (Kd.freshB (g := gb1402) (o := .cells #[.bool a1_0, .slice A1_1 l1_1.length c1_1, .slice A1_2 l1_2.length c1_2] 67 (0, 0)) (ku BK1402.out) k_ hn_)), Or.elim hk_ (fun hs_ => hs_.2.2.2.2.2.1) (fun hn_ => (Kd.freshB (g := gb1415) (o := .cells #[.bool t1407, .slice Ao66 t1408.length co66, .slice Ao67 t1411.length co67] 67 (0, 0)) (ku BK1415.out) k_ hn_)), Or.elim hk_ (fun hs_ => hs_.2.2.2.2.2.2) (fun hn_ => (Kd.freshB (g := gb1436) (o := .cells #[.bool t1428, .slice Ao81 t1429.length co81, .slice Ao83 t1432.length co83] 67 (0, 0)) (ku BK1436.out) k_ hn_))⟩)) (below_size (bu4 HB.out GE1401.out GE1402.out GE1415.out GE1436.out)))
       replace HO1405 := Aside0.mk (Kd.N_below (nu HO1405.out) hb)
       replace HO1420 := Aside0.mk (Kd.N_below (nu HO1420.out) hb)
       replace BK1401 := kb BK1401 hb
       replace BK1402 := kb BK1402 hb
       replace BK1415 := kb BK1415 hb
       replace BK1436 := kb BK1436 hb
       replace HB := Aside0.mk (below_step (bu4 HB.out GE1401.out GE1402.out GE1415.out GE1436.out) hb)
       (try clear hb)
       (try clear hb2)
       (try clear hk)
       (try clear hi)
       (try clear ho0)
       (try clear ho1)
       refine hK.out _ _ ⟨bc BK1415 0, bc BK1415 1, bc BK1415 2, bc BK1402 0, bc BK1402 1, bc BK1402 2, bc BK1401 0, bc BK1401 1, bc BK1401 2, bc BK1436 0, bc BK1436 1, bc BK1436 2⟩ (fun hHeld => ?_)
       clear hK K
       refine nq 51 ?_
       refine one_ (i := 16) (N := some 53) #[true, true, true, true, true, true, true, true, true, true, true, true, true, true, true, true, true, false, false, false, false, false, false, false, false, false] rfl rfl (one_of HT_.out (by kernel_rfl)) (by decide) (fun K hK => ?_)
       refine goes_ Try.func87 (by kernel_rfl) rfl #[.agg #[.bool a0_0, .slice A0_1 l0_1.length c0_1, .slice A0_2 l0_2.length c0_2]] (by rfl) rfl rfl lu ?_
       with_reducible refine (rational_Trim.calls k a0_0 (fun k_ => ((((P0_1_ k_ ∨ P0_2_ k_ ∨ P1_1_ k_ ∨ P1_2_ k_) ∨ w.heap.size ≤ k_) ∧ (some k_ ≠ (.slice Ao58 y1403.length co58 : Value).ownBlock ∧ (some k_ ≠ (v1419 : Value).ownBlock ∧ (k_ ≠ gb1401 ∧ (k_ ≠ gb1402 ∧ (k_ ≠ gb1415 ∧ k_ ≠ gb1436)))))) ∧ some k_ ≠ (.slice Ao90 y1438.length co90 : Value).ownBlock)) _ _ l0_1 (fun k_ => ((((P0_1_ k_ ∨ P0_2_ k_ ∨ P1_1_ k_ ∨ P1_2_ k_) ∨ w.heap.size ≤ k_) ∧ (some k_ ≠ (.slice Ao58 y1403.length co58 : Value).ownBlock ∧ (some k_ ≠ (v1419 : Value).ownBlock ∧ (k_ ≠ gb1401 ∧ (k_ ≠ gb1402 ∧ (k_ ≠ gb1415 ∧ k_ ≠ gb1436)))))) ∧ some k_ ≠ (.slice Ao90 y1438.length co90 : Value).ownBlock)) _ _ l0_2 t1448 t1449 t1452 _ ?side1 ?side2 A46.out).mono ?_
       (case side1 => first | exact HO0_1.out | exact vz HO0_1.out)
       (case side2 => first | exact HO0_2.out | exact vz HO0_2.out)
       rintro e w92 ⟨v1450, v1453, rfl, ho0, ho1, hb⟩
       refine ⟨_, rfl, ?_⟩
       replace HO0_1 := kv HO0_1 hb
       replace HO0_2 := kv HO0_2 hb
       replace HO1_1 := kv HO1_1 hb
       replace HO1_2 := kv HO1_2 hb
       replace HO1410 := kv HO1410 hb
       replace HO1413 := kv HO1413 hb
       replace HO1424 := kv HO1424 hb
       replace HO1427 := kv HO1427 hb
       replace HO1431 := kv HO1431 hb
       replace HO1434 := kv HO1434 hb
       replace HO1444 := kv HO1444 hb
       replace HO1447 := kv HO1447 hb
       have HO1451 := Aside0.mk (Kd.V_lower (Kd.V_mono (ok' := fun k_ => ((P0_1_ k_ ∨ P0_2_ k_ ∨ P1_1_ k_ ∨ P1_2_ k_) ∨ w.heap.size ≤ k_) ∧ some k_ ≠ (.slice Ao58 y1403.length co58 : Value).ownBlock ∧ some k_ ≠ (v1419 : Value).ownBlock ∧ some k_ ≠ (.slice Ao90 y1438.length co90 : Value).ownBlock ∧ k_ ≠ gb1401 ∧ k_ ≠ gb1402 ∧ k_ ≠ gb1415 ∧ k_ ≠ gb1436) ho0 (fun k_ hk_ => ⟨Or.elim hk_ (fun hs_ => Or.elim hs_ (fun hs_ => hs_.1.1) (fun hs_ => hs_.1.1)) (fun hn_ => (.inr (Nat.le_trans (below_size (bu4 HB.out GE1401.out GE1402.out GE1415.out GE1436.out)) hn_))), Or.elim hk_ (fun hs_ => Or.elim hs_ (fun hs_ => hs_.1.2.1) (fun hs_ => hs_.1.2.1)) (fun hn_ => (Kd.fresh' (Kd.N_lt (nu HO1405.out)) k_ hn_)), Or.elim hk_ (fun hs_ => Or.elim hs_ (fun hs_ => hs_.1.2.2.1) (fun hs_ => hs_.1.2.2.1)) (fun hn_ => (Kd.fresh' (Kd.N_lt (nu HO1420.out)) k_ hn_)), Or.elim hk_ (fun hs_ => Or.elim hs_ (fun hs_ => hs_.2) (fun hs_ => hs_.2)) (fun hn_ => (Kd.fresh' (Kd.N_lt (nu HO1440.out)) k_ hn_)), Or.elim hk_ (fun hs_ => Or.elim hs_ (fun hs_ => hs_.1.2.2.2.1) (fun hs_ => hs_.1.2.2.2.1)) (fun hn_ => (Kd.freshB (g := gb1401) (o := .cells #[.bool a0_0, .slice A0_1 l0_1.length c0_1, .slice A0_2 l0_2.length c0_2] 67 (0, 0)) (ku BK1401.out) k_ hn_)), Or.elim hk_ (fun hs_ => Or.elim hs_ (fun hs_ => hs_.1.2.2.2.2.1) (fun hs_ => hs_.1.2.2.2.2.1)) (fun hn_ => (Kd.freshB (g := gb1402) (o := .cells #[.bool a1_0, .slice A1_1 l1_1.length c1_1, .slice A1_2 l1_2.length c1_2] 67 (0, 0)) (ku BK1402.out) k_ hn_)), Or.elim hk_ (fun hs_ => Or.elim hs_ (fun hs_ => hs_.1.2.2.2.2.2.1) (fun hs_ => hs_.1.2.2.2.2.2.1)) (fun hn_ => (Kd.freshB (g := gb1415) (o := .cells #[.bool t1407, .slice Ao66 t1408.length co66, .slice Ao67 t1411.length co67] 67 (0, 0)) (ku BK1415.out) k_ hn_)), Or.elim hk_ (fun hs_ => Or.elim hs_ (fun hs_ => hs_.1.2.2.2.2.2.2) (fun hs_ => hs_.1.2.2.2.2.2.2)) (fun hn_ => (Kd.freshB (g := gb1436) (o := .cells #[.bool t1428, .slice Ao81 t1429.length co81, .slice Ao83 t1432.length co83] 67 (0, 0)) (ku BK1436.out) k_ hn_))⟩)) (below_size (bu4 HB.out GE1401.out GE1402.out GE1415.out GE1436.out)))
       have HO1454 := Aside0.mk (Kd.V_lower (Kd.V_mono (ok' := fun k_ => ((P0_1_ k_ ∨ P0_2_ k_ ∨ P1_1_ k_ ∨ P1_2_ k_) ∨ w.heap.size ≤ k_) ∧ some k_ ≠ (.slice Ao58 y1403.length co58 : Value).ownBlock ∧ some k_ ≠ (v1419 : Value).ownBlock ∧ some k_ ≠ (.slice Ao90 y1438.length co90 : Value).ownBlock ∧ k_ ≠ gb1401 ∧ k_ ≠ gb1402 ∧ k_ ≠ gb1415 ∧ k_ ≠ gb1436) ho1 (fun k_ hk_ => ⟨Or.elim hk_ (fun hs_ => Or.elim hs_ (fun hs_ => hs_.1.1) (fun hs_ => hs_.1.1)) (fun hn_ => (.inr (Nat.le_trans (below_size (bu4 HB.out GE1401.out GE1402.out GE1415.out GE1436.out)) hn_))), Or.elim hk_ (fun hs_ => Or.elim hs_ (fun hs_ => hs_.1.2.1) (fun hs_ => hs_.1.2.1)) (fun hn_ => (Kd.fresh' (Kd.N_lt (nu HO1405.out)) k_ hn_)), Or.elim hk_ (fun hs_ => Or.elim hs_ (fun hs_ => hs_.1.2.2.1) (fun hs_ => hs_.1.2.2.1)) (fun hn_ => (Kd.fresh' (Kd.N_lt (nu HO1420.out)) k_ hn_)), Or.elim hk_ (fun hs_ => Or.elim hs_ (fun hs_ => hs_.2) (fun hs_ => hs_.2)) (fun hn_ => (Kd.fresh' (Kd.N_lt (nu HO1440.out)) k_ hn_)), Or.elim hk_ (fun hs_ => Or.elim hs_ (fun hs_ => hs_.1.2.2.2.1) (fun hs_ => hs_.1.2.2.2.1)) (fun hn_ => (Kd.freshB (g := gb1401) (o := .cells #[.bool a0_0, .slice A0_1 l0_1.length c0_1, .slice A0_2 l0_2.length c0_2] 67 (0, 0)) (ku BK1401.out) k_ hn_)), Or.elim hk_ (fun hs_ => Or.elim hs_ (fun hs_ => hs_.1.2.2.2.2.1) (fun hs_ => hs_.1.2.2.2.2.1)) (fun hn_ => (Kd.freshB (g := gb1402) (o := .cells #[.bool a1_0, .slice A1_1 l1_1.length c1_1, .slice A1_2 l1_2.length c1_2] 67 (0, 0)) (ku BK1402.out) k_ hn_)), Or.elim hk_ (fun hs_ => Or.elim hs_ (fun hs_ => hs_.1.2.2.2.2.2.1) (fun hs_ => hs_.1.2.2.2.2.2.1)) (fun hn_ => (Kd.freshB (g := gb1415) (o := .cells #[.bool t1407, .slice Ao66 t1408.length co66, .slice Ao67 t1411.length co67] 67 (0, 0)) (ku BK1415.out) k_ hn_)), Or.elim hk_ (fun hs_ => Or.elim hs_ (fun hs_ => hs_.1.2.2.2.2.2.2) (fun hs_ => hs_.1.2.2.2.2.2.2)) (fun hn_ => (Kd.freshB (g := gb1436) (o := .cells #[.bool t1428, .slice Ao81 t1429.length co81, .slice Ao83 t1432.length co83] 67 (0, 0)) (ku BK1436.out) k_ hn_))⟩)) (below_size (bu4 HB.out GE1401.out GE1402.out GE1415.out GE1436.out)))
       replace HO1405 := Aside0.mk (Kd.N_below (nu HO1405.out) hb)
       replace HO1420 := Aside0.mk (Kd.N_below (nu HO1420.out) hb)
       replace HO1440 := Aside0.mk (Kd.N_below (nu HO1440.out) hb)
       replace BK1401 := kb BK1401 hb
       replace BK1402 := kb BK1402 hb
       replace BK1415 := kb BK1415 hb
       replace BK1436 := kb BK1436 hb
       replace HB := Aside0.mk (below_step (bu4 HB.out GE1401.out GE1402.out GE1415.out GE1436.out) hb)
       (try clear hb)
       (try clear hb2)
       (try clear hk)
       (try clear hi)
       (try clear ho0)
       (try clear ho1)
       obtain ⟨Ao93, co93, eo93⟩ := Kd.V_slice HO1444.out
       (first | subst eo93 | (injection eo93 with f1_ f2_ f3_; have f4_ := f1_.symm; have f5_ := f3_.symm; clear f1_ f2_ f3_; subst f4_; subst f5_))
       obtain ⟨Ao94, co94, eo94⟩ := Kd.V_slice HO1447.out
       (first | subst eo94 | (injection eo94 with f1_ f2_ f3_; have f4_ := f1_.symm; have f5_ := f3_.symm; clear f1_ f2_ f3_; subst f4_; subst f5_))
       obtain ⟨Ao95, co95, eo95⟩ := Kd.V_slice HO1451.out
       (first | subst eo95 | (injection eo95 with f1_ f2_ f3_; have f4_ := f1_.symm; have f5_ := f3_.symm; clear f1_ f2_ f3_; subst f4_; subst f5_))
       obtain ⟨Ao96, co96, eo96⟩ := Kd.V_slice HO1454.out
       (first | subst eo96 | (injection eo96 with f1_ f2_ f3_; have f4_ := f1_.symm; have f5_ := f3_.symm; clear f1_ f2_ f3_; subst f4_; subst f5_))
       refine hK.out _ _ ⟨bc BK1415 0, bc BK1415 1, bc BK1415 2, bc BK1402 0, bc BK1402 1, bc BK1402 2, bc BK1401 0, bc BK1401 1, bc BK1401 2, bc BK1436 0, bc BK1436 1, bc BK1436 2⟩ (fun hHeld => ?_)
       clear hK K
       refine nq 53 ?_
       refine one_ (i := 17) (N := some 54) #[true, true, true, true, true, true, true, true, true, true, true, true, true, true, true, true, true, true, false, false, false, false, false, false, false, false] rfl rfl (one_of HT_.out (by kernel_rfl)) (by decide) (fun K hK => ?_)
       refine goes_ Try.func83 (by kernel_rfl) rfl #[.agg #[.bool t1441, .slice Ao93 t1442.length co93, .slice Ao94 t1445.length co94], .agg #[.bool t1448, .slice Ao95 t1449.length co95, .slice Ao96 t1452.length co96]] (by rfl) rfl rfl lu ?_
       with_reducible refine (codewrightlaw02_same.calls k t1441 _ _ t1442 _ _ t1445 t1448 _ _ t1449 _ _ t1452 true _ ?side1 ?side2 ?side3 ?side4 ?side5 ?side6 ?side7 ?side8 A47.out).mono ?_
       (case side1 => exact cu (Kd.V_reads' HO1444.out).2.2)
       (case side2 => exact (Kd.V_reads' HO1444.out).2.1)
       (case side3 => exact cu (Kd.V_reads' HO1447.out).2.2)
       (case side4 => exact (Kd.V_reads' HO1447.out).2.1)
       (case side5 => exact cu (Kd.V_reads' HO1451.out).2.2)
       (case side6 => exact (Kd.V_reads' HO1451.out).2.1)
       (case side7 => exact cu (Kd.V_reads' HO1454.out).2.2)
       (case side8 => exact (Kd.V_reads' HO1454.out).2.1)
       rintro e w97 ⟨rfl, hb⟩
       refine ⟨_, rfl, ?_⟩
       replace HO0_1 := kv HO0_1 hb
       replace HO0_2 := kv HO0_2 hb
       replace HO1_1 := kv HO1_1 hb
       replace HO1_2 := kv HO1_2 hb
       replace HO1405 := Aside0.mk (Kd.N_below (nu HO1405.out) hb)
       replace HO1410 := kv HO1410 hb
       replace HO1413 := kv HO1413 hb
       replace HO1420 := Aside0.mk (Kd.N_below (nu HO1420.out) hb)
       replace HO1424 := kv HO1424 hb
       replace HO1427 := kv HO1427 hb
       replace HO1431 := kv HO1431 hb
       replace HO1434 := kv HO1434 hb
       replace HO1440 := Aside0.mk (Kd.N_below (nu HO1440.out) hb)
       replace HO1444 := kv HO1444 hb
       replace HO1447 := kv HO1447 hb
       replace HO1451 := kv HO1451 hb
       replace HO1454 := kv HO1454 hb
       replace BK1401 := kb BK1401 hb
       replace BK1402 := kb BK1402 hb
       replace BK1415 := kb BK1415 hb
       replace BK1436 := kb BK1436 hb
       replace HB := Aside0.mk (below_step (bu4 HB.out GE1401.out GE1402.out GE1415.out GE1436.out) hb)
       (try clear hb)
       (try clear hb2)
       (try clear hk)
       (try clear hi)
       refine hK.out _ _ ⟨bc BK1415 0, bc BK1415 1, bc BK1415 2, bc BK1402 0, bc BK1402 1, bc BK1402 2, bc BK1401 0, bc BK1401 1, bc BK1401 2, bc BK1436 0, bc BK1436 1, bc BK1436 2⟩ (fun hHeld => ?_)
       clear hK K
       refine nq 54 ?_
       refine pq 18 (some 55) #[true, true, true, true, true, true, true, true, true, true, true, true, true, true, true, true, true, true, true, false, false, false, false, false, false, false] HT_ ?_
       refine pq 19 (some 56) #[true, true, true, true, true, true, true, true, true, true, true, true, true, true, true, true, true, true, true, true, false, false, false, false, false, false] HT_ ?_
       refine tq 20 (some 57) #[true, true, true, true, true, true, true, true, true, true, true, true, true, true, true, true, true, true, true, true, true, false, false, false, false, false] HT_ HW_ hHeld ?_
       refine tq 21 (some 58) #[true, true, true, true, true, true, true, true, true, true, true, true, true, true, true, true, true, true, true, true, true, true, false, false, false, false] HT_ HW_ hHeld ?_
       refine one_ (i := 22) (N := some 59) #[true, true, true, true, true, true, true, true, true, true, true, true, true, true, true, true, true, true, true, true, true, true, true, false, false, false] rfl rfl (one_of HT_.out (by kernel_rfl)) (by decide) (fun K hK => ?_)
       refine goes_ Try.func87 (by kernel_rfl) rfl #[.agg #[.bool a0_0, .slice A0_1 l0_1.length c0_1, .slice A0_2 l0_2.length c0_2]] (by rfl) rfl rfl lu ?_
       with_reducible refine (rational_Trim.calls k a0_0 (fun k_ => ((((P0_1_ k_ ∨ P0_2_ k_ ∨ P1_1_ k_ ∨ P1_2_ k_) ∨ w.heap.size ≤ k_) ∧ (some k_ ≠ (.slice Ao58 y1403.length co58 : Value).ownBlock ∧ (some k_ ≠ (v1419 : Value).ownBlock ∧ (k_ ≠ gb1401 ∧ (k_ ≠ gb1402 ∧ (k_ ≠ gb1415 ∧ k_ ≠ gb1436)))))) ∧ some k_ ≠ (.slice Ao90 y1438.length co90 : Value).ownBlock)) _ _ l0_1 (fun k_ => ((((P0_1_ k_ ∨ P0_2_ k_ ∨ P1_1_ k_ ∨ P1_2_ k_) ∨ w.heap.size ≤ k_) ∧ (some k_ ≠ (.slice Ao58 y1403.length co58 : Value).ownBlock ∧ (some k_ ≠ (v1419 : Value).ownBlock ∧ (k_ ≠ gb1401 ∧ (k_ ≠ gb1402 ∧ (k_ ≠ gb1415 ∧ k_ ≠ gb1436)))))) ∧ some k_ ≠ (.slice Ao90 y1438.length co90 : Value).ownBlock)) _ _ l0_2 t1456 t1457 t1460 _ ?side1 ?side2 A49.out).mono ?_
       (case side1 => first | exact HO0_1.out | exact vz HO0_1.out)
       (case side2 => first | exact HO0_2.out | exact vz HO0_2.out)
       rintro e w98 ⟨v1458, v1461, rfl, ho0, ho1, hb⟩
       refine ⟨_, rfl, ?_⟩
       replace HO0_1 := kv HO0_1 hb
       replace HO0_2 := kv HO0_2 hb
       replace HO1_1 := kv HO1_1 hb
       replace HO1_2 := kv HO1_2 hb
       replace HO1410 := kv HO1410 hb
       replace HO1413 := kv HO1413 hb
       replace HO1424 := kv HO1424 hb
       replace HO1427 := kv HO1427 hb
       replace HO1431 := kv HO1431 hb
       replace HO1434 := kv HO1434 hb
       replace HO1444 := kv HO1444 hb
       replace HO1447 := kv HO1447 hb
       replace HO1451 := kv HO1451 hb
       replace HO1454 := kv HO1454 hb
       have HO1459 := Aside0.mk (Kd.V_lower (Kd.V_mono (ok' := fun k_ => ((P0_1_ k_ ∨ P0_2_ k_ ∨ P1_1_ k_ ∨ P1_2_ k_) ∨ w.heap.size ≤ k_) ∧ some k_ ≠ (.slice Ao58 y1403.length co58 : Value).ownBlock ∧ some k_ ≠ (v1419 : Value).ownBlock ∧ some k_ ≠ (.slice Ao90 y1438.length co90 : Value).ownBlock ∧ k_ ≠ gb1401 ∧ k_ ≠ gb1402 ∧ k_ ≠ gb1415 ∧ k_ ≠ gb1436) ho0 (fun k_ hk_ => ⟨Or.elim hk_ (fun hs_ => Or.elim hs_ (fun hs_ => hs_.1.1) (fun hs_ => hs_.1.1)) (fun hn_ => (.inr (Nat.le_trans (below_size (bu4 HB.out GE1401.out GE1402.out GE1415.out GE1436.out)) hn_))), Or.elim hk_ (fun hs_ => Or.elim hs_ (fun hs_ => hs_.1.2.1) (fun hs_ => hs_.1.2.1)) (fun hn_ => (Kd.fresh' (Kd.N_lt (nu HO1405.out)) k_ hn_)), Or.elim hk_ (fun hs_ => Or.elim hs_ (fun hs_ => hs_.1.2.2.1) (fun hs_ => hs_.1.2.2.1)) (fun hn_ => (Kd.fresh' (Kd.N_lt (nu HO1420.out)) k_ hn_)), Or.elim hk_ (fun hs_ => Or.elim hs_ (fun hs_ => hs_.2) (fun hs_ => hs_.2)) (fun hn_ => (Kd.fresh' (Kd.N_lt (nu HO1440.out)) k_ hn_)), Or.elim hk_ (fun hs_ => Or.elim hs_ (fun hs_ => hs_.1.2.2.2.1) (fun hs_ => hs_.1.2.2.2.1)) (fun hn_ => (Kd.freshB (g := gb1401) (o := .cells #[.bool a0_0, .slice A0_1 l0_1.length c0_1, .slice A0_2 l0_2.length c0_2] 67 (0, 0)) (ku BK1401.out) k_ hn_)), Or.elim hk_ (fun hs_ => Or.elim hs_ (fun hs_ => hs_.1.2.2.2.2.1) (fun hs_ => hs_.1.2.2.2.2.1)) (fun hn_ => (Kd.freshB (g := gb1402) (o := .cells #[.bool a1_0, .slice A1_1 l1_1.length c1_1, .slice A1_2 l1_2.length c1_2] 67 (0, 0)) (ku BK1402.out) k_ hn_)), Or.elim hk_ (fun hs_ => Or.elim hs_ (fun hs_ => hs_.1.2.2.2.2.2.1) (fun hs_ => hs_.1.2.2.2.2.2.1)) (fun hn_ => (Kd.freshB (g := gb1415) (o := .cells #[.bool t1407, .slice Ao66 t1408.length co66, .slice Ao67 t1411.length co67] 67 (0, 0)) (ku BK1415.out) k_ hn_)), Or.elim hk_ (fun hs_ => Or.elim hs_ (fun hs_ => hs_.1.2.2.2.2.2.2) (fun hs_ => hs_.1.2.2.2.2.2.2)) (fun hn_ => (Kd.freshB (g := gb1436) (o := .cells #[.bool t1428, .slice Ao81 t1429.length co81, .slice Ao83 t1432.length co83] 67 (0, 0)) (ku BK1436.out) k_ hn_))⟩)) (below_size (bu4 HB.out GE1401.out GE1402.out GE1415.out GE1436.out)))
       have HO1462 := Aside0.mk (Kd.V_lower (Kd.V_mono (ok' := fun k_ => ((P0_1_ k_ ∨ P0_2_ k_ ∨ P1_1_ k_ ∨ P1_2_ k_) ∨ w.heap.size ≤ k_) ∧ some k_ ≠ (.slice Ao58 y1403.length co58 : Value).ownBlock ∧ some k_ ≠ (v1419 : Value).ownBlock ∧ some k_ ≠ (.slice Ao90 y1438.length co90 : Value).ownBlock ∧ k_ ≠ gb1401 ∧ k_ ≠ gb1402 ∧ k_ ≠ gb1415 ∧ k_ ≠ gb1436) ho1 (fun k_ hk_ => ⟨Or.elim hk_ (fun hs_ => Or.elim hs_ (fun hs_ => hs_.1.1) (fun hs_ => hs_.1.1)) (fun hn_ => (.inr (Nat.le_trans (below_size (bu4 HB.out GE1401.out GE1402.out GE1415.out GE1436.out)) hn_))), Or.elim hk_ (fun hs_ => Or.elim hs_ (fun hs_ => hs_.1.2.1) (fun hs_ => hs_.1.2.1)) (fun hn_ => (Kd.fresh' (Kd.N_lt (nu HO1405.out)) k_ hn_)), Or.elim hk_ (fun hs_ => Or.elim hs_ (fun hs_ => hs_.1.2.2.1) (fun hs_ => hs_.1.2.2.1)) (fun hn_ => (Kd.fresh' (Kd.N_lt (nu HO1420.out)) k_ hn_)), Or.elim hk_ (fun hs_ => Or.elim hs_ (fun hs_ => hs_.2) (fun hs_ => hs_.2)) (fun hn_ => (Kd.fresh' (Kd.N_lt (nu HO1440.out)) k_ hn_)), Or.elim hk_ (fun hs_ => Or.elim hs_ (fun hs_ => hs_.1.2.2.2.1) (fun hs_ => hs_.1.2.2.2.1)) (fun hn_ => (Kd.freshB (g := gb1401) (o := .cells #[.bool a0_0, .slice A0_1 l0_1.length c0_1, .slice A0_2 l0_2.length c0_2] 67 (0, 0)) (ku BK1401.out) k_ hn_)), Or.elim hk_ (fun hs_ => Or.elim hs_ (fun hs_ => hs_.1.2.2.2.2.1) (fun hs_ => hs_.1.2.2.2.2.1)) (fun hn_ => (Kd.freshB (g := gb1402) (o := .cells #[.bool a1_0, .slice A1_1 l1_1.length c1_1, .slice A1_2 l1_2.length c1_2] 67 (0, 0)) (ku BK1402.out) k_ hn_)), Or.elim hk_ (fun hs_ => Or.elim hs_ (fun hs_ => hs_.1.2.2.2.2.2.1) (fun hs_ => hs_.1.2.2.2.2.2.1)) (fun hn_ => (Kd.freshB (g := gb1415) (o := .cells #[.bool t1407, .slice Ao66 t1408.length co66, .slice Ao67 t1411.length co67] 67 (0, 0)) (ku BK1415.out) k_ hn_)), Or.elim hk_ (fun hs_ => Or.elim hs_ (fun hs_ => hs_.1.2.2.2.2.2.2) (fun hs_ => hs_.1.2.2.2.2.2.2)) (fun hn_ => (Kd.freshB (g := gb1436) (o := .cells #[.bool t1428, .slice Ao81 t1429.length co81, .slice Ao83 t1432.length co83] 67 (0, 0)) (ku BK1436.out) k_ hn_))⟩)) (below_size (bu4 HB.out GE1401.out GE1402.out GE1415.out GE1436.out)))
       replace HO1405 := Aside0.mk (Kd.N_below (nu HO1405.out) hb)
       replace HO1420 := Aside0.mk (Kd.N_below (nu HO1420.out) hb)
       replace HO1440 := Aside0.mk (Kd.N_below (nu HO1440.out) hb)
       replace BK1401 := kb BK1401 hb
       replace BK1402 := kb BK1402 hb
       replace BK1415 := kb BK1415 hb
       replace BK1436 := kb BK1436 hb
       replace HB := Aside0.mk (below_step (bu4 HB.out GE1401.out GE1402.out GE1415.out GE1436.out) hb)
       (try clear hb)
       (try clear hb2)
       (try clear hk)
       (try clear hi)
       (try clear ho0)
       (try clear ho1)
       obtain ⟨Ao99, co99, eo99⟩ := Kd.V_slice HO1459.out
       (first | subst eo99 | (injection eo99 with f1_ f2_ f3_; have f4_ := f1_.symm; have f5_ := f3_.symm; clear f1_ f2_ f3_; subst f4_; subst f5_))
       obtain ⟨Ao100, co100, eo100⟩ := Kd.V_slice HO1462.out
       (first | subst eo100 | (injection eo100 with f1_ f2_ f3_; have f4_ := f1_.symm; have f5_ := f3_.symm; clear f1_ f2_ f3_; subst f4_; subst f5_))
       refine hK.out _ _ ⟨bc BK1415 0, bc BK1415 1, bc BK1415 2, bc BK1402 0, bc BK1402 1, bc BK1402 2, bc BK1401 0, bc BK1401 1, bc BK1401 2, bc BK1436 0, bc BK1436 1, bc BK1436 2⟩ (fun hHeld => ?_)
       clear hK K
       refine nq 59 ?_
       refine one_ (i := 23) (N := some 60) #[true, true, true, true, true, true, true, true, true, true, true, true, true, true, true, true, true, true, true, true, true, true, true, true, false, false] rfl rfl (one_of HT_.out (by kernel_rfl)) (by decide) (fun K hK => ?_)
       refine goes_ Try.func83 (by kernel_rfl) rfl #[.agg #[.bool t1428, .slice Ao81 t1429.length co81, .slice Ao83 t1432.length co83], .agg #[.bool t1456, .slice Ao99 t1457.length co99, .slice Ao100 t1460.length co100]] (by rfl) rfl rfl lu ?_
       with_reducible refine (codewrightlaw02_same.calls k t1428 _ _ t1429 _ _ t1432 t1456 _ _ t1457 _ _ t1460 t1463 _ ?side1 ?side2 ?side3 ?side4 ?side5 ?side6 ?side7 ?side8 A50.out).mono ?_
       (case side1 => exact cu (Kd.V_reads' HO1431.out).2.2)
       (case side2 => exact (Kd.V_reads' HO1431.out).2.1)
       (case side3 => exact cu (Kd.V_reads' HO1434.out).2.2)
       (case side4 => exact (Kd.V_reads' HO1434.out).2.1)
       (case side5 => exact cu (Kd.V_reads' HO1459.out).2.2)
       (case side6 => exact (Kd.V_reads' HO1459.out).2.1)
       (case side7 => exact cu (Kd.V_reads' HO1462.out).2.2)
       (case side8 => exact (Kd.V_reads' HO1462.out).2.1)
       rintro e w101 ⟨rfl, hb⟩
       refine ⟨_, rfl, ?_⟩
       replace HO0_1 := kv HO0_1 hb
       replace HO0_2 := kv HO0_2 hb
       replace HO1_1 := kv HO1_1 hb
       replace HO1_2 := kv HO1_2 hb
       replace HO1405 := Aside0.mk (Kd.N_below (nu HO1405.out) hb)
       replace HO1410 := kv HO1410 hb
       replace HO1413 := kv HO1413 hb
       replace HO1420 := Aside0.mk (Kd.N_below (nu HO1420.out) hb)
       replace HO1424 := kv HO1424 hb
       replace HO1427 := kv HO1427 hb
       replace HO1431 := kv HO1431 hb
       replace HO1434 := kv HO1434 hb
       replace HO1440 := Aside0.mk (Kd.N_below (nu HO1440.out) hb)
       replace HO1444 := kv HO1444 hb
       replace HO1447 := kv HO1447 hb
       replace HO1451 := kv HO1451 hb
       replace HO1454 := kv HO1454 hb
       replace HO1459 := kv HO1459 hb
       replace HO1462 := kv HO1462 hb
       replace BK1401 := kb BK1401 hb
       replace BK1402 := kb BK1402 hb
       replace BK1415 := kb BK1415 hb
       replace BK1436 := kb BK1436 hb
       replace HB := Aside0.mk (below_step (bu4 HB.out GE1401.out GE1402.out GE1415.out GE1436.out) hb)
       (try clear hb)
       (try clear hb2)
       (try clear hk)
       (try clear hi)
       refine hK.out _ _ ⟨bc BK1415 0, bc BK1415 1, bc BK1415 2, bc BK1402 0, bc BK1402 1, bc BK1402 2, bc BK1401 0, bc BK1401 1, bc BK1401 2, bc BK1436 0, bc BK1436 1, bc BK1436 2⟩ (fun hHeld => ?_)
       clear hK K
       refine nq 60 ?_
       refine pq 24 (some 61) #[true, true, true, true, true, true, true, true, true, true, true, true, true, true, true, true, true, true, true, true, true, true, true, true, true, false] HT_ ?_
       refine pq 25 (some 4) #[true, true, true, true, true, true, true, true, true, true, true, true, true, true, true, true, true, true, true, true, true, true, true, true, true, true] HT_ ?_
       refine done_ (done_of HT_.out (by kernel_rfl)) ?_
       try go_wp2
       go_ret
       exact ⟨by first | rfl | (simp [errW_none, errW_some] <;> rfl) | (simp [*, errW_none, errW_some] <;> rfl), by repeat (first | (with_reducible first | exact HB.out | apply below_alloc | apply pw_below_drewN | apply below_drew1 | refine below_set ?_ GE1401.out | refine below_set ?_ GE1402.out | refine below_set ?_ GE1415.out | refine below_set ?_ GE1436.out) | exact HB.out)⟩
      ·
       replace c48 := Bool.eq_false_iff.mpr c48
       subst c48
       have H1 : (none) = some r := by rw [if_neg (show ¬ (false = true) by decide)] at H; exact H
       clear H
       have H := H1
       clear H1
       exact absurd H (by simp)
     ·
      replace c44 := Bool.eq_false_iff.mpr c44
      subst c44
      have H1 : (none) = some r := by rw [if_neg (show ¬ (false = true) by decide)] at H; exact H
      clear H
      have H := H1
      clear H1
      exact absurd H (by simp)
    ·
     rw [if_neg c42] at H
     exact absurd H (by simp)
   ·
    rw [if_neg c41] at H
    exact absurd H (by simp)
end Go.Proofs.Ytecfdemglbfnoaa.PT
end
section
namespace Go.Proofs.Ytecfdemglbfnoaa.Num
open Go.RowKit Go.Proofs.Ytecfdemglbfnoaa.PT Go.Proofs.YtecfdemglbfnoaaW.PrintWords
/-- The canonical data of a fraction. -/
def rep (q : Rat) : Bool × List Int × List Int := (decide (q.num < 0), lb q.num.natAbs, lb q.den)
/-- A number with a sign. -/
def sg (neg : Bool) (n : Nat) : Int := if neg then -(n : Int) else (n : Int)
/-- The value of any data: 0 if the denominator is 0. -/
def rv (neg : Bool) (n d : List Int) : Rat := mkRat (sg neg (valn n)) (valn d)
/-- Numerator and denominator have at most m limbs. -/
def Sz (m : Nat) (q : Rat) : Prop := q.num.natAbs < pw m ∧ q.den < pw m
theorem sg_abs (neg : Bool) (n : Nat) : (sg neg n).natAbs = n := by cases neg <;> simp [sg]
theorem sg_self (z : Int) : sg (decide (z < 0)) z.natAbs = z := by
  by_cases h : z < 0
  · rw [decide_eq_true h]; simp only [sg, if_true]; omega
  · rw [decide_eq_false h]; simp only [sg, Bool.false_eq_true, if_false]; omega
theorem sg_zero (neg : Bool) : sg neg 0 = 0 := by cases neg <;> rfl
theorem sg_ne {neg : Bool} {n : Nat} (h : n ≠ 0) : sg neg n ≠ 0 := by cases neg <;> simp [sg, h]
theorem sg_mul (a b : Bool) (m n : Nat) : sg (a != b) (m * n) = sg a m * sg b n := by cases a <;> cases b <;> simp [sg, Int.neg_mul, Int.mul_neg]
theorem sg_div (neg : Bool) {m g : Nat} (h : g ∣ m) : sg neg m / (g : Int) = sg neg (m / g) := by
  cases neg
  · simp [sg]
  · simp only [sg, if_true]
    rw [Int.neg_ediv_of_dvd (Int.ofNat_dvd.mpr h)]; rfl
theorem rv_zero_num (neg : Bool) {n d : List Int} (h : valn n = 0) : rv neg n d = 0 := by rw [rv, h, sg_zero]; exact Rat.zero_mkRat _
theorem rv_zero_den (neg : Bool) {n d : List Int} (h : valn d = 0) : rv neg n d = 0 := by rw [rv, h]; exact Rat.mkRat_zero _
theorem rv_rep (q : Rat) : rv (rep q).1 (rep q).2.1 (rep q).2.2 = q := by
  simp only [rep, rv, valn_lb, sg_self]; exact Rat.mkRat_self q
theorem rep_zero : rep 0 = (false, [], [1]) := by
  simp only [rep, Rat.zero_num, Rat.zero_den]
  rw [show lb (0 : Int).natAbs = [] from lb_zero, show lb 1 = [1] from by rw [lb_pos (by decide), show (1 : Nat) / 4294967296 = 0 from rfl, lb_zero]; rfl]
  rfl
theorem rep_inj {p q : Rat} (h : rep p = rep q) : p = q := by rw [← rv_rep p, ← rv_rep q, h]
theorem rep_mkRat (neg : Bool) {n d : Nat} (hn : n ≠ 0) (hd : d ≠ 0) : rep (mkRat (sg neg n) d) = (neg, lb (n / n.gcd d), lb (d / n.gcd d)) := by
  have hg : d.gcd n = n.gcd d := Nat.gcd_comm d n
  have hdv : n.gcd d ∣ n := Nat.gcd_dvd_left n d
  have hq : n / n.gcd d ≠ 0 := Nat.ne_of_gt (Nat.div_pos (Nat.le_of_dvd (Nat.pos_of_ne_zero hn) hdv) (Nat.gcd_pos_of_pos_left _ (Nat.pos_of_ne_zero hn)))
  have hnum : (mkRat (sg neg n) d).num = sg neg (n / n.gcd d) := by
    rw [Rat.num_mkRat, if_neg hd, sg_abs, hg, sg_div neg hdv]
  have hden : (mkRat (sg neg n) d).den = d / n.gcd d := by
    rw [Rat.den_mkRat, if_neg hd, sg_abs, hg]
  have hs : decide (sg neg (n / n.gcd d) < 0) = neg := by
    generalize n / n.gcd d = x at hq
    cases neg
    · exact decide_eq_false (by simp [sg])
    · exact decide_eq_true (by simp only [sg, if_true]; omega)
  simp only [rep, hnum, hden, sg_abs, hs]
theorem mkRat_sz {neg : Bool} {n d m : Nat} (hn : n < pw m) (hd : d < pw m) (hm : 1 ≤ m) : Sz m (mkRat (sg neg n) d) := by
  have h1 : 1 < pw m := Nat.lt_of_lt_of_le (by rw [pw_succ, pw_zero]; decide) (pw_mono hm)
  refine ⟨?_, ?_⟩
  · rw [Rat.num_mkRat]
    split
    · exact pw_pos m
    · rw [sg_abs, sg_div neg (Nat.gcd_dvd_right d n), sg_abs]; exact Nat.lt_of_le_of_lt (Nat.div_le_self _ _) hn
  · rw [Rat.den_mkRat]
    split
    · exact h1
    · exact Nat.lt_of_le_of_lt (Nat.div_le_self _ _) hd
theorem Sz_rv {neg : Bool} {n d : List Int} {m : Nat} (hn : U n) (hd : U d) (ln : n.length ≤ m) (ld : d.length ≤ m) (hm : 1 ≤ m) : Sz m (rv neg n d) :=
  mkRat_sz (Nat.lt_of_lt_of_le (valn_lt hn) (pw_mono ln)) (Nat.lt_of_lt_of_le (valn_lt hd) (pw_mono ld)) hm
theorem mul_pw' {x y m n : Nat} (h1 : x < pw m) (h2 : y < pw n) : x * y < pw (m + n) := by rw [pw_add]; exact Nat.mul_lt_mul'' h1 h2
theorem mul_parts (p q : Rat) : p * q = mkRat (sg (decide (p.num < 0) != decide (q.num < 0)) (p.num.natAbs * q.num.natAbs)) (p.den * q.den) := by
  rw [Rat.mul_def', sg_mul, sg_self, sg_self]
theorem Sz_mul {m n : Nat} {p q : Rat} (hp : Sz m p) (hq : Sz n q) (hm : 1 ≤ m) : Sz (m + n) (p * q) := by
  rw [mul_parts]; exact mkRat_sz (mul_pw' hp.1 hq.1) (mul_pw' hp.2 hq.2) (by omega)
theorem Sz_inv {m : Nat} {p : Rat} (hp : Sz m p) (hm : 1 ≤ m) : Sz m p⁻¹ := by
  have h1 : 1 < pw m := Nat.lt_of_lt_of_le (by rw [pw_succ, pw_zero]; decide) (pw_mono hm)
  refine ⟨?_, ?_⟩
  · rw [Rat.num_inv, Int.natAbs_mul, Int.natAbs_natCast]
    refine Nat.lt_of_le_of_lt ?_ hp.2
    have : p.num.sign.natAbs ≤ 1 := by
      rcases Int.lt_trichotomy p.num 0 with h | h | h
      · rw [Int.sign_eq_neg_one_of_neg h]; decide
      · rw [h]; decide
      · rw [Int.sign_eq_one_of_pos h]; decide
    calc _ ≤ 1 * p.den := Nat.mul_le_mul_right _ this
      _ = _ := Nat.one_mul _
  · rw [Rat.den_inv]
    split
    · exact h1
    · exact hp.1
end Go.Proofs.Ytecfdemglbfnoaa.Num
end
section
namespace Go.Proofs.Ytecfdemglbfnoaa.Num
open Go.RowKit Go.Proofs.Ytecfdemglbfnoaa.PT Go.Proofs.YtecfdemglbfnoaaW.PrintWords Go.Proofs.YtecfdemglbfnoaaW.PrintLast Go.Proofs.YtecfdemglbfnoaaW.PrintMore
theorem Ev_pos {α : Type} {c : Prop} [Decidable c] {f g : Nat → Option α} {r : α} (h : c) (k : Ev f r) : Ev (fun n => if c then f n else g n) r := Ev.congr (fun _ => if_pos h) k
theorem Ev_neg {α : Type} {c : Prop} [Decidable c] {f g : Nat → Option α} {r : α} (h : ¬ c) (k : Ev g r) : Ev (fun n => if c then f n else g n) r := Ev.congr (fun _ => if_neg h) k
theorem two_pw (n : Nat) : pw n = 2 ^ (32 * n) := by rw [pw_eq, Nat.pow_mul]
/-- The last limb and the number of digits. -/
theorem sz_lb {v M : Nat} (hl : (lb v).length = M + 1) {t : Nat} (et : rd (lb v) (M : Int) = (t : Int)) (h0 : v ≠ 0) : sz v = 32 * M + sz t := by
  have h1 := top_val hl et
  rw [valn_lb] at h1
  have h2 := take_lt' (U_lb v) M
  have ht : t ≠ 0 := by
    intro h
    have h3 := rd_lb_last h0
    rw [hl, Nat.add_sub_cancel, et, h] at h3
    exact h3 rfl
  have e : v / 2 ^ (32 * M) = t := by
    rw [← two_pw, h1, Nat.add_mul_div_left _ _ (pw_pos M), Nat.div_eq_of_lt h2, Nat.zero_add]
  rw [sz_div (n := v) (k := 32 * M) (by rw [e]; exact ht), e]
theorem Bits_f {l : List Int} (ul : U l) (hl : l.length ≤ 100000000) : Ev (fun k => nat_Bits.f k l) ((sz (valn l) : Nat) : Int) := by
  have hs := short_f ul (by omega)
  have hL := lb_len ul
  generalize valn l = v at *
  by_cases h0 : v = 0
  · subst h0
    rw [lb_zero] at hs
    exact Ev.bind hs (Ev.now _)
  · obtain ⟨M, hM⟩ : ∃ M, (lb v).length = M + 1 := ⟨(lb v).length - 1, by
      have : (lb v).length ≠ 0 := fun h => h0 (lb_eq_nil.mp (List.length_eq_zero_iff.mp h))
      omega⟩
    obtain ⟨t, et, ht⟩ := rd_nat (U_lb v) (M : Int)
    have hz := sz_lb hM et h0
    have ht32 : sz t ≤ 32 := sz_le (b := 32) ht
    have c : ¬ (((M + 1 : Nat) : Int) = 0) ∧ (0 : Int) ≤ (M : Int) ∧ (M : Int) < ((M + 1 : Nat) : Int) ∧ M < 9223372036854775807 ∧ (32 : Int) * (M : Int) = ((32 * M : Nat) : Int) := by omega
    have ws : wrap64 (((M + 1 : Nat) : Int) - 1) = (M : Int) ∧ wrap64 ((32 * M : Nat) : Int) = ((32 * M : Nat) : Int) ∧ wrap64 (((32 * M : Nat) : Int) + ((sz t : Nat) : Int)) = ((32 * M + sz t : Nat) : Int) := ⟨dn M c.2.2.2.1, w64 (by omega) (by omega), by rw [w64 (by omega) (by omega)]; rfl⟩
    refine Ev.bind hs (Ev.congr (f := fun _ => some ((sz v : Nat) : Int)) (fun k => ?_) (Ev.now _))
    rw [hM, if_neg c.1, ws.1, if_pos c.2.1, if_pos c.2.2.1, et, Len32_f t ht, Option.bind_some, c.2.2.2.2, ws.2.1, ws.2.2, hz]
theorem mod32 (r : Nat) : r * 4294967296 % 2 ^ 32 = 0 := by rw [show (2 : Nat) ^ 32 = 4294967296 from rfl]; exact Nat.mul_mod_left ..
theorem or_rx {r x : Nat} (hr : r < 4294967296) (hx : x < 4294967296) : Go.bits .or .u64 (IntKind.u64.wrap ((r : Int) * 4294967296)) (IntKind.u64.wrap (x : Int)) = ((r * 4294967296 + x : Nat) : Int) := by
  have e : (r : Int) * 4294967296 = ((r * 4294967296 : Nat) : Int) := by simp
  rw [e, u64 (x := ((r * 4294967296 : Nat) : Int)) (by omega) (by omega), u64 (x := (x : Int)) (by omega) (by omega), or64 32 _ _ (mod32 r) (by omega) hx (by omega)]
theorem digit_l0 {a : List Int} (ua : U a) {b : Nat} (hb : 0 < b) (hb' : b < 4294967296) (hs : a.length ≤ 100000000) : ∀ (j : Nat) (out : List Int) (r : Nat), j ≤ a.length → out.length = a.length → U out → r = valn (a.drop j) % b → valn (out.drop j) = valn (a.drop j) / b →
    Ev (fun k => nat_digit.l0 k a (b : Int) out (r : Int) ((j : Int) - 1)) (lb (valn a / b), ((valn a % b : Nat) : Int)) := by
  intro j
  induction j with
  | zero =>
    intro out r _ hout uo hr hv
    rw [List.drop_zero] at hr hv
    rw [List.drop_zero] at hv
    have hsh := short_f uo (by omega)
    rw [hv] at hsh
    refine Ev_succ ?_
    refine Ev.congr (fun k => ?_) (Ev.bind (f := fun _ x => some (x, ((valn a % b : Nat) : Int))) hsh (Ev.now _))
    simp only [nat_digit.l0]
    have hrb : r < b := by rw [hr]; exact Nat.mod_lt _ hb
    have e : (r : Int) % 4294967296 = (r : Int) := by omega
    rw [if_neg (by omega), e, hr]
  | succ j ih =>
    intro out r hj hout uo hr hv
    obtain ⟨x, ex, hx⟩ := rd_nat ua (j : Int)
    have hrb : r < b := by rw [hr]; exact Nat.mod_lt _ hb
    have hd := valn_drop_rd a j
    rw [ex, Int.toNat_natCast] at hd
    have key : valn (a.drop j) = (r * 4294967296 + x) + b * (4294967296 * (valn (a.drop (j + 1)) / b)) := by
      have h1 := Nat.div_add_mod (valn (a.drop (j + 1))) b
      rw [← hr] at h1
      have h2 : b * (4294967296 * (valn (a.drop (j + 1)) / b)) = 4294967296 * (b * (valn (a.drop (j + 1)) / b)) := by ac_rfl
      rw [hd, h2]
      generalize b * (valn (a.drop (j + 1)) / b) = y at *
      omega
    have hrx : r * 4294967296 + x < b * 4294967296 := by
      have : (r + 1) * 4294967296 ≤ b * 4294967296 := Nat.mul_le_mul_right _ hrb
      omega
    have hq : (r * 4294967296 + x) / b < 4294967296 := (Nat.div_lt_iff_lt_mul hb).mpr (by rw [Nat.mul_comm 4294967296 b]; exact hrx)
    have k1 : valn (a.drop j) % b = (r * 4294967296 + x) % b := by rw [key, Nat.add_mul_mod_self_left]
    have k2 : valn (a.drop j) / b = (r * 4294967296 + x) / b + 4294967296 * (valn (a.drop (j + 1)) / b) := by rw [key, Nat.add_mul_div_left _ _ hb]
    obtain ⟨D, hD⟩ : ∃ D, (r * 4294967296 + x) / b = D := ⟨_, rfl⟩
    rw [hD] at hq k2
    have step := ih (out.set j (D : Int)) ((r * 4294967296 + x) % b) (by omega) (by rw [List.length_set]; exact hout) (U_set uo ⟨Int.natCast_nonneg _, by omega⟩ _) k1.symm (by
      rw [valn_drop_rd, rd_set_eq _ _ _ (by omega), Int.toNat_natCast, List.drop_set_of_lt (by omega), hv, k2])
    have rx64 : r * 4294967296 + x < 18446744073709551616 := by omega
    have et : Go.bits .or .u64 (IntKind.u64.wrap ((r : Int) * 4294967296)) (IntKind.u64.wrap (rd a (j : Int))) = ((r * 4294967296 + x : Nat) : Int) := by rw [ex]; exact or_rx (Nat.lt_trans hrb hb') hx
    have eb : IntKind.u64.wrap (b : Int) = (b : Int) := u64 (by omega) (by omega)
    have eD : IntKind.u64.wrap ((D : Nat) : Int) % 4294967296 = (D : Int) := by rw [u64 (by omega) (by omega)]; omega
    have ej : ((j + 1 : Nat) : Int) - 1 = (j : Int) := by omega
    have c : (j : Int) ≥ 0 ∧ (0 : Int) ≤ (j : Int) ∧ (j : Int) < (a.length : Int) ∧ ¬ ((b : Int) = 0) ∧ (j : Int) < (out.length : Int) := by omega
    have wj : wrap64 ((j : Int) - 1) = (j : Int) - 1 := w64 (by omega) (by omega)
    refine Ev_succ (Ev.congr (fun k => ?_) step)
    rw [nat_digit.l0, ej, if_pos c.1, if_pos c.2.1, if_pos c.2.2.1, eb, if_neg c.2.2.2.1, if_pos c.2.2.2.2, et, tdiv_cast, tmod_cast, hD, eD, wj, Int.toNat_natCast]
theorem digit_f {a : List Int} (ua : U a) {b : Nat} (hb : 0 < b) (hb' : b < 4294967296) (hs : a.length ≤ 100000000) : Ev (fun k => nat_digit.f k a (b : Int)) (lb (valn a / b), ((valn a % b : Nat) : Int)) := by
  have h := digit_l0 ua hb hb' hs a.length (List.replicate a.length 0) 0 (Nat.le_refl _) (by simp) (U_replicate _) (by rw [List.drop_eq_nil_of_le (Nat.le_refl _), valn_nil, Nat.zero_mod]) (by
    rw [show (List.replicate a.length (0 : Int)).drop a.length = [] from List.drop_eq_nil_of_le (by rw [List.length_replicate]; exact Nat.le_refl _), List.drop_eq_nil_of_le (Nat.le_refl _), valn_nil, Nat.zero_div])
  refine Ev.congr (fun k => ?_) h
  have c : (0 : Int) ≤ (a.length : Int) ∧ a.length ≤ 70368744177664 := by omega
  have wj : wrap64 ((a.length : Int) - 1) = (a.length : Int) - 1 := w64 (by omega) (by omega)
  unfold nat_digit.f
  rw [if_pos c.1, Int.toNat_natCast, if_pos c.2, wj]; rfl
theorem DivMod_f {a b : List Int} (ua : U a) (ub : U b) (la : a.length ≤ 1000000) (lb' : b.length ≤ 1000000) (h0 : valn b ≠ 0) :
    Ev (fun k => nat_DivMod.f k a b) (lb (valn a / valn b), lb (valn a % valn b), 0) := by
  have hsa := short_f ua (by omega)
  have hsb := short_f ub (by omega)
  have ha := lb_len ua
  have hb := lb_len ub
  generalize valn a = m at *
  generalize valn b = n at *
  have hn : (lb n).length ≠ 0 := fun h => h0 (lb_eq_nil.mp (List.length_eq_zero_iff.mp h))
  have hc := Cmp_f (U_lb m) (U_lb n) (by omega) (by omega)
  rw [valn_lb, valn_lb] at hc
  refine Ev.bind hsa (Ev.bind hsb ?_)
  have c0 : ¬ (((lb n).length : Int) = 0) := by omega
  by_cases hlt : m < n
  · have h1 : cmpn m n = -1 := by unfold cmpn; rw [if_pos hlt]
    rw [h1] at hc
    have ht := Trim_f (U_lb m) (by omega)
    rw [valn_lb] at ht
    refine Ev_neg c0 (Ev.bind hc (Ev_pos (by decide) (Ev.bind ht ?_)))
    rw [Nat.div_eq_of_lt hlt, Nat.mod_eq_of_lt hlt, lb_zero]; exact Ev.now _
  · have h1 : ¬ cmpn m n < 0 := by unfold cmpn; rw [if_neg hlt]; split <;> omega
    refine Ev_neg c0 (Ev.bind hc (Ev_neg h1 ?_))
    by_cases h2 : (lb n).length = 1
    · obtain ⟨t, et, ht⟩ := rd_nat (U_lb n) ((0 : Nat) : Int)
      have en : n = t := by
        have h3 := top_val (M := 0) h2 et
        rw [valn_lb, List.take_zero, valn_nil, pw_zero] at h3; omega
      have hd := digit_f (U_lb m) (b := t) (by omega) ht (by omega)
      rw [valn_lb, ← en] at hd
      have c2 : ((lb n).length : Int) = 1 ∧ (0 : Int) < ((lb n).length : Int) := by omega
      have et' : rd (lb n) 0 = (n : Int) := by rw [en]; rw [en] at et; exact et
      have hr : m % n < n := Nat.mod_lt _ (Nat.pos_of_ne_zero h0)
      have eo : IntKind.u64.wrap ((m % n : Nat) : Int) = ((m % n : Nat) : Int) := u64 (Int.natCast_nonneg _) (by omega)
      have ho := Of_f (m % n) (by omega)
      refine Ev_pos c2.1 (Ev_pos c2.2 ?_)
      rw [et']
      refine Ev.bind hd ?_
      rw [eo]
      exact Ev.bind ho (Ev.now _)
    · have c2 : ¬ ((lb n).length : Int) = 1 := by omega
      have hle : (lb n).length ≤ (lb m).length := by
        by_cases c : (lb n).length ≤ (lb m).length
        · exact c
        · exact absurd (len_lt_of_lt (by omega)) hlt
      have hl : nat_long.f (lb m) (lb n) = some (padn ((lb m).length + 1 - (lb n).length) (m / n), padn (lb n).length (m % n)) := by
        unfold nat_long.f
        rw [if_pos ⟨by omega, hle, by rw [← rd_getLastD]; exact rd_lb_last h0, U_lb m, U_lb n, by omega⟩, valn_lb, valn_lb]
      have hm := lt_pow_len m
      have hnl := lt_pow_len n
      have hq : m / n < pw ((lb m).length + 1 - (lb n).length) := by
        have h3 := pow_len_le h0
        have h4 : (lb m).length = ((lb n).length - 1) + ((lb m).length + 1 - (lb n).length) := by omega
        rw [h4, pw_add] at hm
        refine (Nat.div_lt_iff_lt_mul (Nat.pos_of_ne_zero h0)).mpr (Nat.lt_of_lt_of_le hm ?_)
        rw [Nat.mul_comm]; exact Nat.mul_le_mul_left _ h3
      have hr : m % n < pw (lb n).length := Nat.lt_trans (Nat.mod_lt _ (Nat.pos_of_ne_zero h0)) hnl
      have t1 := Trim_f (U_padn ((lb m).length + 1 - (lb n).length) (m / n)) (by rw [padn_len]; omega)
      have t2 := Trim_f (U_padn (lb n).length (m % n)) (by rw [padn_len]; omega)
      rw [valn_padn_lt hq] at t1
      rw [valn_padn_lt hr] at t2
      refine Ev_neg c2 ?_
      rw [hl]
      exact Ev.bind (Ev.now _) (Ev.bind t1 (Ev.bind t2 (Ev.now _)))
theorem Gcd_l0 : ∀ (n m : Nat), (lb m).length ≤ 1000000 → (lb n).length ≤ 1000000 → Ev (fun k => nat_Gcd.l0 k (lb m) (lb n)) (lb (Nat.gcd m n)) := by
  intro n
  induction n using Nat.strongRecOn with
  | _ n ih =>
    intro m hm hn
    refine Ev_succ ?_
    simp only [nat_Gcd.l0]
    by_cases h0 : n = 0
    · subst h0
      have ht := Trim_f (U_lb m) (by omega)
      rw [valn_lb] at ht
      have c : ¬ (((lb 0).length : Int) > 0) := by rw [lb_zero]; decide
      rw [Nat.gcd_zero_right]
      exact Ev_neg c (Ev.bind ht (Ev.now _))
    · have hl : (lb n).length ≠ 0 := fun h => h0 (lb_eq_nil.mp (List.length_eq_zero_iff.mp h))
      have c : ((lb n).length : Int) > 0 := by omega
      have hd := DivMod_f (U_lb m) (U_lb n) hm hn (by rw [valn_lb]; exact h0)
      rw [valn_lb, valn_lb] at hd
      have hr : m % n < n := Nat.mod_lt _ (Nat.pos_of_ne_zero h0)
      have hlr : (lb (m % n)).length ≤ 1000000 := Nat.le_trans (lb_len_le (Nat.lt_trans hr (lt_pow_len n))) hn
      refine Ev_pos c (Ev.bind hd ?_)
      rw [Nat.gcd_comm, Nat.gcd_rec, Nat.gcd_comm]
      exact ih (m % n) hr n hn hlr
theorem Gcd_f {a b : List Int} (ua : U a) (ub : U b) (la : a.length ≤ 1000000) (lb' : b.length ≤ 1000000) : Ev (fun k => nat_Gcd.f k a b) (lb (Nat.gcd (valn a) (valn b))) :=
  Ev.bind (short_f ua (by omega)) (Ev.bind (short_f ub (by omega)) (Gcd_l0 _ _ (Nat.le_trans (lb_len ua) la) (Nat.le_trans (lb_len ub) lb')))
end Go.Proofs.Ytecfdemglbfnoaa.Num
end
section
namespace Go.Proofs.Ytecfdemglbfnoaa.PT
open Go.RowKit Go.Proofs.YtecfdemglbfnoaaW.PrintWords Go.Proofs.YtecfdemglbfnoaaW.PrintLast Go.Proofs.YtecfdemglbfnoaaW.PrintMore
attribute [local go_sem] max2_int min2_int max_two min_two max_three min_three max_four min_four   -- for this text's walks alone
set_option linter.unusedVariables false
set_option linter.unusedSimpArgs false
end Go.Proofs.Ytecfdemglbfnoaa.PT
end
section
namespace Go.Proofs.Ytecfdemglbfnoaa.PT
open Go.RowKit Go.Proofs.YtecfdemglbfnoaaW.PrintWords Go.Proofs.YtecfdemglbfnoaaW.PrintLast Go.Proofs.YtecfdemglbfnoaaW.PrintMore
attribute [local go_sem] max2_int min2_int max_two min_two max_three min_three max_four min_four   -- for this text's walks alone
set_option linter.unusedVariables false
set_option linter.unusedSimpArgs false
end Go.Proofs.Ytecfdemglbfnoaa.PT
end
section
namespace Go.Proofs.Ytecfdemglbfnoaa.PT
open Go.RowKit Go.Proofs.YtecfdemglbfnoaaW.PrintWords Go.Proofs.YtecfdemglbfnoaaW.PrintLast Go.Proofs.YtecfdemglbfnoaaW.PrintMore
attribute [local go_sem] max2_int min2_int max_two min_two max_three min_three max_four min_four   -- for this text's walks alone
set_option linter.unusedVariables false
set_option linter.unusedSimpArgs false
end Go.Proofs.Ytecfdemglbfnoaa.PT
end
section
namespace Go.Proofs.Ytecfdemglbfnoaa.PT
open Go.RowKit Go.Proofs.YtecfdemglbfnoaaW.PrintWords Go.Proofs.YtecfdemglbfnoaaW.PrintLast Go.Proofs.YtecfdemglbfnoaaW.PrintMore
attribute [local go_sem] max2_int min2_int max_two min_two max_three min_three max_four min_four   -- for this text's walks alone
set_option linter.unusedVariables false
set_option linter.unusedSimpArgs false
end Go.Proofs.Ytecfdemglbfnoaa.PT
end
section
namespace Go.Proofs.Ytecfdemglbfnoaa.PT
open Go.RowKit Go.Proofs.YtecfdemglbfnoaaW.PrintWords Go.Proofs.YtecfdemglbfnoaaW.PrintLast Go.Proofs.YtecfdemglbfnoaaW.PrintMore
attribute [local go_sem] max2_int min2_int max_two min_two max_three min_three max_four min_four   -- for this text's walks alone
set_option linter.unusedVariables false
set_option linter.unusedSimpArgs false
end Go.Proofs.Ytecfdemglbfnoaa.PT
end
section
namespace Go.Proofs.Ytecfdemglbfnoaa.PT
open Go.RowKit Go.Proofs.YtecfdemglbfnoaaW.PrintWords Go.Proofs.YtecfdemglbfnoaaW.PrintLast Go.Proofs.YtecfdemglbfnoaaW.PrintMore
attribute [local go_sem] max2_int min2_int max_two min_two max_three min_three max_four min_four   -- for this text's walks alone
set_option linter.unusedVariables false
set_option linter.unusedSimpArgs false
end Go.Proofs.Ytecfdemglbfnoaa.PT
end
section
namespace Go.Proofs.Ytecfdemglbfnoaa.Num
open Go.RowKit Go.Proofs.Ytecfdemglbfnoaa.PT Go.Proofs.YtecfdemglbfnoaaW.PrintWords Go.Proofs.YtecfdemglbfnoaaW.PrintLast Go.Proofs.YtecfdemglbfnoaaW.PrintMore
theorem Ev_as {α : Type} {g : Nat → Option α} {a b : α} (h : Ev g a) (e : a = b) : Ev g b := e ▸ h
end Go.Proofs.Ytecfdemglbfnoaa.Num
end
section
namespace Go.Proofs.Ytecfdemglbfnoaa.PT
open Go.RowKit Go.Proofs.YtecfdemglbfnoaaW.PrintWords Go.Proofs.YtecfdemglbfnoaaW.PrintLast Go.Proofs.YtecfdemglbfnoaaW.PrintMore
attribute [local go_sem] max2_int min2_int max_two min_two max_three min_three max_four min_four   -- for this text's walks alone
set_option linter.unusedVariables false
set_option linter.unusedSimpArgs false
end Go.Proofs.Ytecfdemglbfnoaa.PT
end
section
namespace Go.Proofs.Ytecfdemglbfnoaa.Num
open Go.RowKit Go.Proofs.Ytecfdemglbfnoaa.PT Go.Proofs.YtecfdemglbfnoaaW.PrintWords Go.Proofs.YtecfdemglbfnoaaW.PrintLast Go.Proofs.YtecfdemglbfnoaaW.PrintMore
theorem sz_eq_zero {n : Nat} : sz n = 0 ↔ n = 0 := by
  constructor
  · intro h
    by_cases c : n = 0
    · exact c
    · have := sz_pos c; omega
  · intro h; subst h; rfl
theorem rep_rv {neg : Bool} {n d : List Int} (hn : valn n ≠ 0) (hd : valn d ≠ 0) : rep (rv neg n d) = (neg, lb (valn n / Nat.gcd (valn n) (valn d)), lb (valn d / Nat.gcd (valn n) (valn d))) := rep_mkRat neg hn hd
theorem gcd_lb {n d : List Int} (un : U n) (ln : n.length ≤ 1000000) (hn : valn n ≠ 0) : (lb (Nat.gcd (valn n) (valn d))).length ≤ 1000000 ∧ Nat.gcd (valn n) (valn d) ≠ 0 :=
  ⟨Nat.le_trans (lb_len_le (Nat.lt_of_le_of_lt (Nat.le_of_dvd (Nat.pos_of_ne_zero hn) (Nat.gcd_dvd_left _ _)) (valn_lt un))) ln, Nat.ne_of_gt (Nat.gcd_pos_of_pos_left _ (Nat.pos_of_ne_zero hn))⟩
theorem canonical_j {neg : Bool} {n d : List Int} (un : U n) (ud : U d) (ln : n.length ≤ 1000000) (ld : d.length ≤ 1000000) (b : Bool) (hb : b = true ↔ valn n = 0 ∨ valn d = 0) :
    Ev (fun k => rational_canonical.j0 k neg n d b) (rep (rv neg n d)) := by
  refine Ev_succ ?_
  simp only [rational_canonical.j0]
  cases b with
  | true =>
    have h : rv neg n d = 0 := by
      rcases hb.mp rfl with h | h
      · exact rv_zero_num neg h
      · exact rv_zero_den neg h
    rw [h, rep_zero]
    exact Ev_pos rfl (Ev.bind (Ev.now _) (Ev.now _))
  | false =>
    have hn : valn n ≠ 0 := fun h => absurd (hb.mpr (.inl h)) (by decide)
    have hd : valn d ≠ 0 := fun h => absurd (hb.mpr (.inr h)) (by decide)
    obtain ⟨hg, hg0⟩ := gcd_lb un ln hn
    have h1 := Gcd_f un ud ln ld
    have h2 := DivMod_f un (U_lb (Nat.gcd (valn n) (valn d))) ln hg (by rw [valn_lb]; exact hg0)
    have h3 := DivMod_f ud (U_lb (Nat.gcd (valn n) (valn d))) ld hg (by rw [valn_lb]; exact hg0)
    rw [valn_lb] at h2 h3
    rw [rep_rv hn hd]
    exact Ev_neg (by decide) (Ev.bind h1 (Ev.bind h2 (Ev.bind h3 (Ev.now _))))
theorem canonical_f {neg : Bool} {n d : List Int} (un : U n) (ud : U d) (ln : n.length ≤ 1000000) (ld : d.length ≤ 1000000) :
    Ev (fun k => rational_canonical.f k neg n d) (rep (rv neg n d)) := by
  have b1 := Bits_f un (by omega)
  have b2 := Bits_f ud (by omega)
  refine Ev.bind b1 ?_
  by_cases h1 : valn n = 0
  · exact Ev_pos (by rw [h1]; rfl) (canonical_j un ud ln ld true ⟨fun _ => .inl h1, fun _ => rfl⟩)
  · have hz : ((sz (valn n) : Nat) : Int) ≠ 0 := fun h => h1 (sz_eq_zero.mp (Int.ofNat_eq_zero.mp h))
    refine Ev_neg hz (Ev.bind b2 (canonical_j un ud ln ld _ ?_))
    constructor
    · intro h
      exact .inr (sz_eq_zero.mp (Int.ofNat_eq_zero.mp (beq_iff_eq.mp h)))
    · intro h
      rcases h with h | h
      · exact absurd h h1
      · rw [h]; rfl
end Go.Proofs.Ytecfdemglbfnoaa.Num
end
section
namespace Go.Proofs.Ytecfdemglbfnoaa.PT
open Go.RowKit Go.Proofs.YtecfdemglbfnoaaW.PrintWords Go.Proofs.YtecfdemglbfnoaaW.PrintLast Go.Proofs.YtecfdemglbfnoaaW.PrintMore
attribute [local go_sem] max2_int min2_int max_two min_two max_three min_three max_four min_four   -- for this text's walks alone
set_option linter.unusedVariables false
set_option linter.unusedSimpArgs false
end Go.Proofs.Ytecfdemglbfnoaa.PT
end
