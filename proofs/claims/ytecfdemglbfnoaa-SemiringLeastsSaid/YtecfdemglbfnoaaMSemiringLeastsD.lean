/- Walks and plain facts for the law SemiringLeasts, several texts in one: each theorem says what it shows; no condition beyond those that it names. -/
import Derived.Test.YtecfdemglbfnoaaMSemiringLeastsC
section
namespace Go.Proofs.Ytecfdemglbfnoaa.PT
open Go.RowKit Go.Proofs.YtecfdemglbfnoaaW.PrintWords Go.Proofs.YtecfdemglbfnoaaW.PrintLast Go.Proofs.YtecfdemglbfnoaaW.PrintMore
attribute [local go_sem] max2_int min2_int max_two min_two max_three min_three max_four min_four
set_option linter.unusedVariables false
set_option linter.unusedSimpArgs false
set_option maxHeartbeats 8000000
set_option maxRecDepth 100000
def codewrightref46_LeastMul.f (k : Nat) (a0_0 : Int) (l0_1 : List Int) (a1_0 : Int) (l1_1 : List Int) : Option (Int × List Int) := (codewrightref46_Least.f k a0_0 l0_1).bind fun bt593 => ((codewrightref46_Least.f k a1_0 l1_1).bind fun bt597 => ((codewrightref46_MinMul.f bt593.1 bt597.1).bind fun t601 => (if t601 = 4611686018427387904 then ((codewrightref46_None.f).bind fun bt602 => (some (bt602.1, bt602.2))) else ((codewrightref01_Mul.f k bt593.2 bt597.2).bind fun t606 => (some (t601, t606))))))
theorem codewrightref46_LeastMul.calls (k : Nat) (a0_0 : Int) (A0_1 : Option Addr) (c0_1 : Nat) (l0_1 : List Int) (a1_0 : Int) (A1_1 : Option Addr) (c1_1 : Nat) (l1_1 : List Int) (r1 : Int) (r2 : List Int) (w : World) (hr0_1 : Kd.C (Kd.int .u32) w A0_1 l0_1.length l0_1) (hc0_1 : l0_1.length ≤ c0_1) (hr1_1 : Kd.C (Kd.int .u32) w A1_1 l1_1.length l1_1) (hc1_1 : l1_1.length ≤ c1_1) (h : codewrightref46_LeastMul.f k a0_0 l0_1 a1_0 l1_1 = some (r1, r2)) :
 Calls Try.prog 67 #[.agg #[.int .i64 a0_0, .slice A0_1 l0_1.length c0_1], .agg #[.int .i64 a1_0, .slice A1_1 l1_1.length c1_1]] w fun e w' => ∃ v1_ : Value, e = .returned (.agg #[.int .i64 r1, v1_]) ∧ Kd.V (Kd.int .u32) 48 w' w.heap.size (fun k_ => (w.heap.size ≤ k_)) v1_ r2 ∧ Below w.heap.size w w' := by
 have cz := Try.underlying53
 have aH := am hr0_1
 have aB := am hc0_1
 clear hr0_1 hc0_1
 have aI := am hr1_1
 have aC := am hc1_1
 clear hr1_1 hc1_1
 have HB := am (Below.refl w.heap.size w)
 have H : ((codewrightref46_Least.f k a0_0 l0_1).bind fun aJ => ((codewrightref46_Least.f k a1_0 l1_1).bind fun aK => ((codewrightref46_MinMul.f aJ.1 aK.1).bind fun au => (if au = 4611686018427387904 then ((codewrightref46_None.f).bind fun aL => (some (aL.1, aL.2))) else ((codewrightref01_Mul.f k aJ.2 aK.2).bind fun aD => (some (au, aD))))))) = some (r1, r2) := h
 clear h
 obtain ⟨⟨aq, ax⟩, A3, H⟩ := bs H
 (try dsimp -simprocs only at H)
 obtain ⟨⟨ay, aA⟩, A4, H⟩ := bs H
 (try dsimp -simprocs only at H)
 obtain ⟨au, A5, H⟩ := bs H
 (try dsimp -simprocs only at H)
 by_cases c6 : au = 4611686018427387904
 ·
  rw [if_pos c6] at H
  have b1 : (au == 4611686018427387904) = true := beq_iff_eq.mpr c6
  have b2 : (au != 4611686018427387904) = false := bne_eq_false_iff_eq.mpr c6
  clear c6
  obtain ⟨⟨aG, aO⟩, A7, H⟩ := bs H
  replace H : (some (aG, aO)) = some (r1, r2) := H
  simp only [Option.some.injEq, Prod.mk.injEq] at H
  obtain ⟨rfl, rfl⟩ := H
  go_enter Try.func67, Try.ntmps67
  go_wp2_with (first | ((with_reducible refine gate_dst (N := 2) rfl ?_); refine box_event ?hg (N := 2) ?hd (cs := #[.int .i64 a0_0, .slice A0_1 l0_1.length c0_1]) (t := 53) ?hr ?_; (case hd => rfl); (case hg => rfl); (case hr => first | (go_simp; done) | (go_simp; rfl)); intro ae hg w8 hbox hb; have aa := am (hbox); have aT := ng hg (bu HB.out); have ad := ng hg (bu HB.out); replace HB := be HB hb; clear hb hbox hg) | ((with_reducible refine gate_dst (N := 3) rfl ?_); refine box_event ?hg (N := 3) ?hd (cs := #[.int .i64 a1_0, .slice A1_1 l1_1.length c1_1]) (t := 53) ?hr ?_; (case hd => rfl); (case hg => rfl); (case hr => first | (go_simp; done) | (go_simp; rfl)); intro ag hg w9 hbox hb; have ab := am (hbox); have aU := ng hg (bu1 HB.out ad.out); have af := ng hg (bu1 HB.out ad.out); replace HB := be1 HB ad hb; have ak := nl hg aa; have al := nr hg aa; replace aa := kb aa hb; clear hb hbox hg) | ((with_reducible refine gate_dst (N := 4) rfl ?_); refine box_event ?hg (N := 4) ?hd (cs := #[.int .i64 0, .slice none 0 0]) (t := 53) ?hr ?_; (case hd => rfl); (case hg => rfl); (case hr => first | (go_simp; done) | (go_simp; rfl)); intro ai hg ch hbox hb; have ac := am (hbox); have aV := ng hg (bu2 HB.out ad.out af.out); have ah := ng hg (bu2 HB.out ad.out af.out); replace HB := be2 HB ad af hb; have av := nl hg aa; have an := nr hg aa; replace aa := kb aa hb; have aw := nl hg ab; have ao := nr hg ab; replace ab := kb ab hb; clear hb hbox hg; have ci := ak.out; have cj := al.out; have ck := av.out; have cl := an.out; have aW : ch.cell? ⟨ae, 0, none⟩ = some (.int .i64 a0_0) := bc aa 0; have aX : ch.cell? ⟨ae, 1, none⟩ = some (.slice A0_1 l0_1.length c0_1) := bc aa 1; have aY := blk_frozen aa.out 0; have aZ := blk_frozen aa.out 1) | ((with_reducible refine gate_callee (f := 69) rfl ?_); refine goesL_ (some 7) rfl rfl Try.func69 (by kernel_rfl) rfl #[.agg #[.int .i64 a0_0, .slice A0_1 l0_1.length c0_1]] rfl lu ?_; (with_reducible refine (codewrightref46_Least.calls k a0_0 _ _ l0_1 aq ax _ ?side1 ?side2 A3.out).mono ?_); (case side1 => repeat (first | exact (Kd.C_below aH.out HB.out) | (with_reducible refine Kd.C_alloc ?_ _) | (with_reducible refine Kd.C_drewN ?_ _) | (with_reducible refine Kd.C_drew ?_))); (case side2 => first | exact aB.out | exact vz aB.out); rintro e a0 ⟨b3, rfl, az, hb⟩; refine ⟨_, rfl, ?_⟩; have aj := ar0 w.heap.size (ok' := fun k_ => (w.heap.size ≤ k_) ∧ k_ ≠ ae ∧ k_ ≠ ag ∧ k_ ≠ ai) az (fa (fz3 HB ad af ah) (fa (fb aa) (fa (fb ab) (fb ac)))); replace aa := kb aa hb; replace ab := kb ab hb; replace ac := kb ac hb; replace HB := be3 HB ad af ah hb; (try clear hb); (try clear az); have a1 : a0.cell? ⟨ae, 0, none⟩ = some (.int .i64 a0_0) := bc aa 0; have a2 : a0.cell? ⟨ae, 1, none⟩ = some (.slice A0_1 l0_1.length c0_1) := bc aa 1; have a3 := blk_frozen aa.out 0; have a4 := blk_frozen aa.out 1; obtain ⟨aP, aQ, b4⟩ := Kd.V_slice aj.out; subst b4; have cm := aw.out; have cn := ao.out; have a5 : a0.cell? ⟨ag, 0, none⟩ = some (.int .i64 a1_0) := bc ab 0; have a6 : a0.cell? ⟨ag, 1, none⟩ = some (.slice A1_1 l1_1.length c1_1) := bc ab 1; have a7 := blk_frozen ab.out 0; have a8 := blk_frozen ab.out 1) | ((with_reducible refine gate_callee (f := 69) rfl ?_); refine goesL_ (some 9) rfl rfl Try.func69 (by kernel_rfl) rfl #[.agg #[.int .i64 a1_0, .slice A1_1 l1_1.length c1_1]] rfl lu ?_; (with_reducible refine (codewrightref46_Least.calls k a1_0 _ _ l1_1 ay aA _ ?side1 ?side2 A4.out).mono ?_); (case side1 => exact Kd.C_below aI.out (bu3 HB.out ad.out af.out ah.out)); (case side2 => first | exact aC.out | exact vz aC.out); rintro e a9 ⟨b5, rfl, az, hb⟩; refine ⟨_, rfl, ?_⟩; replace aj := kx aj hb; have ap := ar0 w.heap.size (ok' := fun k_ => (w.heap.size ≤ k_) ∧ k_ ≠ ae ∧ k_ ≠ ag ∧ k_ ≠ ai) az (fa (fz3 HB ad af ah) (fa (fs aa) (fa (fs ab) (fs ac)))); replace aa := am (blk_below (g := ae) (o := .cells #[.int .i64 aq, .slice aP ax.length aQ] 53 (0, 0)) (by (with_reducible repeat (first | refine blk_drewN ?_ _ | refine blk_drew ?_ | refine blk_alloc ?_ _)); refine blk_put (cs := #[.int .i64 aq, .slice A0_1 l0_1.length c0_1]) ?_ 1 _ rfl; (with_reducible repeat (first | refine blk_drewN ?_ _ | refine blk_drew ?_ | refine blk_alloc ?_ _)); refine blk_put (cs := #[.int .i64 a0_0, .slice A0_1 l0_1.length c0_1]) ?_ 0 _ rfl; (with_reducible repeat (first | refine blk_drewN ?_ _ | refine blk_drew ?_ | refine blk_alloc ?_ _)); exact aa.out) hb); replace ab := am (blk_below (g := ag) (o := .cells #[.int .i64 a1_0, .slice A1_1 l1_1.length c1_1] 53 (0, 0)) (kf al.out ab.out) hb); replace ac := am (blk_below (g := ai) (o := .cells #[.int .i64 0, .slice none 0 0] 53 (0, 0)) (kf an.out ac.out) hb); replace HB := be3 HB ad af ah hb; (try clear hb); (try clear az); have ba : a9.cell? ⟨ag, 0, none⟩ = some (.int .i64 a1_0) := bc ab 0; have bb : a9.cell? ⟨ag, 1, none⟩ = some (.slice A1_1 l1_1.length c1_1) := bc ab 1; have bd := blk_frozen ab.out 0; have bf := blk_frozen ab.out 1; obtain ⟨b6, b7, b8⟩ := Kd.V_slice ap.out; subst b8; have bg : a9.cell? ⟨ae, 0, none⟩ = some (.int .i64 aq) := bc aa 0; have bh : a9.cell? ⟨ae, 1, none⟩ = some (.slice aP ax.length aQ) := bc aa 1; have bi := blk_frozen aa.out 0; have bj := blk_frozen aa.out 1) | ((with_reducible refine gate_callee (f := 38) rfl ?_); refine goesL_ (some 14) rfl rfl Try.func38 (by kernel_rfl) rfl #[.int .i64 aq, .int .i64 ay] rfl lu ?_; (with_reducible refine (codewrightref46_MinMul.calls aq ay au _ A5.out).mono ?_); rintro e cD ⟨rfl, hb⟩; refine ⟨_, rfl, ?_⟩; replace aj := kx aj hb; replace ap := kx ap hb; replace aa := am (blk_below (g := ae) (o := .cells #[.int .i64 aq, .slice aP ax.length aQ] 53 (0, 0)) (kf ak.out aa.out) hb); replace ab := am (blk_below (g := ag) (o := .cells #[.int .i64 ay, .slice b6 aA.length b7] 53 (0, 0)) (by (with_reducible repeat (first | refine blk_drewN ?_ _ | refine blk_drew ?_ | refine blk_alloc ?_ _)); refine blk_put (cs := #[.int .i64 ay, .slice A1_1 l1_1.length c1_1]) ?_ 1 _ rfl; (with_reducible repeat (first | refine blk_drewN ?_ _ | refine blk_drew ?_ | refine blk_alloc ?_ _)); refine blk_put (cs := #[.int .i64 a1_0, .slice A1_1 l1_1.length c1_1]) ?_ 0 _ rfl; (with_reducible repeat (first | refine blk_drewN ?_ _ | refine blk_drew ?_ | refine blk_alloc ?_ _)); exact ab.out) hb); replace ac := am (blk_below (g := ai) (o := .cells #[.int .i64 0, .slice none 0 0] 53 (0, 0)) (kf ao.out ac.out) hb); replace HB := be3 HB ad af ah hb; (try clear hb)) | ((with_reducible refine gate_callee (f := 62) rfl ?_); refine goesL_ (some 17) rfl rfl Try.func62 (by kernel_rfl) rfl #[] rfl lu ?_; (with_reducible refine (codewrightref46_None.calls  aG aO _ A7.out).mono ?_); rintro e co ⟨cA, rfl, az, hb⟩; refine ⟨_, rfl, ?_⟩; replace az := R_V_base rfl az; replace aj := kv aj hb; replace ap := kv ap hb; have aM := ar0 w.heap.size (ok' := fun k_ => (w.heap.size ≤ k_) ∧ k_ ≠ ae ∧ k_ ≠ ag ∧ k_ ≠ ai) az (fa (fz3 HB ad af ah) (fa (fb aa) (fa (fb ab) (fb ac)))); replace aa := kb aa hb; replace ab := kb ab hb; replace ac := kb ac hb; replace HB := be3 HB ad af ah hb; (try clear hb); (try clear az); have bk : co.cell? ⟨ai, 0, none⟩ = some (.int .i64 0) := bc ac 0; have bl : co.cell? ⟨ai, 1, none⟩ = some (.slice none 0 0) := bc ac 1; have bm := blk_frozen ac.out 0; have bn := blk_frozen ac.out 1; obtain ⟨b9, ca, cb⟩ := Kd.V_slice aM.out; subst cb))
  refine bodyPost_ret (results_cell_row rfl _ _ ai 53 #[.int .i64 aG, .slice b9 aO.length ca] (0, 0) _ rfl (by (with_reducible repeat (first | refine blk_drewN ?_ _ | refine blk_drew ?_ | refine blk_alloc ?_ _)); refine blk_put (cs := #[.int .i64 aG, .slice none 0 0]) ?_ 1 _ rfl; (with_reducible repeat (first | refine blk_drewN ?_ _ | refine blk_drew ?_ | refine blk_alloc ?_ _)); refine blk_put (cs := #[.int .i64 0, .slice none 0 0]) ?_ 0 _ rfl; (with_reducible repeat (first | refine blk_drewN ?_ _ | refine blk_drew ?_ | refine blk_alloc ?_ _)); exact ac.out) Try.underlying53 rfl (by kernel_rfl)) rfl ?_
  exact ⟨_, by first | rfl | (simp [errW_none, errW_some] <;> rfl) | (simp [*, errW_none, errW_some] <;> rfl), by exact vf aM.out, by repeat (first | (with_reducible first | exact HB.out | apply below_alloc | apply pw_below_drewN | apply below_drew1 | refine below_set ?_ ad.out | refine below_set ?_ af.out | refine below_set ?_ ah.out) | exact HB.out)⟩
 ·
  rw [if_neg c6] at H
  have b1 : (au == 4611686018427387904) = false := beq_eq_false_iff_ne.mpr c6
  have b2 : (au != 4611686018427387904) = true := bne_iff_ne.mpr c6
  obtain ⟨aD, cB, H⟩ := bs H
  replace H : (some (au, aD)) = some (r1, r2) := H
  simp only [Option.some.injEq, Prod.mk.injEq] at H
  obtain ⟨rfl, rfl⟩ := H
  go_enter Try.func67, Try.ntmps67
  go_wp2_with (first | ((with_reducible refine gate_dst (N := 2) rfl ?_); refine box_event ?hg (N := 2) ?hd (cs := #[.int .i64 a0_0, .slice A0_1 l0_1.length c0_1]) (t := 53) ?hr ?_; (case hd => rfl); (case hg => rfl); (case hr => first | (go_simp; done) | (go_simp; rfl)); intro ae hg cE hbox hb; have aa := am (hbox); have aT := ng hg (bu HB.out); have ad := ng hg (bu HB.out); replace HB := be HB hb; clear hb hbox hg) | ((with_reducible refine gate_dst (N := 3) rfl ?_); refine box_event ?hg (N := 3) ?hd (cs := #[.int .i64 a1_0, .slice A1_1 l1_1.length c1_1]) (t := 53) ?hr ?_; (case hd => rfl); (case hg => rfl); (case hr => first | (go_simp; done) | (go_simp; rfl)); intro ag hg cF hbox hb; have ab := am (hbox); have aU := ng hg (bu1 HB.out ad.out); have af := ng hg (bu1 HB.out ad.out); replace HB := be1 HB ad hb; have ak := nl hg aa; have al := nr hg aa; replace aa := kb aa hb; clear hb hbox hg) | ((with_reducible refine gate_dst (N := 4) rfl ?_); refine box_event ?hg (N := 4) ?hd (cs := #[.int .i64 0, .slice none 0 0]) (t := 53) ?hr ?_; (case hd => rfl); (case hg => rfl); (case hr => first | (go_simp; done) | (go_simp; rfl)); intro ai hg cp hbox hb; have ac := am (hbox); have aV := ng hg (bu2 HB.out ad.out af.out); have ah := ng hg (bu2 HB.out ad.out af.out); replace HB := be2 HB ad af hb; have av := nl hg aa; have an := nr hg aa; replace aa := kb aa hb; have aw := nl hg ab; have ao := nr hg ab; replace ab := kb ab hb; clear hb hbox hg; have cq := ak.out; have cr := al.out; have ct := av.out; have cv := an.out; have bo : cp.cell? ⟨ae, 0, none⟩ = some (.int .i64 a0_0) := bc aa 0; have bp : cp.cell? ⟨ae, 1, none⟩ = some (.slice A0_1 l0_1.length c0_1) := bc aa 1; have bq := blk_frozen aa.out 0; have br := blk_frozen aa.out 1) | ((with_reducible refine gate_callee (f := 69) rfl ?_); refine goesL_ (some 7) rfl rfl Try.func69 (by kernel_rfl) rfl #[.agg #[.int .i64 a0_0, .slice A0_1 l0_1.length c0_1]] rfl lu ?_; (with_reducible refine (codewrightref46_Least.calls k a0_0 _ _ l0_1 aq ax _ ?side1 ?side2 A3.out).mono ?_); (case side1 => repeat (first | exact (Kd.C_below aH.out HB.out) | (with_reducible refine Kd.C_alloc ?_ _) | (with_reducible refine Kd.C_drewN ?_ _) | (with_reducible refine Kd.C_drew ?_))); (case side2 => first | exact aB.out | exact vz aB.out); rintro e bv ⟨b3, rfl, az, hb⟩; refine ⟨_, rfl, ?_⟩; have aj := ar0 w.heap.size (ok' := fun k_ => (w.heap.size ≤ k_) ∧ k_ ≠ ae ∧ k_ ≠ ag ∧ k_ ≠ ai) az (fa (fz3 HB ad af ah) (fa (fb aa) (fa (fb ab) (fb ac)))); replace aa := kb aa hb; replace ab := kb ab hb; replace ac := kb ac hb; replace HB := be3 HB ad af ah hb; (try clear hb); (try clear az); have bw : bv.cell? ⟨ae, 0, none⟩ = some (.int .i64 a0_0) := bc aa 0; have bx : bv.cell? ⟨ae, 1, none⟩ = some (.slice A0_1 l0_1.length c0_1) := bc aa 1; have bz := blk_frozen aa.out 0; have bA := blk_frozen aa.out 1; obtain ⟨aE, aF, cc⟩ := Kd.V_slice aj.out; subst cc; have cw := aw.out; have cx := ao.out; have bB : bv.cell? ⟨ag, 0, none⟩ = some (.int .i64 a1_0) := bc ab 0; have bC : bv.cell? ⟨ag, 1, none⟩ = some (.slice A1_1 l1_1.length c1_1) := bc ab 1; have bD := blk_frozen ab.out 0; have bE := blk_frozen ab.out 1) | ((with_reducible refine gate_callee (f := 69) rfl ?_); refine goesL_ (some 9) rfl rfl Try.func69 (by kernel_rfl) rfl #[.agg #[.int .i64 a1_0, .slice A1_1 l1_1.length c1_1]] rfl lu ?_; (with_reducible refine (codewrightref46_Least.calls k a1_0 _ _ l1_1 ay aA _ ?side1 ?side2 A4.out).mono ?_); (case side1 => exact Kd.C_below aI.out (bu3 HB.out ad.out af.out ah.out)); (case side2 => first | exact aC.out | exact vz aC.out); rintro e bF ⟨b5, rfl, az, hb⟩; refine ⟨_, rfl, ?_⟩; replace aj := kx aj hb; have ap := ar0 w.heap.size (ok' := fun k_ => (w.heap.size ≤ k_) ∧ k_ ≠ ae ∧ k_ ≠ ag ∧ k_ ≠ ai) az (fa (fz3 HB ad af ah) (fa (fs aa) (fa (fs ab) (fs ac)))); replace aa := am (blk_below (g := ae) (o := .cells #[.int .i64 aq, .slice aE ax.length aF] 53 (0, 0)) (by (with_reducible repeat (first | refine blk_drewN ?_ _ | refine blk_drew ?_ | refine blk_alloc ?_ _)); refine blk_put (cs := #[.int .i64 aq, .slice A0_1 l0_1.length c0_1]) ?_ 1 _ rfl; (with_reducible repeat (first | refine blk_drewN ?_ _ | refine blk_drew ?_ | refine blk_alloc ?_ _)); refine blk_put (cs := #[.int .i64 a0_0, .slice A0_1 l0_1.length c0_1]) ?_ 0 _ rfl; (with_reducible repeat (first | refine blk_drewN ?_ _ | refine blk_drew ?_ | refine blk_alloc ?_ _)); exact aa.out) hb); replace ab := am (blk_below (g := ag) (o := .cells #[.int .i64 a1_0, .slice A1_1 l1_1.length c1_1] 53 (0, 0)) (kf al.out ab.out) hb); replace ac := am (blk_below (g := ai) (o := .cells #[.int .i64 0, .slice none 0 0] 53 (0, 0)) (kf an.out ac.out) hb); replace HB := be3 HB ad af ah hb; (try clear hb); (try clear az); have bG : bF.cell? ⟨ag, 0, none⟩ = some (.int .i64 a1_0) := bc ab 0; have bH : bF.cell? ⟨ag, 1, none⟩ = some (.slice A1_1 l1_1.length c1_1) := bc ab 1; have bI := blk_frozen ab.out 0; have bJ := blk_frozen ab.out 1; obtain ⟨aR, aS, cd⟩ := Kd.V_slice ap.out; subst cd; have bK : bF.cell? ⟨ae, 0, none⟩ = some (.int .i64 aq) := bc aa 0; have bL : bF.cell? ⟨ae, 1, none⟩ = some (.slice aE ax.length aF) := bc aa 1; have bM := blk_frozen aa.out 0; have bN := blk_frozen aa.out 1) | ((with_reducible refine gate_callee (f := 38) rfl ?_); refine goesL_ (some 14) rfl rfl Try.func38 (by kernel_rfl) rfl #[.int .i64 aq, .int .i64 ay] rfl lu ?_; (with_reducible refine (codewrightref46_MinMul.calls aq ay au _ A5.out).mono ?_); rintro e bO ⟨rfl, hb⟩; refine ⟨_, rfl, ?_⟩; replace aj := kx aj hb; replace ap := kx ap hb; replace aa := am (blk_below (g := ae) (o := .cells #[.int .i64 aq, .slice aE ax.length aF] 53 (0, 0)) (kf ak.out aa.out) hb); replace ab := am (blk_below (g := ag) (o := .cells #[.int .i64 ay, .slice aR aA.length aS] 53 (0, 0)) (by (with_reducible repeat (first | refine blk_drewN ?_ _ | refine blk_drew ?_ | refine blk_alloc ?_ _)); refine blk_put (cs := #[.int .i64 ay, .slice A1_1 l1_1.length c1_1]) ?_ 1 _ rfl; (with_reducible repeat (first | refine blk_drewN ?_ _ | refine blk_drew ?_ | refine blk_alloc ?_ _)); refine blk_put (cs := #[.int .i64 a1_0, .slice A1_1 l1_1.length c1_1]) ?_ 0 _ rfl; (with_reducible repeat (first | refine blk_drewN ?_ _ | refine blk_drew ?_ | refine blk_alloc ?_ _)); exact ab.out) hb); replace ac := am (blk_below (g := ai) (o := .cells #[.int .i64 0, .slice none 0 0] 53 (0, 0)) (kf ao.out ac.out) hb); replace HB := be3 HB ad af ah hb; (try clear hb); have bP : bO.cell? ⟨ae, 0, none⟩ = some (.int .i64 aq) := bc aa 0; have bQ : bO.cell? ⟨ae, 1, none⟩ = some (.slice aE ax.length aF) := bc aa 1; have bR := blk_frozen aa.out 0; have bS := blk_frozen aa.out 1; have bT : bO.cell? ⟨ag, 0, none⟩ = some (.int .i64 ay) := bc ab 0; have bU : bO.cell? ⟨ag, 1, none⟩ = some (.slice aR aA.length aS) := bc ab 1; have bV := blk_frozen ab.out 0; have bW := blk_frozen ab.out 1) | ((with_reducible refine gate_callee (f := 57) rfl ?_); refine goesL_ (some 23) rfl rfl Try.func57 (by kernel_rfl) rfl #[.slice aE ax.length aF, .slice aR aA.length aS] rfl lu ?_; (with_reducible refine (codewrightref01_Mul.calls k _ _ ax _ _ aA aD _ ?side1 ?side2 ?side3 ?side4 cB.out).mono ?_); (case side1 => exact cu (Kd.V_reads' aj.out).2.2); (case side2 => exact (Kd.V_reads' aj.out).2.1); (case side3 => exact cu (Kd.V_reads' ap.out).2.2); (case side4 => exact (Kd.V_reads' ap.out).2.1); rintro e cy ⟨cC, rfl, az, hb⟩; refine ⟨_, rfl, ?_⟩; replace az := R_V_base rfl az; replace aj := kv aj hb; replace ap := kv ap hb; have aN := ar0 w.heap.size (ok' := fun k_ => (w.heap.size ≤ k_) ∧ k_ ≠ ae ∧ k_ ≠ ag ∧ k_ ≠ ai) az (fa (fz3 HB ad af ah) (fa (fb aa) (fa (fb ab) (fb ac)))); replace aa := kb aa hb; replace ab := kb ab hb; replace ac := kb ac hb; replace HB := be3 HB ad af ah hb; (try clear hb); (try clear az); obtain ⟨ce, cf, cg⟩ := Kd.V_slice aN.out; subst cg; have bX : cy.cell? ⟨ai, 0, none⟩ = some (.int .i64 0) := bc ac 0; have bY : cy.cell? ⟨ai, 1, none⟩ = some (.slice none 0 0) := bc ac 1; have bZ := blk_frozen ac.out 0; have b0 := blk_frozen ac.out 1))
  refine bodyPost_ret (results_cell_row rfl _ _ ai 53 #[.int .i64 au, .slice ce aD.length cf] (0, 0) _ rfl (by (with_reducible repeat (first | refine blk_drewN ?_ _ | refine blk_drew ?_ | refine blk_alloc ?_ _)); refine blk_put (cs := #[.int .i64 au, .slice none 0 0]) ?_ 1 _ rfl; (with_reducible repeat (first | refine blk_drewN ?_ _ | refine blk_drew ?_ | refine blk_alloc ?_ _)); refine blk_put (cs := #[.int .i64 0, .slice none 0 0]) ?_ 0 _ rfl; (with_reducible repeat (first | refine blk_drewN ?_ _ | refine blk_drew ?_ | refine blk_alloc ?_ _)); exact ac.out) Try.underlying53 rfl (by kernel_rfl)) rfl ?_
  exact ⟨_, by first | rfl | (simp [errW_none, errW_some] <;> rfl) | (simp [*, errW_none, errW_some] <;> rfl), by exact vf aN.out, by repeat (first | (with_reducible first | exact HB.out | apply below_alloc | apply pw_below_drewN | apply below_drew1 | refine below_set ?_ ad.out | refine below_set ?_ af.out | refine below_set ?_ ah.out) | exact HB.out)⟩
def api_Nat_uint32.l0 : Nat → List Int → List Int → Int → Int → Option (Bool)
 | 0, _, _, _, _ => none
 | k + 1, x0, x1, x12, x13 => if x13 < x12 then (if 0 ≤ x13 then (if x13 < (x0.length : Int) then (if x13 < (x1.length : Int) then (if (rd x0 x13) = (rd x1 x13) then (api_Nat_uint32.l0 k x0 x1 x12 (wrap64 (x13 + 1))) else (some false)) else (none)) else (none)) else (none)) else (some true)
def api_Nat_uint32.f (k : Nat) (l0 : List Int) (l1 : List Int) : Option (Bool) := if (l0.length : Int) = (l1.length : Int) then (api_Nat_uint32.l0 k l0 l1 (l0.length : Int) 0) else (some false)
theorem api_Nat_uint32.calls (k : Nat) (A0 : Option Addr) (c0 : Nat) (l0 : List Int) (A1 : Option Addr) (c1 : Nat) (l1 : List Int) (r : Bool) (w : World) (hr0 : Kd.C (Kd.int .u32) w A0 l0.length l0) (hc0 : l0.length ≤ c0) (hr1 : Kd.C (Kd.int .u32) w A1 l1.length l1) (hc1 : l1.length ≤ c1) (h : api_Nat_uint32.f k l0 l1 = some r) :
 Calls Try.prog 149 #[.slice A0 l0.length c0, .slice A1 l1.length c1] w fun e w' => e = .returned (.bool r) ∧ Drawn0 w w' := by
 have aj := am hr0
 have aq := am hc0
 clear hr0 hc0
 have ak := am hr1
 have au := am hc1
 clear hr1 hc1
 have H : (if (l0.length : Int) = (l1.length : Int) then (api_Nat_uint32.l0 k l0 l1 (l0.length : Int) 0) else (some false)) = some r := h
 clear h
 by_cases c3 : (l0.length : Int) = (l1.length : Int)
 ·
  rw [if_pos c3] at H
  have ad : ((l0.length : Int) == (l1.length : Int)) = true := beq_iff_eq.mpr c3
  have ae : ((l0.length : Int) != (l1.length : Int)) = false := bne_eq_false_iff_eq.mpr c3
  have af : (l0.length == l1.length) = true := by first | simpa using c3 | (simp at c3 ⊢; omega)
  clear c3
  have H' := am H
  clear H
  go_enter Try.func149, Try.ntmps149
  go_wp2
  repeat (go_quiet (fail); try go_wp2)
  go_loopg [13] k (fun kq al w' => ∃ (aa : Int), al = .int .i64 aa ∧ Aside0 (api_Nat_uint32.l0 kq l0 l1 (l0.length : Int) aa = some r) ∧ Aside0 (kq ≤ k) ∧ Drawn0 w w')
  case atStart => exact ⟨(0), (by first | rfl | (simp; done) | (simp [*]; done)), H', ⟨Nat.le_refl _⟩, by repeat (first | exact Drawn0.refl _ | apply Drawn0.step)⟩
  case round =>
   clear H'
   try clear c1
   try clear p2
   try clear c3
   try clear ad
   try clear ae
   try clear af
   obtain ⟨aa, rfl, HA, HK1, ⟨m1, rfl⟩⟩ := hrel
   cases gk with
   | zero => exact absurd HA.out (by simp [api_Nat_uint32.l0])
   | succ k1 =>
    have H := HA.out
    clear HA
    simp only [api_Nat_uint32.l0] at H
    by_cases c4 : aa < (l0.length : Int)
    ·
     rw [if_pos c4] at H
     have ag : decide (aa < (l0.length : Int)) = true := decide_eq_true c4
     clear c4
     by_cases c5 : 0 ≤ aa
     ·
      rw [if_pos c5] at H
      have an : decide (0 ≤ aa) = true := decide_eq_true c5
      clear c5
      by_cases c6 : aa < (l0.length : Int)
      ·
       rw [if_pos c6] at H
       have ao : decide (aa < (l0.length : Int)) = true := decide_eq_true c6
       clear c6
       by_cases c7 : aa < (l1.length : Int)
       ·
        rw [if_pos c7] at H
        have ap : decide (aa < (l1.length : Int)) = true := decide_eq_true c7
        clear c7
        by_cases c8 : (rd l0 aa) = (rd l1 aa)
        ·
         rw [if_pos c8] at H
         have ah : ((rd l0 aa) == (rd l1 aa)) = true := beq_iff_eq.mpr c8
         have ai : ((rd l0 aa) != (rd l1 aa)) = false := bne_eq_false_iff_eq.mpr c8
         clear c8
         have H' := am H
         clear H
         have p609 : 0 ≤ (aa : Int) := of_decide_eq_true (by first | (with_reducible assumption) | assumption)
         have q609 : aa < (l0.length : Int) := of_decide_eq_true (by first | (with_reducible assumption) | assumption)
         obtain ⟨ad609, e609, ab⟩ := Kd.at_int aj.out aa p609 q609
         cases e609
         replace p609 := eq_true p609
         replace q609 := eq_true q609
         have p610 : 0 ≤ (aa : Int) := of_decide_eq_true (by first | (with_reducible assumption) | assumption)
         have q610 : aa < (l1.length : Int) := of_decide_eq_true (by first | (with_reducible assumption) | assumption)
         obtain ⟨ad610, e610, ac⟩ := Kd.at_int ak.out aa p610 q610
         cases e610
         replace p610 := eq_true p610
         replace q610 := eq_true q610
         go_wp2
         repeat (go_quiet (fail); try go_wp2)
         go_roundg k1
         case measure => have := HK1.out; omega
         case rel => exact ⟨(wrap64 (aa + 1)), (by first | rfl | (simp; done) | (simp [*]; done)), H', ⟨by have := HK1.out; omega⟩, by repeat (first | exact Drawn0.refl _ | apply Drawn0.step)⟩
        ·
         rw [if_neg c8] at H
         have ah : ((rd l0 aa) == (rd l1 aa)) = false := beq_eq_false_iff_ne.mpr c8
         have ai : ((rd l0 aa) != (rd l1 aa)) = true := bne_iff_ne.mpr c8
         obtain rfl := Option.some.inj H
         have p609 : 0 ≤ (aa : Int) := of_decide_eq_true (by first | (with_reducible assumption) | assumption)
         have q609 : aa < (l0.length : Int) := of_decide_eq_true (by first | (with_reducible assumption) | assumption)
         obtain ⟨ad609, e609, ab⟩ := Kd.at_int aj.out aa p609 q609
         cases e609
         replace p609 := eq_true p609
         replace q609 := eq_true q609
         have p610 : 0 ≤ (aa : Int) := of_decide_eq_true (by first | (with_reducible assumption) | assumption)
         have q610 : aa < (l1.length : Int) := of_decide_eq_true (by first | (with_reducible assumption) | assumption)
         obtain ⟨ad610, e610, ac⟩ := Kd.at_int ak.out aa p610 q610
         cases e610
         replace p610 := eq_true p610
         replace q610 := eq_true q610
         go_wp2
         repeat (go_quiet (fail); try go_wp2)
         go_ret
         exact ⟨by first | rfl | (simp; done) | (simp [*]; done), by repeat (first | exact Drawn0.refl _ | apply Drawn0.step)⟩
       ·
        rw [if_neg c7] at H
        exact absurd H (by simp)
      ·
       rw [if_neg c6] at H
       exact absurd H (by simp)
     ·
      rw [if_neg c5] at H
      exact absurd H (by simp)
    ·
     rw [if_neg c4] at H
     have ag : decide (aa < (l0.length : Int)) = false := decide_eq_false c4
     clear c4
     obtain rfl := Option.some.inj H
     go_wp2
     repeat (go_quiet (fail); try go_wp2)
     go_ret
     exact ⟨by first | rfl | (simp; done) | (simp [*]; done), by repeat (first | exact Drawn0.refl _ | apply Drawn0.step)⟩
 ·
  rw [if_neg c3] at H
  have ad : ((l0.length : Int) == (l1.length : Int)) = false := beq_eq_false_iff_ne.mpr c3
  have ae : ((l0.length : Int) != (l1.length : Int)) = true := bne_iff_ne.mpr c3
  have af : (l0.length == l1.length) = false := by first | simpa using c3 | (simp at c3 ⊢; omega)
  obtain rfl := Option.some.inj H
  go_enter Try.func149, Try.ntmps149
  go_wp2
  repeat (go_quiet (fail); try go_wp2)
  go_ret
  exact ⟨by first | rfl | (simp; done) | (simp [*]; done), by repeat (first | exact Drawn0.refl _ | apply Drawn0.step)⟩
def semiring_Leasts_Same.f (k : Nat)  (a1_0 : Int) (l1_1 : List Int) (a2_0 : Int) (l2_1 : List Int) : Option (Bool) := (semiring_least.f k a1_0 l1_1).bind fun bt614 => ((semiring_least.f k a2_0 l2_1).bind fun bt618 => (if bt614.1 = bt618.1 then ((api_Nat_uint32.f k bt614.2 bt618.2).bind fun t624 => (some t624)) else (some false)))
def semiring_Leasts_Same.T1 : Bool × List (List Nat × List Nat) := (true, [([], []), ([0], [0]), ([], []), ([2, 1], [2]), ([], []), ([], []), ([4, 1, 3, 0, 1, 4, 5], [1, 4]), ([5, 3, 6, 0, 1, 2, 3, 4, 5, 6], [3, 5])])
def semiring_Leasts_Same.B1 : List Nat := [0, 1, 0, 7, 0, 0, 63, 127]
theorem semiring_Leasts_Same.tab1 : rtab .any (opsOf Try.f68 1) = semiring_Leasts_Same.T1 := by kernel_rfl
theorem semiring_Leasts_Same.bits1 : waitsOk semiring_Leasts_Same.T1.2 semiring_Leasts_Same.B1 = true := by kernel_rfl
theorem semiring_Leasts_Same.calls (k : Nat)  (a1_0 : Int) (A1_1 : Option Addr) (c1_1 : Nat) (l1_1 : List Int) (a2_0 : Int) (A2_1 : Option Addr) (c2_1 : Nat) (l2_1 : List Int) (r : Bool) (w : World) (hr1_1 : Kd.C (Kd.int .u32) w A1_1 l1_1.length l1_1) (hc1_1 : l1_1.length ≤ c1_1) (hr2_1 : Kd.C (Kd.int .u32) w A2_1 l2_1.length l2_1) (hc2_1 : l2_1.length ≤ c2_1) (h : semiring_Leasts_Same.f k a1_0 l1_1 a2_0 l2_1 = some r) :
 Calls Try.prog 68 #[.agg #[], .agg #[.int .i64 a1_0, .slice A1_1 l1_1.length c1_1], .agg #[.int .i64 a2_0, .slice A2_1 l2_1.length c2_1]] w fun e w' => e = .returned (.bool r) ∧ Below w.heap.size w w' := by
 have b9 := Try.underlying54
 have ca := Try.underlying53
 have bo := am hr1_1
 have a5 := am hc1_1
 clear hr1_1 hc1_1
 have bp := am hr2_1
 have a6 := am hc2_1
 clear hr2_1 hc2_1
 have HB := am (Below.refl w.heap.size w)
 have H : ((semiring_least.f k a1_0 l1_1).bind fun bv => ((semiring_least.f k a2_0 l2_1).bind fun bw => (if bv.1 = bw.1 then ((api_Nat_uint32.f k bv.2 bw.2).bind fun br => (some br)) else (some false)))) = some r := h
 clear h
 obtain ⟨⟨aX, a3⟩, A4, H⟩ := bs H
 (try dsimp -simprocs only at H)
 obtain ⟨⟨a4, bl⟩, A5, H⟩ := bs H
 (try dsimp -simprocs only at H)
 go_enter Try.func68, Try.ntmps68
 try go_wp2_with (first | ((with_reducible refine gate_dst (N := 3) rfl ?_); refine box_event ?hg (N := 3) ?hd (cs := #[]) (t := 54) ?hr ?_; (case hd => rfl); (case hg => rfl); (case hr => first | (go_simp; done) | (go_simp; rfl)); intro ay hg w8 hbox hb; have ac := am (hbox); have bR := ng hg (bu HB.out); have af := ng hg (bu HB.out); replace HB := be HB hb; clear hb hbox hg) | ((with_reducible refine gate_dst (N := 4) rfl ?_); refine box_event ?hg (N := 4) ?hd (cs := #[.int .i64 a1_0, .slice A1_1 l1_1.length c1_1]) (t := 53) ?hr ?_; (case hd => rfl); (case hg => rfl); (case hr => first | (go_simp; done) | (go_simp; rfl)); intro ad hg w9 hbox hb; have aa := am (hbox); have bS := ng hg (bu1 HB.out af.out); have ag := ng hg (bu1 HB.out af.out); replace HB := be1 HB af hb; have bz := nl hg ac; have bA := nr hg ac; replace ac := kb ac hb; clear hb hbox hg) | ((with_reducible refine gate_dst (N := 5) rfl ?_); refine box_event ?hg (N := 5) ?hd (cs := #[.int .i64 a2_0, .slice A2_1 l2_1.length c2_1]) (t := 53) ?hr ?_; (case hd => rfl); (case hg => rfl); (case hr => first | (go_simp; done) | (go_simp; rfl)); intro ae hg cb hbox hb; have ab := am (hbox); have bT := ng hg (bu2 HB.out af.out ag.out); have ah := ng hg (bu2 HB.out af.out ag.out); replace HB := be2 HB af ag hb; have bB := nl hg ac; have bC := nr hg ac; replace ac := kb ac hb; have bD := nl hg aa; have bE := nr hg aa; replace aa := kb aa hb; clear hb hbox hg))
 replace ac := am (blk_drew ac.out)
 replace aa := am (blk_drew aa.out)
 replace ab := am (blk_drew ab.out)
 replace HB := am (below_drew1 HB.out)
 refine start_ (n := 8) (S := fun w' => w'.cell? ⟨ad, 0, none⟩ = some (.int .i64 a1_0) ∧ w'.cell? ⟨ad, 1, none⟩ = some (.slice A1_1 l1_1.length c1_1) ∧ w'.cell? ⟨ae, 0, none⟩ = some (.int .i64 a2_0) ∧ w'.cell? ⟨ae, 1, none⟩ = some (.slice A2_1 l2_1.length c2_1)) (ds := []) #[false, false, false, false, false, false, false, false] (by kernel_rfl) rfl rfl ⟨bc aa 0, bc aa 1, bc ab 0, bc ab 1⟩ (fun hHeld => ?_); refine with_tabW semiring_Leasts_Same.tab1 semiring_Leasts_Same.bits1 (fun HT_ HW_ => ?_)
 generalize cb.drew = cg at ac aa ab HB hHeld ⊢
 refine tq 0 (some 9) #[true, false, false, false, false, false, false, false] HT_ HW_ hHeld ?_
 refine tq 2 (some 11) #[true, false, true, false, false, false, false, false] HT_ HW_ hHeld ?_
 refine join_ (σ := Value × Value × Nat × Nat) 2 #[true, true, true, true, true, true, false, false] (fun s_ => [(10, .agg #[.int .i64 aX, s_.1]), (12, .agg #[.int .i64 a4, s_.2.1]), (7, .pointer (some ⟨s_.2.2.1, 0, none⟩)), (8, .pointer (some ⟨s_.2.2.2, 0, none⟩))]) (fun s_ w' => (w'.cell? ⟨ad, 0, none⟩ = some (.int .i64 a1_0) ∧ w'.cell? ⟨ad, 1, none⟩ = some (.slice A1_1 l1_1.length c1_1) ∧ w'.cell? ⟨ae, 0, none⟩ = some (.int .i64 a2_0) ∧ w'.cell? ⟨ae, 1, none⟩ = some (.slice A2_1 l2_1.length c2_1)) ∧ (Kd.V (Kd.int .u32) 48 w' w.heap.size (fun k_ => k_ ≠ ay ∧ k_ ≠ ad ∧ k_ ≠ ae ∧ k_ ≠ s_.2.2.1 ∧ k_ ≠ s_.2.2.2) s_.1 a3) ∧ (Kd.V (Kd.int .u32) 48 w' w.heap.size (fun k_ => k_ ≠ ay ∧ k_ ≠ ad ∧ k_ ≠ ae ∧ k_ ≠ s_.2.2.1 ∧ k_ ≠ s_.2.2.2) s_.2.1 bl) ∧ (w'.heap[ay]? = some (.cells #[] 54 (0, 0))) ∧ (w'.heap[ad]? = some (.cells #[.int .i64 a1_0, .slice A1_1 l1_1.length c1_1] 53 (0, 0))) ∧ (w'.heap[ae]? = some (.cells #[.int .i64 a2_0, .slice A2_1 l2_1.length c2_1] 53 (0, 0))) ∧ (w'.heap[s_.2.2.1]? = some (.cells #[.int .i64 0, .slice none 0 0] 53 (0, 0))) ∧ (w'.heap[s_.2.2.2]? = some (.cells #[.int .i64 0, .slice none 0 0] 53 (0, 0))) ∧ (w.heap.size ≤ s_.2.2.1) ∧ (w.heap.size ≤ s_.2.2.1) ∧ (ay ≠ s_.2.2.1) ∧ (s_.2.2.1 ≠ ay) ∧ (ad ≠ s_.2.2.1) ∧ (s_.2.2.1 ≠ ad) ∧ (ae ≠ s_.2.2.1) ∧ (s_.2.2.1 ≠ ae) ∧ (s_.2.2.2 ≠ s_.2.2.1) ∧ (s_.2.2.1 ≠ s_.2.2.2) ∧ (w.heap.size ≤ s_.2.2.2) ∧ (w.heap.size ≤ s_.2.2.2) ∧ (ay ≠ s_.2.2.2) ∧ (s_.2.2.2 ≠ ay) ∧ (ad ≠ s_.2.2.2) ∧ (s_.2.2.2 ≠ ad) ∧ (ae ≠ s_.2.2.2) ∧ (s_.2.2.2 ≠ ae) ∧ (Below w.heap.size w w')) ?_ ?_
 rotate_left
 ·
  intro hJ1_3_4_5
  refine join_ (σ := Value × Value × Nat) 3 #[true, true, true, true, true, false, false, false] (fun s_ => [(10, .agg #[.int .i64 aX, s_.1]), (12, .agg #[.int .i64 a4, s_.2.1]), (7, .pointer (some ⟨s_.2.2, 0, none⟩))]) (fun s_ w' => (w'.cell? ⟨ad, 0, none⟩ = some (.int .i64 a1_0) ∧ w'.cell? ⟨ad, 1, none⟩ = some (.slice A1_1 l1_1.length c1_1) ∧ w'.cell? ⟨ae, 0, none⟩ = some (.int .i64 a2_0) ∧ w'.cell? ⟨ae, 1, none⟩ = some (.slice A2_1 l2_1.length c2_1)) ∧ (Kd.V (Kd.int .u32) 48 w' w.heap.size (fun k_ => k_ ≠ ay ∧ k_ ≠ ad ∧ k_ ≠ ae ∧ k_ ≠ s_.2.2) s_.1 a3) ∧ (Kd.V (Kd.int .u32) 48 w' w.heap.size (fun k_ => k_ ≠ ay ∧ k_ ≠ ad ∧ k_ ≠ ae ∧ k_ ≠ s_.2.2) s_.2.1 bl) ∧ (w'.heap[ay]? = some (.cells #[] 54 (0, 0))) ∧ (w'.heap[ad]? = some (.cells #[.int .i64 a1_0, .slice A1_1 l1_1.length c1_1] 53 (0, 0))) ∧ (w'.heap[ae]? = some (.cells #[.int .i64 a2_0, .slice A2_1 l2_1.length c2_1] 53 (0, 0))) ∧ (w'.heap[s_.2.2]? = some (.cells #[.int .i64 0, .slice none 0 0] 53 (0, 0))) ∧ (w.heap.size ≤ s_.2.2) ∧ (w.heap.size ≤ s_.2.2) ∧ (ay ≠ s_.2.2) ∧ (s_.2.2 ≠ ay) ∧ (ad ≠ s_.2.2) ∧ (s_.2.2 ≠ ad) ∧ (ae ≠ s_.2.2) ∧ (s_.2.2 ≠ ae) ∧ (Below w.heap.size w w')) ?_ ?_
  rotate_left
  ·
   intro hJ1_3_4
   refine join_ (σ := Value × Value × Nat) 3 #[true, true, true, true, false, true, false, false] (fun s_ => [(10, .agg #[.int .i64 aX, s_.1]), (12, .agg #[.int .i64 a4, s_.2.1]), (8, .pointer (some ⟨s_.2.2, 0, none⟩))]) (fun s_ w' => (w'.cell? ⟨ad, 0, none⟩ = some (.int .i64 a1_0) ∧ w'.cell? ⟨ad, 1, none⟩ = some (.slice A1_1 l1_1.length c1_1) ∧ w'.cell? ⟨ae, 0, none⟩ = some (.int .i64 a2_0) ∧ w'.cell? ⟨ae, 1, none⟩ = some (.slice A2_1 l2_1.length c2_1)) ∧ (Kd.V (Kd.int .u32) 48 w' w.heap.size (fun k_ => k_ ≠ ay ∧ k_ ≠ ad ∧ k_ ≠ ae ∧ k_ ≠ s_.2.2) s_.1 a3) ∧ (Kd.V (Kd.int .u32) 48 w' w.heap.size (fun k_ => k_ ≠ ay ∧ k_ ≠ ad ∧ k_ ≠ ae ∧ k_ ≠ s_.2.2) s_.2.1 bl) ∧ (w'.heap[ay]? = some (.cells #[] 54 (0, 0))) ∧ (w'.heap[ad]? = some (.cells #[.int .i64 a1_0, .slice A1_1 l1_1.length c1_1] 53 (0, 0))) ∧ (w'.heap[ae]? = some (.cells #[.int .i64 a2_0, .slice A2_1 l2_1.length c2_1] 53 (0, 0))) ∧ (w'.heap[s_.2.2]? = some (.cells #[.int .i64 0, .slice none 0 0] 53 (0, 0))) ∧ (w.heap.size ≤ s_.2.2) ∧ (w.heap.size ≤ s_.2.2) ∧ (ay ≠ s_.2.2) ∧ (s_.2.2 ≠ ay) ∧ (ad ≠ s_.2.2) ∧ (s_.2.2 ≠ ad) ∧ (ae ≠ s_.2.2) ∧ (s_.2.2 ≠ ae) ∧ (Below w.heap.size w w')) ?_ ?_
   rotate_left
   ·
    intro hJ1_3_5
    refine join_ (σ := Value × Nat × Nat) 3 #[true, true, true, false, true, true, false, false] (fun s_ => [(10, .agg #[.int .i64 aX, s_.1]), (7, .pointer (some ⟨s_.2.1, 0, none⟩)), (8, .pointer (some ⟨s_.2.2, 0, none⟩))]) (fun s_ w' => (w'.cell? ⟨ad, 0, none⟩ = some (.int .i64 a1_0) ∧ w'.cell? ⟨ad, 1, none⟩ = some (.slice A1_1 l1_1.length c1_1) ∧ w'.cell? ⟨ae, 0, none⟩ = some (.int .i64 a2_0) ∧ w'.cell? ⟨ae, 1, none⟩ = some (.slice A2_1 l2_1.length c2_1)) ∧ (Kd.V (Kd.int .u32) 48 w' w.heap.size (fun k_ => k_ ≠ ay ∧ k_ ≠ ad ∧ k_ ≠ ae ∧ k_ ≠ s_.2.1 ∧ k_ ≠ s_.2.2) s_.1 a3) ∧ (w'.heap[ay]? = some (.cells #[] 54 (0, 0))) ∧ (w'.heap[ad]? = some (.cells #[.int .i64 a1_0, .slice A1_1 l1_1.length c1_1] 53 (0, 0))) ∧ (w'.heap[ae]? = some (.cells #[.int .i64 a2_0, .slice A2_1 l2_1.length c2_1] 53 (0, 0))) ∧ (w'.heap[s_.2.1]? = some (.cells #[.int .i64 0, .slice none 0 0] 53 (0, 0))) ∧ (w'.heap[s_.2.2]? = some (.cells #[.int .i64 0, .slice none 0 0] 53 (0, 0))) ∧ (w.heap.size ≤ s_.2.1) ∧ (w.heap.size ≤ s_.2.1) ∧ (ay ≠ s_.2.1) ∧ (s_.2.1 ≠ ay) ∧ (ad ≠ s_.2.1) ∧ (s_.2.1 ≠ ad) ∧ (ae ≠ s_.2.1) ∧ (s_.2.1 ≠ ae) ∧ (s_.2.2 ≠ s_.2.1) ∧ (s_.2.1 ≠ s_.2.2) ∧ (w.heap.size ≤ s_.2.2) ∧ (w.heap.size ≤ s_.2.2) ∧ (ay ≠ s_.2.2) ∧ (s_.2.2 ≠ ay) ∧ (ad ≠ s_.2.2) ∧ (s_.2.2 ≠ ad) ∧ (ae ≠ s_.2.2) ∧ (s_.2.2 ≠ ae) ∧ (Below w.heap.size w w')) ?_ ?_
    rotate_left
    ·
     intro hJ1_4_5
     refine join_ (σ := Value × Value) 4 #[true, true, true, true, false, false, false, false] (fun s_ => [(10, .agg #[.int .i64 aX, s_.1]), (12, .agg #[.int .i64 a4, s_.2])]) (fun s_ w' => (w'.cell? ⟨ad, 0, none⟩ = some (.int .i64 a1_0) ∧ w'.cell? ⟨ad, 1, none⟩ = some (.slice A1_1 l1_1.length c1_1) ∧ w'.cell? ⟨ae, 0, none⟩ = some (.int .i64 a2_0) ∧ w'.cell? ⟨ae, 1, none⟩ = some (.slice A2_1 l2_1.length c2_1)) ∧ (Kd.V (Kd.int .u32) 48 w' w.heap.size (fun k_ => k_ ≠ ay ∧ k_ ≠ ad ∧ k_ ≠ ae) s_.1 a3) ∧ (Kd.V (Kd.int .u32) 48 w' w.heap.size (fun k_ => k_ ≠ ay ∧ k_ ≠ ad ∧ k_ ≠ ae) s_.2 bl) ∧ (w'.heap[ay]? = some (.cells #[] 54 (0, 0))) ∧ (w'.heap[ad]? = some (.cells #[.int .i64 a1_0, .slice A1_1 l1_1.length c1_1] 53 (0, 0))) ∧ (w'.heap[ae]? = some (.cells #[.int .i64 a2_0, .slice A2_1 l2_1.length c2_1] 53 (0, 0))) ∧ (Below w.heap.size w w')) ?_ ?_
     rotate_left
     ·
      intro hJ1_3
      refine join_ (σ := Value × Nat) 4 #[true, true, true, false, true, false, false, false] (fun s_ => [(10, .agg #[.int .i64 aX, s_.1]), (7, .pointer (some ⟨s_.2, 0, none⟩))]) (fun s_ w' => (w'.cell? ⟨ad, 0, none⟩ = some (.int .i64 a1_0) ∧ w'.cell? ⟨ad, 1, none⟩ = some (.slice A1_1 l1_1.length c1_1) ∧ w'.cell? ⟨ae, 0, none⟩ = some (.int .i64 a2_0) ∧ w'.cell? ⟨ae, 1, none⟩ = some (.slice A2_1 l2_1.length c2_1)) ∧ (Kd.V (Kd.int .u32) 48 w' w.heap.size (fun k_ => k_ ≠ ay ∧ k_ ≠ ad ∧ k_ ≠ ae ∧ k_ ≠ s_.2) s_.1 a3) ∧ (w'.heap[ay]? = some (.cells #[] 54 (0, 0))) ∧ (w'.heap[ad]? = some (.cells #[.int .i64 a1_0, .slice A1_1 l1_1.length c1_1] 53 (0, 0))) ∧ (w'.heap[ae]? = some (.cells #[.int .i64 a2_0, .slice A2_1 l2_1.length c2_1] 53 (0, 0))) ∧ (w'.heap[s_.2]? = some (.cells #[.int .i64 0, .slice none 0 0] 53 (0, 0))) ∧ (w.heap.size ≤ s_.2) ∧ (w.heap.size ≤ s_.2) ∧ (ay ≠ s_.2) ∧ (s_.2 ≠ ay) ∧ (ad ≠ s_.2) ∧ (s_.2 ≠ ad) ∧ (ae ≠ s_.2) ∧ (s_.2 ≠ ae) ∧ (Below w.heap.size w w')) ?_ ?_
      rotate_left
      ·
       intro hJ1_4
       refine join_ (σ := Value × Nat) 4 #[true, true, true, false, false, true, false, false] (fun s_ => [(10, .agg #[.int .i64 aX, s_.1]), (8, .pointer (some ⟨s_.2, 0, none⟩))]) (fun s_ w' => (w'.cell? ⟨ad, 0, none⟩ = some (.int .i64 a1_0) ∧ w'.cell? ⟨ad, 1, none⟩ = some (.slice A1_1 l1_1.length c1_1) ∧ w'.cell? ⟨ae, 0, none⟩ = some (.int .i64 a2_0) ∧ w'.cell? ⟨ae, 1, none⟩ = some (.slice A2_1 l2_1.length c2_1)) ∧ (Kd.V (Kd.int .u32) 48 w' w.heap.size (fun k_ => k_ ≠ ay ∧ k_ ≠ ad ∧ k_ ≠ ae ∧ k_ ≠ s_.2) s_.1 a3) ∧ (w'.heap[ay]? = some (.cells #[] 54 (0, 0))) ∧ (w'.heap[ad]? = some (.cells #[.int .i64 a1_0, .slice A1_1 l1_1.length c1_1] 53 (0, 0))) ∧ (w'.heap[ae]? = some (.cells #[.int .i64 a2_0, .slice A2_1 l2_1.length c2_1] 53 (0, 0))) ∧ (w'.heap[s_.2]? = some (.cells #[.int .i64 0, .slice none 0 0] 53 (0, 0))) ∧ (w.heap.size ≤ s_.2) ∧ (w.heap.size ≤ s_.2) ∧ (ay ≠ s_.2) ∧ (s_.2 ≠ ay) ∧ (ad ≠ s_.2) ∧ (s_.2 ≠ ad) ∧ (ae ≠ s_.2) ∧ (s_.2 ≠ ae) ∧ (Below w.heap.size w w')) ?_ ?_
       rotate_left
       ·
        intro hJ1_5
        refine join_ (σ := Nat × Nat) 4 #[true, false, true, false, true, true, false, false] (fun s_ => [(7, .pointer (some ⟨s_.1, 0, none⟩)), (8, .pointer (some ⟨s_.2, 0, none⟩))]) (fun s_ w' => (w'.cell? ⟨ad, 0, none⟩ = some (.int .i64 a1_0) ∧ w'.cell? ⟨ad, 1, none⟩ = some (.slice A1_1 l1_1.length c1_1) ∧ w'.cell? ⟨ae, 0, none⟩ = some (.int .i64 a2_0) ∧ w'.cell? ⟨ae, 1, none⟩ = some (.slice A2_1 l2_1.length c2_1)) ∧ (w'.heap[ay]? = some (.cells #[] 54 (0, 0))) ∧ (w'.heap[ad]? = some (.cells #[.int .i64 a1_0, .slice A1_1 l1_1.length c1_1] 53 (0, 0))) ∧ (w'.heap[ae]? = some (.cells #[.int .i64 a2_0, .slice A2_1 l2_1.length c2_1] 53 (0, 0))) ∧ (w'.heap[s_.1]? = some (.cells #[.int .i64 0, .slice none 0 0] 53 (0, 0))) ∧ (w'.heap[s_.2]? = some (.cells #[.int .i64 0, .slice none 0 0] 53 (0, 0))) ∧ (w.heap.size ≤ s_.1) ∧ (w.heap.size ≤ s_.1) ∧ (ay ≠ s_.1) ∧ (s_.1 ≠ ay) ∧ (ad ≠ s_.1) ∧ (s_.1 ≠ ad) ∧ (ae ≠ s_.1) ∧ (s_.1 ≠ ae) ∧ (s_.2 ≠ s_.1) ∧ (s_.1 ≠ s_.2) ∧ (w.heap.size ≤ s_.2) ∧ (w.heap.size ≤ s_.2) ∧ (ay ≠ s_.2) ∧ (s_.2 ≠ ay) ∧ (ad ≠ s_.2) ∧ (s_.2 ≠ ad) ∧ (ae ≠ s_.2) ∧ (s_.2 ≠ ae) ∧ (Below w.heap.size w w')) ?_ ?_
        rotate_left
        ·
         intro hJ4_5
         refine join_ (σ := Value) 5 #[true, true, true, false, false, false, false, false] (fun s_ => [(10, .agg #[.int .i64 aX, s_])]) (fun s_ w' => (w'.cell? ⟨ad, 0, none⟩ = some (.int .i64 a1_0) ∧ w'.cell? ⟨ad, 1, none⟩ = some (.slice A1_1 l1_1.length c1_1) ∧ w'.cell? ⟨ae, 0, none⟩ = some (.int .i64 a2_0) ∧ w'.cell? ⟨ae, 1, none⟩ = some (.slice A2_1 l2_1.length c2_1)) ∧ (Kd.V (Kd.int .u32) 48 w' w.heap.size (fun k_ => k_ ≠ ay ∧ k_ ≠ ad ∧ k_ ≠ ae) s_ a3) ∧ (w'.heap[ay]? = some (.cells #[] 54 (0, 0))) ∧ (w'.heap[ad]? = some (.cells #[.int .i64 a1_0, .slice A1_1 l1_1.length c1_1] 53 (0, 0))) ∧ (w'.heap[ae]? = some (.cells #[.int .i64 a2_0, .slice A2_1 l2_1.length c2_1] 53 (0, 0))) ∧ (Below w.heap.size w w')) ?_ ?_
         rotate_left
         ·
          intro hJ1
          refine join_ (σ := Nat) 5 #[true, false, true, false, true, false, false, false] (fun s_ => [(7, .pointer (some ⟨s_, 0, none⟩))]) (fun s_ w' => (w'.cell? ⟨ad, 0, none⟩ = some (.int .i64 a1_0) ∧ w'.cell? ⟨ad, 1, none⟩ = some (.slice A1_1 l1_1.length c1_1) ∧ w'.cell? ⟨ae, 0, none⟩ = some (.int .i64 a2_0) ∧ w'.cell? ⟨ae, 1, none⟩ = some (.slice A2_1 l2_1.length c2_1)) ∧ (w'.heap[ay]? = some (.cells #[] 54 (0, 0))) ∧ (w'.heap[ad]? = some (.cells #[.int .i64 a1_0, .slice A1_1 l1_1.length c1_1] 53 (0, 0))) ∧ (w'.heap[ae]? = some (.cells #[.int .i64 a2_0, .slice A2_1 l2_1.length c2_1] 53 (0, 0))) ∧ (w'.heap[s_]? = some (.cells #[.int .i64 0, .slice none 0 0] 53 (0, 0))) ∧ (w.heap.size ≤ s_) ∧ (w.heap.size ≤ s_) ∧ (ay ≠ s_) ∧ (s_ ≠ ay) ∧ (ad ≠ s_) ∧ (s_ ≠ ad) ∧ (ae ≠ s_) ∧ (s_ ≠ ae) ∧ (Below w.heap.size w w')) ?_ ?_
          rotate_left
          ·
           intro hJ4
           refine join_ (σ := Nat) 5 #[true, false, true, false, false, true, false, false] (fun s_ => [(8, .pointer (some ⟨s_, 0, none⟩))]) (fun s_ w' => (w'.cell? ⟨ad, 0, none⟩ = some (.int .i64 a1_0) ∧ w'.cell? ⟨ad, 1, none⟩ = some (.slice A1_1 l1_1.length c1_1) ∧ w'.cell? ⟨ae, 0, none⟩ = some (.int .i64 a2_0) ∧ w'.cell? ⟨ae, 1, none⟩ = some (.slice A2_1 l2_1.length c2_1)) ∧ (w'.heap[ay]? = some (.cells #[] 54 (0, 0))) ∧ (w'.heap[ad]? = some (.cells #[.int .i64 a1_0, .slice A1_1 l1_1.length c1_1] 53 (0, 0))) ∧ (w'.heap[ae]? = some (.cells #[.int .i64 a2_0, .slice A2_1 l2_1.length c2_1] 53 (0, 0))) ∧ (w'.heap[s_]? = some (.cells #[.int .i64 0, .slice none 0 0] 53 (0, 0))) ∧ (w.heap.size ≤ s_) ∧ (w.heap.size ≤ s_) ∧ (ay ≠ s_) ∧ (s_ ≠ ay) ∧ (ad ≠ s_) ∧ (s_ ≠ ad) ∧ (ae ≠ s_) ∧ (s_ ≠ ae) ∧ (Below w.heap.size w w')) ?_ ?_
           rotate_left
           ·
            intro hJ5
            refine three_ (i := 1) (j := 4) (k := 5) (Ni := some 10) (Nj := some 7) (Nk := some 8) #[true, true, true, false, false, false, false, false] #[true, false, true, false, true, false, false, false] #[true, false, true, false, false, true, false, false] rfl rfl rfl rfl rfl rfl (three_of HT_.out (by kernel_rfl)) (by decide) (by decide) (by decide) (fun K hK => ?_) (fun K hK => ?_) (fun K hK => ?_)
            ·
             skip
             refine goes_ Try.func148 (by kernel_rfl) rfl #[.agg #[.int .i64 a1_0, .slice A1_1 l1_1.length c1_1]] (by rfl) rfl rfl lu ?_
             with_reducible refine (semiring_least.calls k a1_0 _ _ l1_1 aX a3 _ ?side1 ?side2 A4.out).mono ?_
             (case side1 => repeat (first | exact (Kd.C_below bo.out HB.out) | (with_reducible refine Kd.C_alloc ?_ _) | (with_reducible refine Kd.C_drewN ?_ _) | (with_reducible refine Kd.C_drew ?_)))
             (case side2 => first | exact a5.out | exact vz a5.out)
             rintro e bU ⟨aO, rfl, a8, hb⟩
             refine ⟨_, rfl, ?_⟩
             have aD := am (Kd.V_lower (Kd.V_mono (ok' := fun k_ => k_ ≠ ay ∧ k_ ≠ ad ∧ k_ ≠ ae) a8 (fun k_ hk_ => ⟨(Kd.freshB (g := ay) (o := .cells #[] 54 (0, 0)) (ku ac.out) k_ hk_), (Kd.freshB (g := ad) (o := .cells #[.int .i64 a1_0, .slice A1_1 l1_1.length c1_1] 53 (0, 0)) (ku aa.out) k_ hk_), (Kd.freshB (g := ae) (o := .cells #[.int .i64 a2_0, .slice A2_1 l2_1.length c2_1] 53 (0, 0)) (ku ab.out) k_ hk_)⟩)) (below_size (bu3 HB.out af.out ag.out ah.out)))
             replace ac := kb ac hb
             replace aa := kb aa hb
             replace ab := kb ab hb
             replace HB := be3 HB af ag ah hb
             (try clear hb)
             (try clear hb2)
             (try clear hk)
             (try clear hi)
             (try clear a8)
             refine hK.out _ _ ⟨bc aa 0, bc aa 1, bc ab 0, bc ab 1⟩ (fun hHeld => ?_)
             clear hK K
             refine nq 10 ?_
             exact norm_ (by first | (simp only [putAll, Act.put, List.setIfInBounds_toArray, List.set_cons_zero, List.set_cons_succ]; done) | (simp only [putAll, Act.put, List.setIfInBounds_toArray, List.set_cons_zero, List.set_cons_succ]; rfl)) (hJ1 (aO) _ ⟨hHeld, (vu aD.out), (ku ac.out), (ku aa.out), (ku ab.out), (bu3 HB.out af.out ag.out ah.out)⟩)
            ·
             skip
             refine box_step ?hg (N := 7) ?hd (cs := #[.int .i64 0, .slice none 0 0]) (t := 53) ?hr ?_; (case hd => rfl); (case hg => rfl); (case hr => first | (go_simp; done) | (go_simp; rfl))
             intro aG hg bU hbox hb
             have az := am (hbox)
             have aJ := ng hg (bu3 HB.out af.out ag.out ah.out)
             have aA := ng hg (bu3 HB.out af.out ag.out ah.out)
             replace HB := be3 HB af ag ah hb
             have an := nl hg ac
             have ao := nr hg ac
             replace ac := kb ac hb
             have ai := nl hg aa
             have ap := nr hg aa
             replace aa := kb aa hb
             have aj := nl hg ab
             have aq := nr hg ab
             replace ab := kb ab hb
             clear hb hbox hg
             refine hK.out _ _ ⟨bc aa 0, bc aa 1, bc ab 0, bc ab 1⟩ (fun hHeld => ?_)
             clear hK K
             refine nq 7 ?_
             exact norm_ (by first | (simp only [putAll, Act.put, List.setIfInBounds_toArray, List.set_cons_zero, List.set_cons_succ]; done) | (simp only [putAll, Act.put, List.setIfInBounds_toArray, List.set_cons_zero, List.set_cons_succ]; rfl)) (hJ4 (aG) _ ⟨hHeld, (ku ac.out), (ku aa.out), (ku ab.out), (ku az.out), aJ.out, aA.out, an.out, ao.out, ai.out, ap.out, aj.out, aq.out, (bu4 HB.out af.out ag.out ah.out aA.out)⟩)
            ·
             skip
             refine box_step ?hg (N := 8) ?hd (cs := #[.int .i64 0, .slice none 0 0]) (t := 53) ?hr ?_; (case hd => rfl); (case hg => rfl); (case hr => first | (go_simp; done) | (go_simp; rfl))
             intro aH hg bU hbox hb
             have aB := am (hbox)
             have aK := ng hg (bu3 HB.out af.out ag.out ah.out)
             have aC := ng hg (bu3 HB.out af.out ag.out ah.out)
             replace HB := be3 HB af ag ah hb
             have au := nl hg ac
             have av := nr hg ac
             replace ac := kb ac hb
             have ak := nl hg aa
             have aw := nr hg aa
             replace aa := kb aa hb
             have al := nl hg ab
             have ax := nr hg ab
             replace ab := kb ab hb
             clear hb hbox hg
             refine hK.out _ _ ⟨bc aa 0, bc aa 1, bc ab 0, bc ab 1⟩ (fun hHeld => ?_)
             clear hK K
             refine nq 8 ?_
             exact norm_ (by first | (simp only [putAll, Act.put, List.setIfInBounds_toArray, List.set_cons_zero, List.set_cons_succ]; done) | (simp only [putAll, Act.put, List.setIfInBounds_toArray, List.set_cons_zero, List.set_cons_succ]; rfl)) (hJ5 (aH) _ ⟨hHeld, (ku ac.out), (ku aa.out), (ku ab.out), (ku aB.out), aK.out, aC.out, au.out, av.out, ak.out, aw.out, al.out, ax.out, (bu4 HB.out af.out ag.out ah.out aC.out)⟩)
           ·
            skip
            rintro aH bq ⟨hS_, aQ, aR, aS, aT, aU, aV, aY, aZ, a0, a1, aL, aM, aN⟩
            (try dsimp -simprocs only at aQ aR aS aT aU aV aY aZ a0 a1 aL aM aN)
            clear ac aa ab HB
            have ac := Aside0.mk aQ
            have aa := Aside0.mk aR
            have ab := Aside0.mk aS
            have aB := Aside0.mk aT
            have aK := Aside0.mk aU
            have aC := Aside0.mk aV
            have au := Aside0.mk aY
            have av := Aside0.mk aZ
            have ak := Aside0.mk a0
            have aw := Aside0.mk a1
            have al := Aside0.mk aL
            have ax := Aside0.mk aM
            have HB := Aside0.mk aN
            clear aQ aR aS aT aU aV aY aZ a0 a1 aL aM aN
            have hHeld : bq.cell? ⟨ad, 0, none⟩ = some (.int .i64 a1_0) ∧ bq.cell? ⟨ad, 1, none⟩ = some (.slice A1_1 l1_1.length c1_1) ∧ bq.cell? ⟨ae, 0, none⟩ = some (.int .i64 a2_0) ∧ bq.cell? ⟨ae, 1, none⟩ = some (.slice A2_1 l2_1.length c2_1) := hS_
            refine norm_ (a' := ?_) ?_ ?_
            rotate_left
            ·
             simp only [putAll, Act.put, List.setIfInBounds_toArray, List.set_cons_zero, List.set_cons_succ]
             rfl
            refine two_ (i := 1) (j := 4) (Ni := some 10) (Nj := some 7) #[true, true, true, false, false, true, false, false] #[true, false, true, false, true, true, false, false] rfl rfl rfl rfl (two_of HT_.out (by kernel_rfl)) (by decide) (by decide) (fun K hK => ?_) (fun K hK => ?_)
            ·
             skip
             refine goes_ Try.func148 (by kernel_rfl) rfl #[.agg #[.int .i64 a1_0, .slice A1_1 l1_1.length c1_1]] (by rfl) rfl rfl lu ?_
             with_reducible refine (semiring_least.calls k a1_0 _ _ l1_1 aX a3 _ ?side1 ?side2 A4.out).mono ?_
             (case side1 => repeat (first | exact (Kd.C_below bo.out HB.out) | (with_reducible refine Kd.C_alloc ?_ _) | (with_reducible refine Kd.C_drewN ?_ _) | (with_reducible refine Kd.C_drew ?_)))
             (case side2 => first | exact a5.out | exact vz a5.out)
             rintro e a7 ⟨aO, rfl, a8, hb⟩
             refine ⟨_, rfl, ?_⟩
             have aD := am (Kd.V_lower (Kd.V_mono (ok' := fun k_ => k_ ≠ ay ∧ k_ ≠ ad ∧ k_ ≠ ae ∧ k_ ≠ aH) a8 (fun k_ hk_ => ⟨(Kd.freshB (g := ay) (o := .cells #[] 54 (0, 0)) (ku ac.out) k_ hk_), (Kd.freshB (g := ad) (o := .cells #[.int .i64 a1_0, .slice A1_1 l1_1.length c1_1] 53 (0, 0)) (ku aa.out) k_ hk_), (Kd.freshB (g := ae) (o := .cells #[.int .i64 a2_0, .slice A2_1 l2_1.length c2_1] 53 (0, 0)) (ku ab.out) k_ hk_), (Kd.freshB (g := aH) (o := .cells #[.int .i64 0, .slice none 0 0] 53 (0, 0)) (ku aB.out) k_ hk_)⟩)) (below_size (bu4 HB.out af.out ag.out ah.out aC.out)))
             replace ac := kb ac hb
             replace aa := kb aa hb
             replace ab := kb ab hb
             replace aB := kb aB hb
             replace HB := be4 HB af ag ah aC hb
             (try clear hb)
             (try clear hb2)
             (try clear hk)
             (try clear hi)
             (try clear a8)
             refine hK.out _ _ ⟨bc aa 0, bc aa 1, bc ab 0, bc ab 1⟩ (fun hHeld => ?_)
             clear hK K
             refine nq 10 ?_
             exact norm_ (by first | (simp only [putAll, Act.put, List.setIfInBounds_toArray, List.set_cons_zero, List.set_cons_succ]; done) | (simp only [putAll, Act.put, List.setIfInBounds_toArray, List.set_cons_zero, List.set_cons_succ]; rfl)) (hJ1_5 (aO, aH) _ ⟨hHeld, (vu aD.out), (ku ac.out), (ku aa.out), (ku ab.out), (ku aB.out), aK.out, aC.out, au.out, av.out, ak.out, aw.out, al.out, ax.out, (bu4 HB.out af.out ag.out ah.out aC.out)⟩)
            ·
             skip
             refine box_step ?hg (N := 7) ?hd (cs := #[.int .i64 0, .slice none 0 0]) (t := 53) ?hr ?_; (case hd => rfl); (case hg => rfl); (case hr => first | (go_simp; done) | (go_simp; rfl))
             intro aG hg a7 hbox hb
             have az := am (hbox)
             have aJ := ng hg (bu4 HB.out af.out ag.out ah.out aC.out)
             have aA := ng hg (bu4 HB.out af.out ag.out ah.out aC.out)
             replace HB := be4 HB af ag ah aC hb
             have an := nl hg ac
             have ao := nr hg ac
             replace ac := kb ac hb
             have ai := nl hg aa
             have ap := nr hg aa
             replace aa := kb aa hb
             have aj := nl hg ab
             have aq := nr hg ab
             replace ab := kb ab hb
             have aE := nl hg aB
             have aF := nr hg aB
             replace aB := kb aB hb
             clear hb hbox hg
             refine hK.out _ _ ⟨bc aa 0, bc aa 1, bc ab 0, bc ab 1⟩ (fun hHeld => ?_)
             clear hK K
             refine nq 7 ?_
             exact norm_ (by first | (simp only [putAll, Act.put, List.setIfInBounds_toArray, List.set_cons_zero, List.set_cons_succ]; done) | (simp only [putAll, Act.put, List.setIfInBounds_toArray, List.set_cons_zero, List.set_cons_succ]; rfl)) (hJ4_5 (aG, aH) _ ⟨hHeld, (ku ac.out), (ku aa.out), (ku ab.out), (ku az.out), (ku aB.out), aJ.out, aA.out, an.out, ao.out, ai.out, ap.out, aj.out, aq.out, aE.out, aF.out, aK.out, aC.out, au.out, av.out, ak.out, aw.out, al.out, ax.out, (bu5 HB.out af.out ag.out ah.out aC.out aA.out)⟩)
          ·
           skip
           rintro aG bq ⟨hS_, aQ, aR, aS, aT, aU, aV, aY, aZ, a0, a1, aL, aM, aN⟩
           (try dsimp -simprocs only at aQ aR aS aT aU aV aY aZ a0 a1 aL aM aN)
           clear ac aa ab HB
           have ac := Aside0.mk aQ
           have aa := Aside0.mk aR
           have ab := Aside0.mk aS
           have az := Aside0.mk aT
           have aJ := Aside0.mk aU
           have aA := Aside0.mk aV
           have an := Aside0.mk aY
           have ao := Aside0.mk aZ
           have ai := Aside0.mk a0
           have ap := Aside0.mk a1
           have aj := Aside0.mk aL
           have aq := Aside0.mk aM
           have HB := Aside0.mk aN
           clear aQ aR aS aT aU aV aY aZ a0 a1 aL aM aN
           have hHeld : bq.cell? ⟨ad, 0, none⟩ = some (.int .i64 a1_0) ∧ bq.cell? ⟨ad, 1, none⟩ = some (.slice A1_1 l1_1.length c1_1) ∧ bq.cell? ⟨ae, 0, none⟩ = some (.int .i64 a2_0) ∧ bq.cell? ⟨ae, 1, none⟩ = some (.slice A2_1 l2_1.length c2_1) := hS_
           refine norm_ (a' := ?_) ?_ ?_
           rotate_left
           ·
            simp only [putAll, Act.put, List.setIfInBounds_toArray, List.set_cons_zero, List.set_cons_succ]
            rfl
           refine two_ (i := 1) (j := 5) (Ni := some 10) (Nj := some 8) #[true, true, true, false, true, false, false, false] #[true, false, true, false, true, true, false, false] rfl rfl rfl rfl (two_of HT_.out (by kernel_rfl)) (by decide) (by decide) (fun K hK => ?_) (fun K hK => ?_)
           ·
            skip
            refine goes_ Try.func148 (by kernel_rfl) rfl #[.agg #[.int .i64 a1_0, .slice A1_1 l1_1.length c1_1]] (by rfl) rfl rfl lu ?_
            with_reducible refine (semiring_least.calls k a1_0 _ _ l1_1 aX a3 _ ?side1 ?side2 A4.out).mono ?_
            (case side1 => repeat (first | exact (Kd.C_below bo.out HB.out) | (with_reducible refine Kd.C_alloc ?_ _) | (with_reducible refine Kd.C_drewN ?_ _) | (with_reducible refine Kd.C_drew ?_)))
            (case side2 => first | exact a5.out | exact vz a5.out)
            rintro e a7 ⟨aO, rfl, a8, hb⟩
            refine ⟨_, rfl, ?_⟩
            have aD := am (Kd.V_lower (Kd.V_mono (ok' := fun k_ => k_ ≠ ay ∧ k_ ≠ ad ∧ k_ ≠ ae ∧ k_ ≠ aG) a8 (fun k_ hk_ => ⟨(Kd.freshB (g := ay) (o := .cells #[] 54 (0, 0)) (ku ac.out) k_ hk_), (Kd.freshB (g := ad) (o := .cells #[.int .i64 a1_0, .slice A1_1 l1_1.length c1_1] 53 (0, 0)) (ku aa.out) k_ hk_), (Kd.freshB (g := ae) (o := .cells #[.int .i64 a2_0, .slice A2_1 l2_1.length c2_1] 53 (0, 0)) (ku ab.out) k_ hk_), (Kd.freshB (g := aG) (o := .cells #[.int .i64 0, .slice none 0 0] 53 (0, 0)) (ku az.out) k_ hk_)⟩)) (below_size (bu4 HB.out af.out ag.out ah.out aA.out)))
            replace ac := kb ac hb
            replace aa := kb aa hb
            replace ab := kb ab hb
            replace az := kb az hb
            replace HB := be4 HB af ag ah aA hb
            (try clear hb)
            (try clear hb2)
            (try clear hk)
            (try clear hi)
            (try clear a8)
            refine hK.out _ _ ⟨bc aa 0, bc aa 1, bc ab 0, bc ab 1⟩ (fun hHeld => ?_)
            clear hK K
            refine nq 10 ?_
            exact norm_ (by first | (simp only [putAll, Act.put, List.setIfInBounds_toArray, List.set_cons_zero, List.set_cons_succ]; done) | (simp only [putAll, Act.put, List.setIfInBounds_toArray, List.set_cons_zero, List.set_cons_succ]; rfl)) (hJ1_4 (aO, aG) _ ⟨hHeld, (vu aD.out), (ku ac.out), (ku aa.out), (ku ab.out), (ku az.out), aJ.out, aA.out, an.out, ao.out, ai.out, ap.out, aj.out, aq.out, (bu4 HB.out af.out ag.out ah.out aA.out)⟩)
           ·
            skip
            refine box_step ?hg (N := 8) ?hd (cs := #[.int .i64 0, .slice none 0 0]) (t := 53) ?hr ?_; (case hd => rfl); (case hg => rfl); (case hr => first | (go_simp; done) | (go_simp; rfl))
            intro aH hg a7 hbox hb
            have aB := am (hbox)
            have aK := ng hg (bu4 HB.out af.out ag.out ah.out aA.out)
            have aC := ng hg (bu4 HB.out af.out ag.out ah.out aA.out)
            replace HB := be4 HB af ag ah aA hb
            have au := nl hg ac
            have av := nr hg ac
            replace ac := kb ac hb
            have ak := nl hg aa
            have aw := nr hg aa
            replace aa := kb aa hb
            have al := nl hg ab
            have ax := nr hg ab
            replace ab := kb ab hb
            have aF := nl hg az
            have aE := nr hg az
            replace az := kb az hb
            clear hb hbox hg
            refine hK.out _ _ ⟨bc aa 0, bc aa 1, bc ab 0, bc ab 1⟩ (fun hHeld => ?_)
            clear hK K
            refine nq 8 ?_
            exact norm_ (by first | (simp only [putAll, Act.put, List.setIfInBounds_toArray, List.set_cons_zero, List.set_cons_succ]; done) | (simp only [putAll, Act.put, List.setIfInBounds_toArray, List.set_cons_zero, List.set_cons_succ]; rfl)) (hJ4_5 (aG, aH) _ ⟨hHeld, (ku ac.out), (ku aa.out), (ku ab.out), (ku az.out), (ku aB.out), aJ.out, aA.out, an.out, ao.out, ai.out, ap.out, aj.out, aq.out, aE.out, aF.out, aK.out, aC.out, au.out, av.out, ak.out, aw.out, al.out, ax.out, (bu5 HB.out af.out ag.out ah.out aA.out aC.out)⟩)
         ·
          skip
          rintro aO bq ⟨hS_, aQ, aR, aS, aT, aU⟩
          (try dsimp -simprocs only at aQ aR aS aT aU)
          clear ac aa ab HB
          have aD := Aside0.mk aQ
          have ac := Aside0.mk aR
          have aa := Aside0.mk aS
          have ab := Aside0.mk aT
          have HB := Aside0.mk aU
          clear aQ aR aS aT aU
          have hHeld : bq.cell? ⟨ad, 0, none⟩ = some (.int .i64 a1_0) ∧ bq.cell? ⟨ad, 1, none⟩ = some (.slice A1_1 l1_1.length c1_1) ∧ bq.cell? ⟨ae, 0, none⟩ = some (.int .i64 a2_0) ∧ bq.cell? ⟨ae, 1, none⟩ = some (.slice A2_1 l2_1.length c2_1) := hS_
          refine norm_ (a' := ?_) ?_ ?_
          rotate_left
          ·
           simp only [putAll, Act.put, List.setIfInBounds_toArray, List.set_cons_zero, List.set_cons_succ]
           rfl
          refine three_ (i := 3) (j := 4) (k := 5) (Ni := some 12) (Nj := some 7) (Nk := some 8) #[true, true, true, true, false, false, false, false] #[true, true, true, false, true, false, false, false] #[true, true, true, false, false, true, false, false] rfl rfl rfl rfl rfl rfl (three_of HT_.out (by kernel_rfl)) (by decide) (by decide) (by decide) (fun K hK => ?_) (fun K hK => ?_) (fun K hK => ?_)
          ·
           skip
           refine goes_ Try.func148 (by kernel_rfl) rfl #[.agg #[.int .i64 a2_0, .slice A2_1 l2_1.length c2_1]] (by rfl) rfl rfl lu ?_
           with_reducible refine (semiring_least.calls k a2_0 _ _ l2_1 a4 bl _ ?side1 ?side2 A5.out).mono ?_
           (case side1 => repeat (first | exact (Kd.C_below bp.out HB.out) | (with_reducible refine Kd.C_alloc ?_ _) | (with_reducible refine Kd.C_drewN ?_ _) | (with_reducible refine Kd.C_drew ?_)))
           (case side2 => first | exact a6.out | exact vz a6.out)
           rintro e a7 ⟨a2, rfl, a8, hb⟩
           refine ⟨_, rfl, ?_⟩
           replace aD := kv aD hb
           have aI := am (Kd.V_lower (Kd.V_mono (ok' := fun k_ => k_ ≠ ay ∧ k_ ≠ ad ∧ k_ ≠ ae) a8 (fun k_ hk_ => ⟨(Kd.freshB (g := ay) (o := .cells #[] 54 (0, 0)) (ku ac.out) k_ hk_), (Kd.freshB (g := ad) (o := .cells #[.int .i64 a1_0, .slice A1_1 l1_1.length c1_1] 53 (0, 0)) (ku aa.out) k_ hk_), (Kd.freshB (g := ae) (o := .cells #[.int .i64 a2_0, .slice A2_1 l2_1.length c2_1] 53 (0, 0)) (ku ab.out) k_ hk_)⟩)) (below_size (bu3 HB.out af.out ag.out ah.out)))
           replace ac := kb ac hb
           replace aa := kb aa hb
           replace ab := kb ab hb
           replace HB := be3 HB af ag ah hb
           (try clear hb)
           (try clear hb2)
           (try clear hk)
           (try clear hi)
           (try clear a8)
           refine hK.out _ _ ⟨bc aa 0, bc aa 1, bc ab 0, bc ab 1⟩ (fun hHeld => ?_)
           clear hK K
           refine nq 12 ?_
           exact norm_ (by first | (simp only [putAll, Act.put, List.setIfInBounds_toArray, List.set_cons_zero, List.set_cons_succ]; done) | (simp only [putAll, Act.put, List.setIfInBounds_toArray, List.set_cons_zero, List.set_cons_succ]; rfl)) (hJ1_3 (aO, a2) _ ⟨hHeld, (vu aD.out), (vu aI.out), (ku ac.out), (ku aa.out), (ku ab.out), (bu3 HB.out af.out ag.out ah.out)⟩)
          ·
           skip
           refine box_step ?hg (N := 7) ?hd (cs := #[.int .i64 0, .slice none 0 0]) (t := 53) ?hr ?_; (case hd => rfl); (case hg => rfl); (case hr => first | (go_simp; done) | (go_simp; rfl))
           intro aG hg a7 hbox hb
           replace aD := ke aD hg hb
           have az := am (hbox)
           have aJ := ng hg (bu3 HB.out af.out ag.out ah.out)
           have aA := ng hg (bu3 HB.out af.out ag.out ah.out)
           replace HB := be3 HB af ag ah hb
           have an := nl hg ac
           have ao := nr hg ac
           replace ac := kb ac hb
           have ai := nl hg aa
           have ap := nr hg aa
           replace aa := kb aa hb
           have aj := nl hg ab
           have aq := nr hg ab
           replace ab := kb ab hb
           clear hb hbox hg
           refine hK.out _ _ ⟨bc aa 0, bc aa 1, bc ab 0, bc ab 1⟩ (fun hHeld => ?_)
           clear hK K
           refine nq 7 ?_
           exact norm_ (by first | (simp only [putAll, Act.put, List.setIfInBounds_toArray, List.set_cons_zero, List.set_cons_succ]; done) | (simp only [putAll, Act.put, List.setIfInBounds_toArray, List.set_cons_zero, List.set_cons_succ]; rfl)) (hJ1_4 (aO, aG) _ ⟨hHeld, (vz aD.out), (ku ac.out), (ku aa.out), (ku ab.out), (ku az.out), aJ.out, aA.out, an.out, ao.out, ai.out, ap.out, aj.out, aq.out, (bu4 HB.out af.out ag.out ah.out aA.out)⟩)
          ·
           skip
           refine box_step ?hg (N := 8) ?hd (cs := #[.int .i64 0, .slice none 0 0]) (t := 53) ?hr ?_; (case hd => rfl); (case hg => rfl); (case hr => first | (go_simp; done) | (go_simp; rfl))
           intro aH hg a7 hbox hb
           replace aD := ke aD hg hb
           have aB := am (hbox)
           have aK := ng hg (bu3 HB.out af.out ag.out ah.out)
           have aC := ng hg (bu3 HB.out af.out ag.out ah.out)
           replace HB := be3 HB af ag ah hb
           have au := nl hg ac
           have av := nr hg ac
           replace ac := kb ac hb
           have ak := nl hg aa
           have aw := nr hg aa
           replace aa := kb aa hb
           have al := nl hg ab
           have ax := nr hg ab
           replace ab := kb ab hb
           clear hb hbox hg
           refine hK.out _ _ ⟨bc aa 0, bc aa 1, bc ab 0, bc ab 1⟩ (fun hHeld => ?_)
           clear hK K
           refine nq 8 ?_
           exact norm_ (by first | (simp only [putAll, Act.put, List.setIfInBounds_toArray, List.set_cons_zero, List.set_cons_succ]; done) | (simp only [putAll, Act.put, List.setIfInBounds_toArray, List.set_cons_zero, List.set_cons_succ]; rfl)) (hJ1_5 (aO, aH) _ ⟨hHeld, (vz aD.out), (ku ac.out), (ku aa.out), (ku ab.out), (ku aB.out), aK.out, aC.out, au.out, av.out, ak.out, aw.out, al.out, ax.out, (bu4 HB.out af.out ag.out ah.out aC.out)⟩)
        ·
         skip
         rintro ⟨aG, aH⟩ a7 ⟨hS_, aQ, aR, aS, aT, aU, aV, aY, aZ, a0, a1, aL, aM, aN, aP, aW, a9, ba, bb, bd, bf, bg, bh, bi, bj⟩
         (try dsimp -simprocs only at aQ aR aS aT aU aV aY aZ a0 a1 aL aM aN aP aW a9 ba bb bd bf bg bh bi bj)
         clear ac aa ab HB
         have ac := Aside0.mk aQ
         have aa := Aside0.mk aR
         have ab := Aside0.mk aS
         have az := Aside0.mk aT
         have aB := Aside0.mk aU
         have aJ := Aside0.mk aV
         have aA := Aside0.mk aY
         have an := Aside0.mk aZ
         have ao := Aside0.mk a0
         have ai := Aside0.mk a1
         have ap := Aside0.mk aL
         have aj := Aside0.mk aM
         have aq := Aside0.mk aN
         have aE := Aside0.mk aP
         have aF := Aside0.mk aW
         have aK := Aside0.mk a9
         have aC := Aside0.mk ba
         have au := Aside0.mk bb
         have av := Aside0.mk bd
         have ak := Aside0.mk bf
         have aw := Aside0.mk bg
         have al := Aside0.mk bh
         have ax := Aside0.mk bi
         have HB := Aside0.mk bj
         clear aQ aR aS aT aU aV aY aZ a0 a1 aL aM aN aP aW a9 ba bb bd bf bg bh bi bj
         have hHeld : a7.cell? ⟨ad, 0, none⟩ = some (.int .i64 a1_0) ∧ a7.cell? ⟨ad, 1, none⟩ = some (.slice A1_1 l1_1.length c1_1) ∧ a7.cell? ⟨ae, 0, none⟩ = some (.int .i64 a2_0) ∧ a7.cell? ⟨ae, 1, none⟩ = some (.slice A2_1 l2_1.length c2_1) := hS_
         refine norm_ (a' := ?_) ?_ ?_
         rotate_left
         ·
          simp only [putAll, Act.put, List.setIfInBounds_toArray, List.set_cons_zero, List.set_cons_succ]
          rfl
         refine one_ (i := 1) (N := some 10) #[true, true, true, false, true, true, false, false] rfl rfl (one_of HT_.out (by kernel_rfl)) (by decide) (fun K hK => ?_)
         refine goes_ Try.func148 (by kernel_rfl) rfl #[.agg #[.int .i64 a1_0, .slice A1_1 l1_1.length c1_1]] (by rfl) rfl rfl lu ?_
         with_reducible refine (semiring_least.calls k a1_0 _ _ l1_1 aX a3 _ ?side1 ?side2 A4.out).mono ?_
         (case side1 => repeat (first | exact (Kd.C_below bo.out HB.out) | (with_reducible refine Kd.C_alloc ?_ _) | (with_reducible refine Kd.C_drewN ?_ _) | (with_reducible refine Kd.C_drew ?_)))
         (case side2 => first | exact a5.out | exact vz a5.out)
         rintro e bk ⟨aO, rfl, a8, hb⟩
         refine ⟨_, rfl, ?_⟩
         have aD := am (Kd.V_lower (Kd.V_mono (ok' := fun k_ => k_ ≠ ay ∧ k_ ≠ ad ∧ k_ ≠ ae ∧ k_ ≠ aG ∧ k_ ≠ aH) a8 (fun k_ hk_ => ⟨(Kd.freshB (g := ay) (o := .cells #[] 54 (0, 0)) (ku ac.out) k_ hk_), (Kd.freshB (g := ad) (o := .cells #[.int .i64 a1_0, .slice A1_1 l1_1.length c1_1] 53 (0, 0)) (ku aa.out) k_ hk_), (Kd.freshB (g := ae) (o := .cells #[.int .i64 a2_0, .slice A2_1 l2_1.length c2_1] 53 (0, 0)) (ku ab.out) k_ hk_), (Kd.freshB (g := aG) (o := .cells #[.int .i64 0, .slice none 0 0] 53 (0, 0)) (ku az.out) k_ hk_), (Kd.freshB (g := aH) (o := .cells #[.int .i64 0, .slice none 0 0] 53 (0, 0)) (ku aB.out) k_ hk_)⟩)) (below_size (bu5 HB.out af.out ag.out ah.out aA.out aC.out)))
         replace ac := kb ac hb
         replace aa := kb aa hb
         replace ab := kb ab hb
         replace az := kb az hb
         replace aB := kb aB hb
         replace HB := be5 HB af ag ah aA aC hb
         (try clear hb)
         (try clear hb2)
         (try clear hk)
         (try clear hi)
         (try clear a8)
         refine hK.out _ _ ⟨bc aa 0, bc aa 1, bc ab 0, bc ab 1⟩ (fun hHeld => ?_)
         clear hK K
         refine nq 10 ?_
         exact norm_ (by first | (simp only [putAll, Act.put, List.setIfInBounds_toArray, List.set_cons_zero, List.set_cons_succ]; done) | (simp only [putAll, Act.put, List.setIfInBounds_toArray, List.set_cons_zero, List.set_cons_succ]; rfl)) (hJ1_4_5 (aO, aG, aH) _ ⟨hHeld, (vu aD.out), (ku ac.out), (ku aa.out), (ku ab.out), (ku az.out), (ku aB.out), aJ.out, aA.out, an.out, ao.out, ai.out, ap.out, aj.out, aq.out, aE.out, aF.out, aK.out, aC.out, au.out, av.out, ak.out, aw.out, al.out, ax.out, (bu5 HB.out af.out ag.out ah.out aA.out aC.out)⟩)
       ·
        skip
        rintro ⟨aO, aH⟩ a7 ⟨hS_, aQ, aR, aS, aT, aU, aV, aY, aZ, a0, a1, aL, aM, aN, aP⟩
        (try dsimp -simprocs only at aQ aR aS aT aU aV aY aZ a0 a1 aL aM aN aP)
        clear ac aa ab HB
        have aD := Aside0.mk aQ
        have ac := Aside0.mk aR
        have aa := Aside0.mk aS
        have ab := Aside0.mk aT
        have aB := Aside0.mk aU
        have aK := Aside0.mk aV
        have aC := Aside0.mk aY
        have au := Aside0.mk aZ
        have av := Aside0.mk a0
        have ak := Aside0.mk a1
        have aw := Aside0.mk aL
        have al := Aside0.mk aM
        have ax := Aside0.mk aN
        have HB := Aside0.mk aP
        clear aQ aR aS aT aU aV aY aZ a0 a1 aL aM aN aP
        have hHeld : a7.cell? ⟨ad, 0, none⟩ = some (.int .i64 a1_0) ∧ a7.cell? ⟨ad, 1, none⟩ = some (.slice A1_1 l1_1.length c1_1) ∧ a7.cell? ⟨ae, 0, none⟩ = some (.int .i64 a2_0) ∧ a7.cell? ⟨ae, 1, none⟩ = some (.slice A2_1 l2_1.length c2_1) := hS_
        refine norm_ (a' := ?_) ?_ ?_
        rotate_left
        ·
         simp only [putAll, Act.put, List.setIfInBounds_toArray, List.set_cons_zero, List.set_cons_succ]
         rfl
        refine two_ (i := 3) (j := 4) (Ni := some 12) (Nj := some 7) #[true, true, true, true, false, true, false, false] #[true, true, true, false, true, true, false, false] rfl rfl rfl rfl (two_of HT_.out (by kernel_rfl)) (by decide) (by decide) (fun K hK => ?_) (fun K hK => ?_)
        ·
         skip
         refine goes_ Try.func148 (by kernel_rfl) rfl #[.agg #[.int .i64 a2_0, .slice A2_1 l2_1.length c2_1]] (by rfl) rfl rfl lu ?_
         with_reducible refine (semiring_least.calls k a2_0 _ _ l2_1 a4 bl _ ?side1 ?side2 A5.out).mono ?_
         (case side1 => repeat (first | exact (Kd.C_below bp.out HB.out) | (with_reducible refine Kd.C_alloc ?_ _) | (with_reducible refine Kd.C_drewN ?_ _) | (with_reducible refine Kd.C_drew ?_)))
         (case side2 => first | exact a6.out | exact vz a6.out)
         rintro e bk ⟨a2, rfl, a8, hb⟩
         refine ⟨_, rfl, ?_⟩
         replace aD := kv aD hb
         have aI := am (Kd.V_lower (Kd.V_mono (ok' := fun k_ => k_ ≠ ay ∧ k_ ≠ ad ∧ k_ ≠ ae ∧ k_ ≠ aH) a8 (fun k_ hk_ => ⟨(Kd.freshB (g := ay) (o := .cells #[] 54 (0, 0)) (ku ac.out) k_ hk_), (Kd.freshB (g := ad) (o := .cells #[.int .i64 a1_0, .slice A1_1 l1_1.length c1_1] 53 (0, 0)) (ku aa.out) k_ hk_), (Kd.freshB (g := ae) (o := .cells #[.int .i64 a2_0, .slice A2_1 l2_1.length c2_1] 53 (0, 0)) (ku ab.out) k_ hk_), (Kd.freshB (g := aH) (o := .cells #[.int .i64 0, .slice none 0 0] 53 (0, 0)) (ku aB.out) k_ hk_)⟩)) (below_size (bu4 HB.out af.out ag.out ah.out aC.out)))
         replace ac := kb ac hb
         replace aa := kb aa hb
         replace ab := kb ab hb
         replace aB := kb aB hb
         replace HB := be4 HB af ag ah aC hb
         (try clear hb)
         (try clear hb2)
         (try clear hk)
         (try clear hi)
         (try clear a8)
         refine hK.out _ _ ⟨bc aa 0, bc aa 1, bc ab 0, bc ab 1⟩ (fun hHeld => ?_)
         clear hK K
         refine nq 12 ?_
         exact norm_ (by first | (simp only [putAll, Act.put, List.setIfInBounds_toArray, List.set_cons_zero, List.set_cons_succ]; done) | (simp only [putAll, Act.put, List.setIfInBounds_toArray, List.set_cons_zero, List.set_cons_succ]; rfl)) (hJ1_3_5 (aO, a2, aH) _ ⟨hHeld, (vu aD.out), (vu aI.out), (ku ac.out), (ku aa.out), (ku ab.out), (ku aB.out), aK.out, aC.out, au.out, av.out, ak.out, aw.out, al.out, ax.out, (bu4 HB.out af.out ag.out ah.out aC.out)⟩)
        ·
         skip
         refine box_step ?hg (N := 7) ?hd (cs := #[.int .i64 0, .slice none 0 0]) (t := 53) ?hr ?_; (case hd => rfl); (case hg => rfl); (case hr => first | (go_simp; done) | (go_simp; rfl))
         intro aG hg bk hbox hb
         replace aD := ke aD hg hb
         have az := am (hbox)
         have aJ := ng hg (bu4 HB.out af.out ag.out ah.out aC.out)
         have aA := ng hg (bu4 HB.out af.out ag.out ah.out aC.out)
         replace HB := be4 HB af ag ah aC hb
         have an := nl hg ac
         have ao := nr hg ac
         replace ac := kb ac hb
         have ai := nl hg aa
         have ap := nr hg aa
         replace aa := kb aa hb
         have aj := nl hg ab
         have aq := nr hg ab
         replace ab := kb ab hb
         have aE := nl hg aB
         have aF := nr hg aB
         replace aB := kb aB hb
         clear hb hbox hg
         refine hK.out _ _ ⟨bc aa 0, bc aa 1, bc ab 0, bc ab 1⟩ (fun hHeld => ?_)
         clear hK K
         refine nq 7 ?_
         exact norm_ (by first | (simp only [putAll, Act.put, List.setIfInBounds_toArray, List.set_cons_zero, List.set_cons_succ]; done) | (simp only [putAll, Act.put, List.setIfInBounds_toArray, List.set_cons_zero, List.set_cons_succ]; rfl)) (hJ1_4_5 (aO, aG, aH) _ ⟨hHeld, (vz aD.out), (ku ac.out), (ku aa.out), (ku ab.out), (ku az.out), (ku aB.out), aJ.out, aA.out, an.out, ao.out, ai.out, ap.out, aj.out, aq.out, aE.out, aF.out, aK.out, aC.out, au.out, av.out, ak.out, aw.out, al.out, ax.out, (bu5 HB.out af.out ag.out ah.out aC.out aA.out)⟩)
      ·
       skip
       rintro ⟨aO, aG⟩ a7 ⟨hS_, aQ, aR, aS, aT, aU, aV, aY, aZ, a0, a1, aL, aM, aN, aP⟩
       (try dsimp -simprocs only at aQ aR aS aT aU aV aY aZ a0 a1 aL aM aN aP)
       clear ac aa ab HB
       have aD := Aside0.mk aQ
       have ac := Aside0.mk aR
       have aa := Aside0.mk aS
       have ab := Aside0.mk aT
       have az := Aside0.mk aU
       have aJ := Aside0.mk aV
       have aA := Aside0.mk aY
       have an := Aside0.mk aZ
       have ao := Aside0.mk a0
       have ai := Aside0.mk a1
       have ap := Aside0.mk aL
       have aj := Aside0.mk aM
       have aq := Aside0.mk aN
       have HB := Aside0.mk aP
       clear aQ aR aS aT aU aV aY aZ a0 a1 aL aM aN aP
       have hHeld : a7.cell? ⟨ad, 0, none⟩ = some (.int .i64 a1_0) ∧ a7.cell? ⟨ad, 1, none⟩ = some (.slice A1_1 l1_1.length c1_1) ∧ a7.cell? ⟨ae, 0, none⟩ = some (.int .i64 a2_0) ∧ a7.cell? ⟨ae, 1, none⟩ = some (.slice A2_1 l2_1.length c2_1) := hS_
       refine norm_ (a' := ?_) ?_ ?_
       rotate_left
       ·
        simp only [putAll, Act.put, List.setIfInBounds_toArray, List.set_cons_zero, List.set_cons_succ]
        rfl
       refine two_ (i := 3) (j := 5) (Ni := some 12) (Nj := some 8) #[true, true, true, true, true, false, false, false] #[true, true, true, false, true, true, false, false] rfl rfl rfl rfl (two_of HT_.out (by kernel_rfl)) (by decide) (by decide) (fun K hK => ?_) (fun K hK => ?_)
       ·
        skip
        refine goes_ Try.func148 (by kernel_rfl) rfl #[.agg #[.int .i64 a2_0, .slice A2_1 l2_1.length c2_1]] (by rfl) rfl rfl lu ?_
        with_reducible refine (semiring_least.calls k a2_0 _ _ l2_1 a4 bl _ ?side1 ?side2 A5.out).mono ?_
        (case side1 => repeat (first | exact (Kd.C_below bp.out HB.out) | (with_reducible refine Kd.C_alloc ?_ _) | (with_reducible refine Kd.C_drewN ?_ _) | (with_reducible refine Kd.C_drew ?_)))
        (case side2 => first | exact a6.out | exact vz a6.out)
        rintro e bk ⟨a2, rfl, a8, hb⟩
        refine ⟨_, rfl, ?_⟩
        replace aD := kv aD hb
        have aI := am (Kd.V_lower (Kd.V_mono (ok' := fun k_ => k_ ≠ ay ∧ k_ ≠ ad ∧ k_ ≠ ae ∧ k_ ≠ aG) a8 (fun k_ hk_ => ⟨(Kd.freshB (g := ay) (o := .cells #[] 54 (0, 0)) (ku ac.out) k_ hk_), (Kd.freshB (g := ad) (o := .cells #[.int .i64 a1_0, .slice A1_1 l1_1.length c1_1] 53 (0, 0)) (ku aa.out) k_ hk_), (Kd.freshB (g := ae) (o := .cells #[.int .i64 a2_0, .slice A2_1 l2_1.length c2_1] 53 (0, 0)) (ku ab.out) k_ hk_), (Kd.freshB (g := aG) (o := .cells #[.int .i64 0, .slice none 0 0] 53 (0, 0)) (ku az.out) k_ hk_)⟩)) (below_size (bu4 HB.out af.out ag.out ah.out aA.out)))
        replace ac := kb ac hb
        replace aa := kb aa hb
        replace ab := kb ab hb
        replace az := kb az hb
        replace HB := be4 HB af ag ah aA hb
        (try clear hb)
        (try clear hb2)
        (try clear hk)
        (try clear hi)
        (try clear a8)
        refine hK.out _ _ ⟨bc aa 0, bc aa 1, bc ab 0, bc ab 1⟩ (fun hHeld => ?_)
        clear hK K
        refine nq 12 ?_
        exact norm_ (by first | (simp only [putAll, Act.put, List.setIfInBounds_toArray, List.set_cons_zero, List.set_cons_succ]; done) | (simp only [putAll, Act.put, List.setIfInBounds_toArray, List.set_cons_zero, List.set_cons_succ]; rfl)) (hJ1_3_4 (aO, a2, aG) _ ⟨hHeld, (vu aD.out), (vu aI.out), (ku ac.out), (ku aa.out), (ku ab.out), (ku az.out), aJ.out, aA.out, an.out, ao.out, ai.out, ap.out, aj.out, aq.out, (bu4 HB.out af.out ag.out ah.out aA.out)⟩)
       ·
        skip
        refine box_step ?hg (N := 8) ?hd (cs := #[.int .i64 0, .slice none 0 0]) (t := 53) ?hr ?_; (case hd => rfl); (case hg => rfl); (case hr => first | (go_simp; done) | (go_simp; rfl))
        intro aH hg bk hbox hb
        replace aD := ke aD hg hb
        have aB := am (hbox)
        have aK := ng hg (bu4 HB.out af.out ag.out ah.out aA.out)
        have aC := ng hg (bu4 HB.out af.out ag.out ah.out aA.out)
        replace HB := be4 HB af ag ah aA hb
        have au := nl hg ac
        have av := nr hg ac
        replace ac := kb ac hb
        have ak := nl hg aa
        have aw := nr hg aa
        replace aa := kb aa hb
        have al := nl hg ab
        have ax := nr hg ab
        replace ab := kb ab hb
        have aF := nl hg az
        have aE := nr hg az
        replace az := kb az hb
        clear hb hbox hg
        refine hK.out _ _ ⟨bc aa 0, bc aa 1, bc ab 0, bc ab 1⟩ (fun hHeld => ?_)
        clear hK K
        refine nq 8 ?_
        exact norm_ (by first | (simp only [putAll, Act.put, List.setIfInBounds_toArray, List.set_cons_zero, List.set_cons_succ]; done) | (simp only [putAll, Act.put, List.setIfInBounds_toArray, List.set_cons_zero, List.set_cons_succ]; rfl)) (hJ1_4_5 (aO, aG, aH) _ ⟨hHeld, (vz aD.out), (ku ac.out), (ku aa.out), (ku ab.out), (ku az.out), (ku aB.out), aJ.out, aA.out, an.out, ao.out, ai.out, ap.out, aj.out, aq.out, aE.out, aF.out, aK.out, aC.out, au.out, av.out, ak.out, aw.out, al.out, ax.out, (bu5 HB.out af.out ag.out ah.out aA.out aC.out)⟩)
     ·
      skip
      rintro ⟨aO, a2⟩ a7 ⟨hS_, aQ, aR, aS, aT, aU, aV⟩
      (try dsimp -simprocs only at aQ aR aS aT aU aV)
      clear ac aa ab HB
      have aD := Aside0.mk aQ
      have aI := Aside0.mk aR
      have ac := Aside0.mk aS
      have aa := Aside0.mk aT
      have ab := Aside0.mk aU
      have HB := Aside0.mk aV
      clear aQ aR aS aT aU aV
      have hHeld : a7.cell? ⟨ad, 0, none⟩ = some (.int .i64 a1_0) ∧ a7.cell? ⟨ad, 1, none⟩ = some (.slice A1_1 l1_1.length c1_1) ∧ a7.cell? ⟨ae, 0, none⟩ = some (.int .i64 a2_0) ∧ a7.cell? ⟨ae, 1, none⟩ = some (.slice A2_1 l2_1.length c2_1) := hS_
      refine norm_ (a' := ?_) ?_ ?_
      rotate_left
      ·
       simp only [putAll, Act.put, List.setIfInBounds_toArray, List.set_cons_zero, List.set_cons_succ]
       rfl
      refine two_ (i := 4) (j := 5) (Ni := some 7) (Nj := some 8) #[true, true, true, true, true, false, false, false] #[true, true, true, true, false, true, false, false] rfl rfl rfl rfl (two_of HT_.out (by kernel_rfl)) (by decide) (by decide) (fun K hK => ?_) (fun K hK => ?_)
      ·
       skip
       refine box_step ?hg (N := 7) ?hd (cs := #[.int .i64 0, .slice none 0 0]) (t := 53) ?hr ?_; (case hd => rfl); (case hg => rfl); (case hr => first | (go_simp; done) | (go_simp; rfl))
       intro aG hg bk hbox hb
       replace aD := ke aD hg hb
       replace aI := ke aI hg hb
       have az := am (hbox)
       have aJ := ng hg (bu3 HB.out af.out ag.out ah.out)
       have aA := ng hg (bu3 HB.out af.out ag.out ah.out)
       replace HB := be3 HB af ag ah hb
       have an := nl hg ac
       have ao := nr hg ac
       replace ac := kb ac hb
       have ai := nl hg aa
       have ap := nr hg aa
       replace aa := kb aa hb
       have aj := nl hg ab
       have aq := nr hg ab
       replace ab := kb ab hb
       clear hb hbox hg
       refine hK.out _ _ ⟨bc aa 0, bc aa 1, bc ab 0, bc ab 1⟩ (fun hHeld => ?_)
       clear hK K
       refine nq 7 ?_
       exact norm_ (by first | (simp only [putAll, Act.put, List.setIfInBounds_toArray, List.set_cons_zero, List.set_cons_succ]; done) | (simp only [putAll, Act.put, List.setIfInBounds_toArray, List.set_cons_zero, List.set_cons_succ]; rfl)) (hJ1_3_4 (aO, a2, aG) _ ⟨hHeld, (vz aD.out), (vz aI.out), (ku ac.out), (ku aa.out), (ku ab.out), (ku az.out), aJ.out, aA.out, an.out, ao.out, ai.out, ap.out, aj.out, aq.out, (bu4 HB.out af.out ag.out ah.out aA.out)⟩)
      ·
       skip
       refine box_step ?hg (N := 8) ?hd (cs := #[.int .i64 0, .slice none 0 0]) (t := 53) ?hr ?_; (case hd => rfl); (case hg => rfl); (case hr => first | (go_simp; done) | (go_simp; rfl))
       intro aH hg bk hbox hb
       replace aD := ke aD hg hb
       replace aI := ke aI hg hb
       have aB := am (hbox)
       have aK := ng hg (bu3 HB.out af.out ag.out ah.out)
       have aC := ng hg (bu3 HB.out af.out ag.out ah.out)
       replace HB := be3 HB af ag ah hb
       have au := nl hg ac
       have av := nr hg ac
       replace ac := kb ac hb
       have ak := nl hg aa
       have aw := nr hg aa
       replace aa := kb aa hb
       have al := nl hg ab
       have ax := nr hg ab
       replace ab := kb ab hb
       clear hb hbox hg
       refine hK.out _ _ ⟨bc aa 0, bc aa 1, bc ab 0, bc ab 1⟩ (fun hHeld => ?_)
       clear hK K
       refine nq 8 ?_
       exact norm_ (by first | (simp only [putAll, Act.put, List.setIfInBounds_toArray, List.set_cons_zero, List.set_cons_succ]; done) | (simp only [putAll, Act.put, List.setIfInBounds_toArray, List.set_cons_zero, List.set_cons_succ]; rfl)) (hJ1_3_5 (aO, a2, aH) _ ⟨hHeld, (vz aD.out), (vz aI.out), (ku ac.out), (ku aa.out), (ku ab.out), (ku aB.out), aK.out, aC.out, au.out, av.out, ak.out, aw.out, al.out, ax.out, (bu4 HB.out af.out ag.out ah.out aC.out)⟩)
    ·
     skip
     rintro ⟨aO, aG, aH⟩ bk ⟨hS_, aQ, aR, aS, aT, aU, aV, aY, aZ, a0, a1, aL, aM, aN, aP, aW, a9, ba, bb, bd, bf, bg, bh, bi, bj, bm⟩
     (try dsimp -simprocs only at aQ aR aS aT aU aV aY aZ a0 a1 aL aM aN aP aW a9 ba bb bd bf bg bh bi bj bm)
     clear ac aa ab HB
     have aD := Aside0.mk aQ
     have ac := Aside0.mk aR
     have aa := Aside0.mk aS
     have ab := Aside0.mk aT
     have az := Aside0.mk aU
     have aB := Aside0.mk aV
     have aJ := Aside0.mk aY
     have aA := Aside0.mk aZ
     have an := Aside0.mk a0
     have ao := Aside0.mk a1
     have ai := Aside0.mk aL
     have ap := Aside0.mk aM
     have aj := Aside0.mk aN
     have aq := Aside0.mk aP
     have aE := Aside0.mk aW
     have aF := Aside0.mk a9
     have aK := Aside0.mk ba
     have aC := Aside0.mk bb
     have au := Aside0.mk bd
     have av := Aside0.mk bf
     have ak := Aside0.mk bg
     have aw := Aside0.mk bh
     have al := Aside0.mk bi
     have ax := Aside0.mk bj
     have HB := Aside0.mk bm
     clear aQ aR aS aT aU aV aY aZ a0 a1 aL aM aN aP aW a9 ba bb bd bf bg bh bi bj bm
     have hHeld : bk.cell? ⟨ad, 0, none⟩ = some (.int .i64 a1_0) ∧ bk.cell? ⟨ad, 1, none⟩ = some (.slice A1_1 l1_1.length c1_1) ∧ bk.cell? ⟨ae, 0, none⟩ = some (.int .i64 a2_0) ∧ bk.cell? ⟨ae, 1, none⟩ = some (.slice A2_1 l2_1.length c2_1) := hS_
     refine norm_ (a' := ?_) ?_ ?_
     rotate_left
     ·
      simp only [putAll, Act.put, List.setIfInBounds_toArray, List.set_cons_zero, List.set_cons_succ]
      rfl
     refine one_ (i := 3) (N := some 12) #[true, true, true, true, true, true, false, false] rfl rfl (one_of HT_.out (by kernel_rfl)) (by decide) (fun K hK => ?_)
     refine goes_ Try.func148 (by kernel_rfl) rfl #[.agg #[.int .i64 a2_0, .slice A2_1 l2_1.length c2_1]] (by rfl) rfl rfl lu ?_
     with_reducible refine (semiring_least.calls k a2_0 _ _ l2_1 a4 bl _ ?side1 ?side2 A5.out).mono ?_
     (case side1 => repeat (first | exact (Kd.C_below bp.out HB.out) | (with_reducible refine Kd.C_alloc ?_ _) | (with_reducible refine Kd.C_drewN ?_ _) | (with_reducible refine Kd.C_drew ?_)))
     (case side2 => first | exact a6.out | exact vz a6.out)
     rintro e bn ⟨a2, rfl, a8, hb⟩
     refine ⟨_, rfl, ?_⟩
     replace aD := kv aD hb
     have aI := am (Kd.V_lower (Kd.V_mono (ok' := fun k_ => k_ ≠ ay ∧ k_ ≠ ad ∧ k_ ≠ ae ∧ k_ ≠ aG ∧ k_ ≠ aH) a8 (fun k_ hk_ => ⟨(Kd.freshB (g := ay) (o := .cells #[] 54 (0, 0)) (ku ac.out) k_ hk_), (Kd.freshB (g := ad) (o := .cells #[.int .i64 a1_0, .slice A1_1 l1_1.length c1_1] 53 (0, 0)) (ku aa.out) k_ hk_), (Kd.freshB (g := ae) (o := .cells #[.int .i64 a2_0, .slice A2_1 l2_1.length c2_1] 53 (0, 0)) (ku ab.out) k_ hk_), (Kd.freshB (g := aG) (o := .cells #[.int .i64 0, .slice none 0 0] 53 (0, 0)) (ku az.out) k_ hk_), (Kd.freshB (g := aH) (o := .cells #[.int .i64 0, .slice none 0 0] 53 (0, 0)) (ku aB.out) k_ hk_)⟩)) (below_size (bu5 HB.out af.out ag.out ah.out aA.out aC.out)))
     replace ac := kb ac hb
     replace aa := kb aa hb
     replace ab := kb ab hb
     replace az := kb az hb
     replace aB := kb aB hb
     replace HB := be5 HB af ag ah aA aC hb
     (try clear hb)
     (try clear hb2)
     (try clear hk)
     (try clear hi)
     (try clear a8)
     refine hK.out _ _ ⟨bc aa 0, bc aa 1, bc ab 0, bc ab 1⟩ (fun hHeld => ?_)
     clear hK K
     refine nq 12 ?_
     exact norm_ (by first | (simp only [putAll, Act.put, List.setIfInBounds_toArray, List.set_cons_zero, List.set_cons_succ]; done) | (simp only [putAll, Act.put, List.setIfInBounds_toArray, List.set_cons_zero, List.set_cons_succ]; rfl)) (hJ1_3_4_5 (aO, a2, aG, aH) _ ⟨hHeld, (vu aD.out), (vu aI.out), (ku ac.out), (ku aa.out), (ku ab.out), (ku az.out), (ku aB.out), aJ.out, aA.out, an.out, ao.out, ai.out, ap.out, aj.out, aq.out, aE.out, aF.out, aK.out, aC.out, au.out, av.out, ak.out, aw.out, al.out, ax.out, (bu5 HB.out af.out ag.out ah.out aA.out aC.out)⟩)
   ·
    skip
    rintro ⟨aO, a2, aH⟩ bk ⟨hS_, aQ, aR, aS, aT, aU, aV, aY, aZ, a0, a1, aL, aM, aN, aP, aW⟩
    (try dsimp -simprocs only at aQ aR aS aT aU aV aY aZ a0 a1 aL aM aN aP aW)
    clear ac aa ab HB
    have aD := Aside0.mk aQ
    have aI := Aside0.mk aR
    have ac := Aside0.mk aS
    have aa := Aside0.mk aT
    have ab := Aside0.mk aU
    have aB := Aside0.mk aV
    have aK := Aside0.mk aY
    have aC := Aside0.mk aZ
    have au := Aside0.mk a0
    have av := Aside0.mk a1
    have ak := Aside0.mk aL
    have aw := Aside0.mk aM
    have al := Aside0.mk aN
    have ax := Aside0.mk aP
    have HB := Aside0.mk aW
    clear aQ aR aS aT aU aV aY aZ a0 a1 aL aM aN aP aW
    have hHeld : bk.cell? ⟨ad, 0, none⟩ = some (.int .i64 a1_0) ∧ bk.cell? ⟨ad, 1, none⟩ = some (.slice A1_1 l1_1.length c1_1) ∧ bk.cell? ⟨ae, 0, none⟩ = some (.int .i64 a2_0) ∧ bk.cell? ⟨ae, 1, none⟩ = some (.slice A2_1 l2_1.length c2_1) := hS_
    refine norm_ (a' := ?_) ?_ ?_
    rotate_left
    ·
     simp only [putAll, Act.put, List.setIfInBounds_toArray, List.set_cons_zero, List.set_cons_succ]
     rfl
    refine one_ (i := 4) (N := some 7) #[true, true, true, true, true, true, false, false] rfl rfl (one_of HT_.out (by kernel_rfl)) (by decide) (fun K hK => ?_)
    refine box_step ?hg (N := 7) ?hd (cs := #[.int .i64 0, .slice none 0 0]) (t := 53) ?hr ?_; (case hd => rfl); (case hg => rfl); (case hr => first | (go_simp; done) | (go_simp; rfl))
    intro aG hg bn hbox hb
    replace aD := ke aD hg hb
    replace aI := ke aI hg hb
    have az := am (hbox)
    have aJ := ng hg (bu4 HB.out af.out ag.out ah.out aC.out)
    have aA := ng hg (bu4 HB.out af.out ag.out ah.out aC.out)
    replace HB := be4 HB af ag ah aC hb
    have an := nl hg ac
    have ao := nr hg ac
    replace ac := kb ac hb
    have ai := nl hg aa
    have ap := nr hg aa
    replace aa := kb aa hb
    have aj := nl hg ab
    have aq := nr hg ab
    replace ab := kb ab hb
    have aE := nl hg aB
    have aF := nr hg aB
    replace aB := kb aB hb
    clear hb hbox hg
    refine hK.out _ _ ⟨bc aa 0, bc aa 1, bc ab 0, bc ab 1⟩ (fun hHeld => ?_)
    clear hK K
    refine nq 7 ?_
    exact norm_ (by first | (simp only [putAll, Act.put, List.setIfInBounds_toArray, List.set_cons_zero, List.set_cons_succ]; done) | (simp only [putAll, Act.put, List.setIfInBounds_toArray, List.set_cons_zero, List.set_cons_succ]; rfl)) (hJ1_3_4_5 (aO, a2, aG, aH) _ ⟨hHeld, (vz aD.out), (vz aI.out), (ku ac.out), (ku aa.out), (ku ab.out), (ku az.out), (ku aB.out), aJ.out, aA.out, an.out, ao.out, ai.out, ap.out, aj.out, aq.out, aE.out, aF.out, aK.out, aC.out, au.out, av.out, ak.out, aw.out, al.out, ax.out, (bu5 HB.out af.out ag.out ah.out aC.out aA.out)⟩)
  ·
   skip
   rintro ⟨aO, a2, aG⟩ bk ⟨hS_, aQ, aR, aS, aT, aU, aV, aY, aZ, a0, a1, aL, aM, aN, aP, aW⟩
   (try dsimp -simprocs only at aQ aR aS aT aU aV aY aZ a0 a1 aL aM aN aP aW)
   clear ac aa ab HB
   have aD := Aside0.mk aQ
   have aI := Aside0.mk aR
   have ac := Aside0.mk aS
   have aa := Aside0.mk aT
   have ab := Aside0.mk aU
   have az := Aside0.mk aV
   have aJ := Aside0.mk aY
   have aA := Aside0.mk aZ
   have an := Aside0.mk a0
   have ao := Aside0.mk a1
   have ai := Aside0.mk aL
   have ap := Aside0.mk aM
   have aj := Aside0.mk aN
   have aq := Aside0.mk aP
   have HB := Aside0.mk aW
   clear aQ aR aS aT aU aV aY aZ a0 a1 aL aM aN aP aW
   have hHeld : bk.cell? ⟨ad, 0, none⟩ = some (.int .i64 a1_0) ∧ bk.cell? ⟨ad, 1, none⟩ = some (.slice A1_1 l1_1.length c1_1) ∧ bk.cell? ⟨ae, 0, none⟩ = some (.int .i64 a2_0) ∧ bk.cell? ⟨ae, 1, none⟩ = some (.slice A2_1 l2_1.length c2_1) := hS_
   refine norm_ (a' := ?_) ?_ ?_
   rotate_left
   ·
    simp only [putAll, Act.put, List.setIfInBounds_toArray, List.set_cons_zero, List.set_cons_succ]
    rfl
   refine one_ (i := 5) (N := some 8) #[true, true, true, true, true, true, false, false] rfl rfl (one_of HT_.out (by kernel_rfl)) (by decide) (fun K hK => ?_)
   refine box_step ?hg (N := 8) ?hd (cs := #[.int .i64 0, .slice none 0 0]) (t := 53) ?hr ?_; (case hd => rfl); (case hg => rfl); (case hr => first | (go_simp; done) | (go_simp; rfl))
   intro aH hg bn hbox hb
   replace aD := ke aD hg hb
   replace aI := ke aI hg hb
   have aB := am (hbox)
   have aK := ng hg (bu4 HB.out af.out ag.out ah.out aA.out)
   have aC := ng hg (bu4 HB.out af.out ag.out ah.out aA.out)
   replace HB := be4 HB af ag ah aA hb
   have au := nl hg ac
   have av := nr hg ac
   replace ac := kb ac hb
   have ak := nl hg aa
   have aw := nr hg aa
   replace aa := kb aa hb
   have al := nl hg ab
   have ax := nr hg ab
   replace ab := kb ab hb
   have aF := nl hg az
   have aE := nr hg az
   replace az := kb az hb
   clear hb hbox hg
   refine hK.out _ _ ⟨bc aa 0, bc aa 1, bc ab 0, bc ab 1⟩ (fun hHeld => ?_)
   clear hK K
   refine nq 8 ?_
   exact norm_ (by first | (simp only [putAll, Act.put, List.setIfInBounds_toArray, List.set_cons_zero, List.set_cons_succ]; done) | (simp only [putAll, Act.put, List.setIfInBounds_toArray, List.set_cons_zero, List.set_cons_succ]; rfl)) (hJ1_3_4_5 (aO, a2, aG, aH) _ ⟨hHeld, (vz aD.out), (vz aI.out), (ku ac.out), (ku aa.out), (ku ab.out), (ku az.out), (ku aB.out), aJ.out, aA.out, an.out, ao.out, ai.out, ap.out, aj.out, aq.out, aE.out, aF.out, aK.out, aC.out, au.out, av.out, ak.out, aw.out, al.out, ax.out, (bu5 HB.out af.out ag.out ah.out aA.out aC.out)⟩)
 rintro ⟨aO, a2, aG, aH⟩ bn ⟨hS_, aQ, aR, aS, aT, aU, aV, aY, aZ, a0, a1, aL, aM, aN, aP, aW, a9, ba, bb, bd, bf, bg, bh, bi, bj, bm, bx⟩
 (try dsimp -simprocs only at aQ aR aS aT aU aV aY aZ a0 a1 aL aM aN aP aW a9 ba bb bd bf bg bh bi bj bm bx)
 clear ac aa ab HB
 have aD := Aside0.mk aQ
 have aI := Aside0.mk aR
 have ac := Aside0.mk aS
 have aa := Aside0.mk aT
 have ab := Aside0.mk aU
 have az := Aside0.mk aV
 have aB := Aside0.mk aY
 have aJ := Aside0.mk aZ
 have aA := Aside0.mk a0
 have an := Aside0.mk a1
 have ao := Aside0.mk aL
 have ai := Aside0.mk aM
 have ap := Aside0.mk aN
 have aj := Aside0.mk aP
 have aq := Aside0.mk aW
 have aE := Aside0.mk a9
 have aF := Aside0.mk ba
 have aK := Aside0.mk bb
 have aC := Aside0.mk bd
 have au := Aside0.mk bf
 have av := Aside0.mk bg
 have ak := Aside0.mk bh
 have aw := Aside0.mk bi
 have al := Aside0.mk bj
 have ax := Aside0.mk bm
 have HB := Aside0.mk bx
 clear aQ aR aS aT aU aV aY aZ a0 a1 aL aM aN aP aW a9 ba bb bd bf bg bh bi bj bm bx
 have hHeld : bn.cell? ⟨ad, 0, none⟩ = some (.int .i64 a1_0) ∧ bn.cell? ⟨ad, 1, none⟩ = some (.slice A1_1 l1_1.length c1_1) ∧ bn.cell? ⟨ae, 0, none⟩ = some (.int .i64 a2_0) ∧ bn.cell? ⟨ae, 1, none⟩ = some (.slice A2_1 l2_1.length c2_1) := hS_
 obtain ⟨cc, cd, bF⟩ := Kd.V_slice aD.out
 (first | subst bF | (injection bF with f1_ f2_ f3_; have f4_ := f1_.symm; have f5_ := f3_.symm; clear f1_ f2_ f3_; subst f4_; subst f5_))
 obtain ⟨ce, cf, bG⟩ := Kd.V_slice aI.out
 (first | subst bG | (injection bG with f1_ f2_ f3_; have f4_ := f1_.symm; have f5_ := f3_.symm; clear f1_ f2_ f3_; subst f4_; subst f5_))
 refine norm_ (a' := ?_) ?_ ?_
 rotate_left
 ·
  simp only [putAll, Act.put, List.setIfInBounds_toArray, List.set_cons_zero, List.set_cons_succ]
  rfl
 refine one_ (i := 6) (N := none) #[true, true, true, true, true, true, true, false] rfl rfl (one_of HT_.out (by kernel_rfl)) (by decide) (fun K hK => ?_)
 have hs17 : bn.cell? ⟨aG, 0, none⟩ = some (.int .i64 0) := bc az 0
 have hfs17 := blk_frozen az.out 0
 have hns17_0 := an.out
 have hns17_1 := ai.out
 have hns17_2 := aj.out
 have hns17_4 := aE.out
 have hms17_0 := ao.out
 have hms17_1 := ap.out
 have hms17_2 := aq.out
 have hms17_4 := aF.out
 have hs19 : bn.cell? ⟨aG, 1, none⟩ = some (.slice none 0 0) := bc az 1
 have hfs19 := blk_frozen az.out 1
 have hns19_0 := an.out
 have hns19_1 := ai.out
 have hns19_2 := aj.out
 have hns19_4 := aE.out
 have hms19_0 := ao.out
 have hms19_1 := ap.out
 have hms19_2 := aq.out
 have hms19_4 := aF.out
 refine skip_ (w1 := ?_) (by rfl) rfl ?_ ?_
 rotate_left
 ·
  go_simp
  rfl
 refine hK.out _ _ ⟨((cell_far (p := ⟨aG, _, none⟩) ai.out _).trans (((cell_far (p := ⟨aG, _, none⟩) ai.out _).trans (hHeld.1)))), ((cell_far (p := ⟨aG, _, none⟩) ai.out _).trans (((cell_far (p := ⟨aG, _, none⟩) ai.out _).trans (hHeld.2.1)))), ((cell_far (p := ⟨aG, _, none⟩) aj.out _).trans (((cell_far (p := ⟨aG, _, none⟩) aj.out _).trans (hHeld.2.2.1)))), ((cell_far (p := ⟨aG, _, none⟩) aj.out _).trans (((cell_far (p := ⟨aG, _, none⟩) aj.out _).trans (hHeld.2.2.2))))⟩ (fun hHeld => ?_)
 clear hK K
 refine one_ (i := 7) (N := none) #[true, true, true, true, true, true, true, true] rfl rfl (one_of HT_.out (by kernel_rfl)) (by decide) (fun K hK => ?_)
 have hs20 : bn.cell? ⟨aH, 0, none⟩ = some (.int .i64 0) := bc aB 0
 have hfs20 := blk_frozen aB.out 0
 have hns20_0 := au.out
 have hns20_1 := ak.out
 have hns20_2 := al.out
 have hns20_3 := aF.out
 have hms20_0 := av.out
 have hms20_1 := aw.out
 have hms20_2 := ax.out
 have hms20_3 := aE.out
 have hs22 : bn.cell? ⟨aH, 1, none⟩ = some (.slice none 0 0) := bc aB 1
 have hfs22 := blk_frozen aB.out 1
 have hns22_0 := au.out
 have hns22_1 := ak.out
 have hns22_2 := al.out
 have hns22_3 := aF.out
 have hms22_0 := av.out
 have hms22_1 := aw.out
 have hms22_2 := ax.out
 have hms22_3 := aE.out
 refine skip_ (w1 := ?_) (by rfl) rfl ?_ ?_
 rotate_left
 ·
  go_simp
  rfl
 refine hK.out _ _ ⟨((cell_far (p := ⟨aH, _, none⟩) ak.out _).trans (((cell_far (p := ⟨aH, _, none⟩) ak.out _).trans (hHeld.1)))), ((cell_far (p := ⟨aH, _, none⟩) ak.out _).trans (((cell_far (p := ⟨aH, _, none⟩) ak.out _).trans (hHeld.2.1)))), ((cell_far (p := ⟨aH, _, none⟩) al.out _).trans (((cell_far (p := ⟨aH, _, none⟩) al.out _).trans (hHeld.2.2.1)))), ((cell_far (p := ⟨aH, _, none⟩) al.out _).trans (((cell_far (p := ⟨aH, _, none⟩) al.out _).trans (hHeld.2.2.2))))⟩ (fun hHeld => ?_)
 clear hK K
 refine done_ (done_of HT_.out (by kernel_rfl)) ?_
 have bV := ao.out
 have bW := an.out
 have bX := ap.out
 have bY := ai.out
 have bZ := aq.out
 have b0 := aj.out
 have b1 := aF.out
 have b2 := aE.out
 have bH : bn.cell? ⟨aG, 0, none⟩ = some (.int .i64 0) := bc az 0
 have bI : bn.cell? ⟨aG, 1, none⟩ = some (.slice none 0 0) := bc az 1
 have bJ := blk_frozen az.out 0
 have bK := blk_frozen az.out 1
 have b3 := av.out
 have b4 := au.out
 have b5 := aw.out
 have b6 := ak.out
 have b7 := ax.out
 have b8 := al.out
 have bL : bn.cell? ⟨aH, 0, none⟩ = some (.int .i64 0) := bc aB 0
 have bM : bn.cell? ⟨aH, 1, none⟩ = some (.slice none 0 0) := bc aB 1
 have bN := blk_frozen aB.out 0
 have bO := blk_frozen aB.out 1
 by_cases c6 : aX = a4
 ·
  rw [if_pos c6] at H
  have bP : (aX == a4) = true := beq_iff_eq.mpr c6
  have bQ : (aX != a4) = false := bne_eq_false_iff_eq.mpr c6
  clear c6
  obtain ⟨br, A7, H⟩ := bs H
  replace H : (some br) = some r := H
  obtain rfl := Option.some.inj H
  try go_wp2_with (first | (go_at_call 149; (with_reducible refine (api_Nat_uint32.calls k _ _ a3 _ _ bl br _ ?side1 ?side2 ?side3 ?side4 A7.out).mono ?_); (case side1 => exact vr aD.out); (case side2 => exact (Kd.V_reads' aD.out).2.1); (case side3 => exact vr aI.out); (case side4 => exact (Kd.V_reads' aI.out).2.1); rintro e w' ⟨rfl, ⟨nd, rfl⟩⟩))
  go_ret
  exact ⟨by first | rfl | (simp [errW_none, errW_some] <;> rfl) | (simp [*, errW_none, errW_some] <;> rfl), by repeat (first | (with_reducible first | exact HB.out | apply below_alloc | apply pw_below_drewN | apply below_drew1 | refine below_set ?_ af.out | refine below_set ?_ ag.out | refine below_set ?_ ah.out | refine below_set ?_ aA.out | refine below_set ?_ aC.out) | exact HB.out)⟩
 ·
  rw [if_neg c6] at H
  have bP : (aX == a4) = false := beq_eq_false_iff_ne.mpr c6
  have bQ : (aX != a4) = true := bne_iff_ne.mpr c6
  obtain rfl := Option.some.inj H
  try go_wp2
  go_ret
  exact ⟨by first | rfl | (simp [errW_none, errW_some] <;> rfl) | (simp [*, errW_none, errW_some] <;> rfl), by repeat (first | (with_reducible first | exact HB.out | apply below_alloc | apply pw_below_drewN | apply below_drew1 | refine below_set ?_ af.out | refine below_set ?_ ag.out | refine below_set ?_ ah.out | refine below_set ?_ aA.out | refine below_set ?_ aC.out) | exact HB.out)⟩
end Go.Proofs.Ytecfdemglbfnoaa.PT
end
