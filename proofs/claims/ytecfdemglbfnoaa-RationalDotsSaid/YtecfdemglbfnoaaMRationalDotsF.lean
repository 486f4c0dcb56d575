/- Walks and plain facts for the law RationalDots, several texts in one: each theorem says what it shows; no condition beyond those that it names. -/
import Derived.Test.YtecfdemglbfnoaaMRationalDotsE
section
namespace Go.Proofs.Ytecfdemglbfnoaa.PT
open Go.RowKit Go.Proofs.YtecfdemglbfnoaaW.PrintWords Go.Proofs.YtecfdemglbfnoaaW.PrintLast Go.Proofs.YtecfdemglbfnoaaW.PrintMore
attribute [local go_sem] max2_int min2_int max_two min_two max_three min_three max_four min_four
set_option linter.unusedVariables false
set_option linter.unusedSimpArgs false
set_option maxHeartbeats 8000000
set_option maxRecDepth 100000
def rational_Mul.l0 : Nat → Bool → List Int → List Int → List (S67) → Int → Int → Option (Bool × List Int × List Int)
 | 0, _, _, _, _, _, _ => none
 | k + 1, x3, x4, x5, x11, x12, x13 => if x13 < x12 then (if 0 ≤ x13 then (if x13 < (x11.length : Int) then ((rational_Trim.f k ((rd_T67 x11 x13).f0) ((rd_T67 x11 x13).f1) ((rd_T67 x11 x13).f2)).bind fun bt1360 => ((nat_Mul.f k (([x4, bt1360.2.1] : List (List Int)))).bind fun t1370 => ((nat_Mul.f k (([x5, bt1360.2.2] : List (List Int)))).bind fun t1376 => ((rational_canonical.f k (x3 != bt1360.1) t1370 t1376).bind fun bt1379 => (rational_Mul.l0 k bt1379.1 bt1379.2.1 bt1379.2.2 x11 x12 (wrap64 (x13 + 1))))))) else (none)) else (none)) else (some (x3, x4, x5))
def rational_Mul.f (k : Nat) (l0 : List (S67)) : Option (Bool × List Int × List Int) := (rational_one.f).bind fun t1352 => ((rational_one.f).bind fun t1355 => (rational_Mul.l0 k false t1352 t1355 l0 (l0.length : Int) 0))
def rational_Mul.T6 : Bool × List (List Nat × List Nat) := (true, [([], []), ([], []), ([1], [1]), ([0, 2], [0, 2]), ([], []), ([], []), ([5], [5]), ([4, 6], [4, 6]), ([7], [7]), ([], []), ([], []), ([10], [10]), ([9, 11], [9, 11]), ([12, 8], [12]), ([3, 8, 13, 13], [3, 8, 13]), ([], []), ([15, 14, 14, 0, 1, 2, 3, 4, 5, 6, 7, 8, 9, 10, 11, 12, 13, 14, 15], [14, 15])])
def rational_Mul.B6 : List Nat := [0, 0, 2, 7, 0, 0, 32, 112, 240, 0, 0, 1024, 3584, 8176, 16383, 0, 65535]
theorem rational_Mul.tab6 : rtab .any (opsOf Try.f95 6) = rational_Mul.T6 := by kernel_rfl
theorem rational_Mul.bits6 : waitsOk rational_Mul.T6.2 rational_Mul.B6 = true := by kernel_rfl
def rational_Mul.T7 : Bool × List (List Nat × List Nat) := (true, [([], []), ([0], [0]), ([], []), ([2], [2]), ([], []), ([4], [4]), ([1, 0, 1], [1]), ([3, 6, 0, 1, 2, 3, 6], [3]), ([5, 7, 0, 1, 2, 3, 4, 5, 6, 7], [5])])
def rational_Mul.B7 : List Nat := [0, 1, 0, 4, 0, 16, 3, 79, 255]
theorem rational_Mul.tab7 : rtab .any (opsOf Try.f95 7) = rational_Mul.T7 := by kernel_rfl
theorem rational_Mul.bits7 : waitsOk rational_Mul.T7.2 rational_Mul.B7 = true := by kernel_rfl
theorem rational_Mul.calls (k : Nat) (P0_ : Nat → Prop) (A0 : Option Addr) (c0 : Nat) (l0 : List (S67)) (r1 : Bool) (r2 : List Int) (r3 : List Int) (w : World) (hs0 : Kd.V k67 67 w w.heap.size (fun k_ => P0_ k_) (.slice A0 l0.length c0) l0) (h : rational_Mul.f k l0 = some (r1, r2, r3)) :
 Calls Try.prog 95 #[.slice A0 l0.length c0] w fun e w' => ∃ v1_ v2_ : Value, e = .returned (.agg #[.bool r1, v1_, v2_]) ∧ Kd.V (Kd.int .u32) 48 w' w.heap.size (fun k_ => (P0_ k_ ∨ w.heap.size ≤ k_)) v1_ r2 ∧ Kd.V (Kd.int .u32) 48 w' w.heap.size (fun k_ => (P0_ k_ ∨ w.heap.size ≤ k_)) v2_ r3 ∧ Below w.heap.size w w' := by
 have dY := Try.underlying67
 have cn := am (show Kd.V k67 67 w w.heap.size (fun k_ => (P0_ k_ ∨ w.heap.size ≤ k_)) (.slice A0 l0.length c0) l0 from Kd.V_mono hs0 (fun k_ hk => .inl hk))
 have HB := am (Below.refl w.heap.size w)
 have H : ((rational_one.f).bind fun bY => ((rational_one.f).bind fun bZ => (rational_Mul.l0 k false bY bZ l0 (l0.length : Int) 0))) = some (r1, r2, r3) := h
 clear h
 obtain ⟨bY, A2, H⟩ := bs H
 (try dsimp -simprocs only at H)
 obtain ⟨bZ, A3, H⟩ := bs H
 (try dsimp -simprocs only at H)
 have H' := am H
 clear H
 go_enter Try.func95, Try.ntmps95
 go_wp2_with (first | ((with_reducible refine gate_dst (N := 2) rfl ?_); refine box_event ?hg (N := 2) ?hd (cs := #[.bool false, .slice none 0 0, .slice none 0 0]) (t := 67) ?hr ?_; (case hd => rfl); (case hg => rfl); (case hr => first | (go_simp; done) | (go_simp; rfl)); intro ab hg w4 hbox hb; replace cn := ke cn hg hb; have ag := am (hbox); have dE := ng hg (bu HB.out); have aj := ng hg (bu HB.out); replace HB := be HB hb; clear hb hbox hg) | ((with_reducible refine gate_callee (f := 161) rfl ?_); refine goesL_ (some 9) rfl rfl Try.func161 (by kernel_rfl) rfl #[] rfl lu ?_; (with_reducible refine (rational_one.calls  bY _ A2.out).mono ?_); rintro e w5 ⟨dP, rfl, bB, hb⟩; refine ⟨_, rfl, ?_⟩; replace bB := R_V_base rfl bB; replace cn := kv cn hb; have bU := ar0 w.heap.size (ok' := fun k_ => (P0_ k_ ∨ w.heap.size ≤ k_) ∧ k_ ≠ ab) bB (fa (fz1 HB aj) (fb ag)); replace ag := kb ag hb; replace HB := be1 HB aj hb; (try clear hb); (try clear bB)) | ((with_reducible refine gate_callee (f := 161) rfl ?_); refine goesL_ (some 10) rfl rfl Try.func161 (by kernel_rfl) rfl #[] rfl lu ?_; (with_reducible refine (rational_one.calls  bZ _ A3.out).mono ?_); rintro e w6 ⟨dQ, rfl, bB, hb⟩; refine ⟨_, rfl, ?_⟩; replace bB := R_V_base rfl bB; replace cn := kv cn hb; replace bU := kv bU hb; have co := ar0 w.heap.size (ok' := fun k_ => (P0_ k_ ∨ w.heap.size ≤ k_) ∧ k_ ≠ ab) bB (fa (fz1 HB aj) (fb ag)); replace ag := kb ag hb; replace HB := be1 HB aj hb; (try clear hb); (try clear bB)))
 go_loopg [3, 4, 5, 13] k (fun kq v3 v4 v5 dZ w' => ∃ (bS : Bool) (aU : List Int) (aN : List Int) (aw : Int), v3 = .bool bS ∧ dZ = .int .i64 aw ∧ Aside0 (rational_Mul.l0 kq bS aU aN l0 (l0.length : Int) aw = some (r1, r2, r3)) ∧ Aside0 (kq ≤ k) ∧ Aside0 (Kd.V (Kd.int .u32) 48 w' w.heap.size (fun k_ => (P0_ k_ ∨ w.heap.size ≤ k_) ∧ k_ ≠ ab) v4 aU) ∧ Aside0 (Kd.V (Kd.int .u32) 48 w' w.heap.size (fun k_ => (P0_ k_ ∨ w.heap.size ≤ k_) ∧ k_ ≠ ab) v5 aN) ∧ Aside0 (Kd.V k67 67 w' w.heap.size (fun k_ => (P0_ k_ ∨ w.heap.size ≤ k_) ∧ k_ ≠ ab) (.slice A0 l0.length c0) l0) ∧ Aside0 (w'.heap[ab]? = some (.cells #[.bool false, (.slice none 0 0), (.slice none 0 0)] 67 (0, 0))) ∧ Aside0 (Below w.heap.size w w'))
 case atStart => exact ⟨(false), (bY), (bZ), (0), (by first | rfl | (simp; done) | (simp [*]; done)), (by first | rfl | (simp; done) | (simp [*]; done)), H', ⟨Nat.le_refl _⟩, ⟨by (with_reducible repeat (first | apply Kd.V_alloc | apply Kd.V_drewN | apply Kd.V_drew)); exact bU.out⟩, ⟨by (with_reducible repeat (first | apply Kd.V_alloc | apply Kd.V_drewN | apply Kd.V_drew)); exact co.out⟩, ⟨by (with_reducible repeat (first | apply Kd.V_alloc | apply Kd.V_drewN | apply Kd.V_drew)); exact cn.out⟩, ⟨by (with_reducible repeat (first | refine blk_drewN ?_ _ | refine blk_drew ?_ | refine blk_alloc ?_ _)); exact ag.out⟩, ⟨by repeat (first | (with_reducible first | exact HB.out | apply below_alloc | apply pw_below_drewN | apply below_drew1 | refine below_set ?_ aj.out) | exact HB.out)⟩⟩
 case round =>
  clear H'
  try clear c1
  try clear p2
  obtain ⟨bS, aU, aN, aw, rfl, rfl, HA, HK1, aC, aB, ao, ag, HB⟩ := hrel
  cases gk with
  | zero => exact absurd HA.out (by simp [rational_Mul.l0])
  | succ k1 =>
   have H := HA.out
   clear HA
   simp only [rational_Mul.l0] at H
   by_cases c7 : aw < (l0.length : Int)
   ·
    rw [if_pos c7] at H
    have dF : decide (aw < (l0.length : Int)) = true := decide_eq_true c7
    clear c7
    by_cases c8 : 0 ≤ aw
    ·
     rw [if_pos c8] at H
     have d0 : decide (0 ≤ aw) = true := decide_eq_true c8
     clear c8
     by_cases c9 : aw < (l0.length : Int)
     ·
      rw [if_pos c9] at H
      have d1 : decide (aw < (l0.length : Int)) = true := decide_eq_true c9
      clear c9
      obtain ⟨⟨aD, aq, ap⟩, d2, H⟩ := bs H
      (try dsimp -simprocs only at H)
      obtain ⟨aL, bV⟩ : ∃ y_ : List (List Int), y_ = (([aU, aq] : List (List Int))) := ⟨_, rfl⟩
      rw [← bV] at H
      have bG := am bV
      clear bV
      obtain ⟨a7, db, H⟩ := bs H
      (try dsimp -simprocs only at H)
      obtain ⟨a8, bW⟩ : ∃ y_ : List (List Int), y_ = (([aN, ap] : List (List Int))) := ⟨_, rfl⟩
      rw [← bW] at H
      have bp := am bW
      clear bW
      obtain ⟨bE, dR, H⟩ := bs H
      (try dsimp -simprocs only at H)
      obtain ⟨⟨aX, aW, aY⟩, dS, H⟩ := bs H
      (try dsimp -simprocs only at H)
      have H' := am H
      clear H
      have p1358 : 0 ≤ (aw : Int) := of_decide_eq_true (by first | (with_reducible assumption) | assumption)
      have q1358 : aw < (l0.length : Int) := of_decide_eq_true (by first | (with_reducible assumption) | assumption)
      obtain ⟨ad1358, aQ, aR, aO, aP, e1358, cK, b3, b4, hl1358_1, hi1358_1, hl1358_2, hi1358_2⟩ := at_T67 (Kd.V_reads' ao.out).2.2 aw p1358 q1358
      cases e1358
      obtain ⟨ce1358, hce1358, hMe1358, hcc1358⟩ := Kd.V_get ao.out z67 aw p1358 (by first | exact q1358 | exact of_decide_eq_true (by first | (with_reducible assumption) | assumption) | (have e_ := (Kd.V_reads' ao.out).1; omega))
      obtain ⟨ua1358_1, uc1358_1, ua1358_2, uc1358_2, rfl, ul1358_1, ge1358_1, ul1358_2, ge1358_2⟩ := k67_openF hMe1358
      have hv1358_1 := hcc1358 1 _ rfl
      rw [add_field _ _ 1 (by omega)] at hv1358_1
      replace hv1358_1 := Option.some.inj (hv1358_1.symm.trans b3)
      injection hv1358_1 with hva_ hvn_ hvc_
      rw [hva_] at ge1358_1
      rw [hvc_] at ul1358_1
      have ad := am (show Kd.V (Kd.int .u32) 48 _ w.heap.size _ _ ((rd_T67 l0 aw).f1) from Kd.V_mk ul1358_1 ge1358_1)
      clear hva_ hvn_ hvc_ ge1358_1 ul1358_1
      have hv1358_2 := hcc1358 2 _ rfl
      rw [add_field _ _ 2 (by omega)] at hv1358_2
      replace hv1358_2 := Option.some.inj (hv1358_2.symm.trans b4)
      injection hv1358_2 with hva_ hvn_ hvc_
      rw [hva_] at ge1358_2
      rw [hvc_] at ul1358_2
      have ae := am (show Kd.V (Kd.int .u32) 48 _ w.heap.size _ _ ((rd_T67 l0 aw).f2) from Kd.V_mk ul1358_2 ge1358_2)
      clear hva_ hvn_ hvc_ ge1358_2 ul1358_2
      clear hcc1358 hce1358
      have cL := am hi1358_1
      have cM := am hl1358_1
      clear hi1358_1 hl1358_1
      have cN := am hi1358_2
      have cO := am hl1358_2
      clear hi1358_2 hl1358_2
      replace p1358 := eq_true p1358
      replace q1358 := eq_true q1358
      try go_wp2_with (first | ((with_reducible refine gate_dst (N := 7) rfl ?_); refine box_event ?hg (N := 7) ?hd (cs := #[.bool false, .slice none 0 0, .slice none 0 0]) (t := 67) ?hr ?_; (case hd => rfl); (case hg => rfl); (case hr => first | (go_simp; done) | (go_simp; rfl)); intro aa hg d3 hbox hb; replace aC := ke aC hg hb; replace aB := ke aB hg hb; replace ao := ke ao hg hb; replace ad := ke ad hg hb; replace ae := ke ae hg hb; have ac := am (hbox); have dG := ng hg (bu1 HB.out aj.out); have al := ng hg (bu1 HB.out aj.out); replace HB := be1 HB aj hb; have bo := nl hg ag; have bT := nr hg ag; replace ag := kb ag hb; clear hb hbox hg; have dT := bT.out; have dU := bo.out; obtain ⟨dc, dd, de, df, dg, dh⟩ := bz ac) | ((with_reducible refine gate_store (t := 67) (p := 7) rfl ?_); refine store_event (t := 67) (p := 7) (v := ?vo_w17) (w1 := (((d3.setCell ⟨aa, 0, none⟩ (.bool ((rd_T67 l0 aw).f0))).setCell ⟨aa, 1, none⟩ (.slice aQ ((rd_T67 l0 aw).f1).length aR)).setCell ⟨aa, 2, none⟩ (.slice aO ((rd_T67 l0 aw).f2).length aP))) ?hg ?ho ?hn ?hr ?_; (case ho => rfl); (case hg => rfl); (case hn => rfl); (case hr => first | (go_simp; done) | (go_simp; rfl)); intro cl hw; have b9 : Aside0 (Kd.V (Kd.int .u32) 48 cl w.heap.size (fun k_ => (P0_ k_ ∨ w.heap.size ≤ k_) ∧ k_ ≠ ab ∧ k_ ≠ aa) u4 aU) := ⟨(by rw [hw]; exact vf aC.out)⟩; have ca : Aside0 (Kd.V (Kd.int .u32) 48 cl w.heap.size (fun k_ => (P0_ k_ ∨ w.heap.size ≤ k_) ∧ k_ ≠ ab ∧ k_ ≠ aa) u5 aN) := ⟨(by rw [hw]; exact vf aB.out)⟩; have cb : Aside0 (Kd.V k67 67 cl w.heap.size (fun k_ => (P0_ k_ ∨ w.heap.size ≤ k_) ∧ k_ ≠ ab ∧ k_ ≠ aa) (.slice (some ad1358) l0.length c0) l0) := ⟨(by rw [hw]; exact vf ao.out)⟩; have cc : Aside0 (Kd.V (Kd.int .u32) 48 cl w.heap.size (fun k_ => (P0_ k_ ∨ w.heap.size ≤ k_) ∧ k_ ≠ ab ∧ k_ ≠ aa) (.slice aQ ((rd_T67 l0 aw).f1).length aR) ((rd_T67 l0 aw).f1)) := ⟨(by rw [hw]; exact vf ad.out)⟩; have cd : Aside0 (Kd.V (Kd.int .u32) 48 cl w.heap.size (fun k_ => (P0_ k_ ∨ w.heap.size ≤ k_) ∧ k_ ≠ ab ∧ k_ ≠ aa) (.slice aO ((rd_T67 l0 aw).f2).length aP) ((rd_T67 l0 aw).f2)) := ⟨(by rw [hw]; exact vf ae.out)⟩; have ce : Aside0 (cl.heap[ab]? = some (.cells #[.bool false, .slice none 0 0, .slice none 0 0] 67 (0, 0))) := ⟨(by rw [hw]; exact (kf bo.out ag.out))⟩; have cf : Aside0 (cl.heap[aa]? = some (.cells #[.bool ((rd_T67 l0 aw).f0), .slice aQ ((rd_T67 l0 aw).f1).length aR, .slice aO ((rd_T67 l0 aw).f2).length aP] 67 (0, 0))) := ⟨(by rw [hw]; exact (kp ac.out))⟩; have cg : Aside0 (Below w.heap.size w cl) := ⟨(by rw [hw]; exact (bu2 HB.out aj.out al.out))⟩; clear hw aC aB ao ad ae ag ac HB; have aC := b9; have aB := ca; have ao := cb; have ad := cc; have ae := cd; have ag := ce; have ac := cf; have HB := cg; clear b9 ca cb cc cd ce cf cg; obtain ⟨di, dj, dk, dl, dm, dn⟩ := bz ac) | ((with_reducible refine gate_callee (f := 87) rfl ?_); refine goesL_ (some 18) rfl rfl Try.func87 (by kernel_rfl) rfl #[.agg #[.bool ((rd_T67 l0 aw).f0), .slice aQ ((rd_T67 l0 aw).f1).length aR, .slice aO ((rd_T67 l0 aw).f2).length aP]] rfl lu ?_; (with_reducible refine (rational_Trim.calls k1 ((rd_T67 l0 aw).f0) (fun k_ => ((P0_ k_ ∨ w.heap.size ≤ k_) ∧ (k_ ≠ ab ∧ k_ ≠ aa))) _ _ ((rd_T67 l0 aw).f1) (fun k_ => ((P0_ k_ ∨ w.heap.size ≤ k_) ∧ (k_ ≠ ab ∧ k_ ≠ aa))) _ _ ((rd_T67 l0 aw).f2) aD aq ap _ ?side1 ?side2 d2.out).mono ?_); (case side1 => first | exact ad.out | exact vz ad.out); (case side2 => first | exact ae.out | exact vz ae.out); rintro e b5 ⟨dV, dW, rfl, bB, cm, hb⟩; refine ⟨_, rfl, ?_⟩; replace aC := kv aC hb; replace aB := kv aB hb; replace ao := kv ao hb; replace ad := kv ad hb; replace ae := kv ae hb; have ai := ar w.heap.size (ok' := fun k_ => (P0_ k_ ∨ w.heap.size ≤ k_) ∧ k_ ≠ ab ∧ k_ ≠ aa) bB (fa (fz2 HB aj al) (fa (fb ag) (fb ac))); have ah := ar w.heap.size (ok' := fun k_ => (P0_ k_ ∨ w.heap.size ≤ k_) ∧ k_ ≠ ab ∧ k_ ≠ aa) cm (fa (fz2 HB aj al) (fa (fb ag) (fb ac))); replace ag := kb ag hb; replace ac := kb ac hb; replace HB := be2 HB aj al hb; (try clear hb); (try clear bB); (try clear cm); obtain ⟨dp, dq, dr, dt, du, dv⟩ := bz ac; obtain ⟨aJ, aK, dH⟩ := Kd.V_slice ai.out; subst dH; obtain ⟨aH, aI, dI⟩ := Kd.V_slice ah.out; subst dI))
      have b9 : Aside0 (Kd.V (Kd.int .u32) 48 (((b5.setCell ⟨aa, 0, none⟩ (.bool aD)).setCell ⟨aa, 1, none⟩ (.slice aJ aq.length aK)).setCell ⟨aa, 2, none⟩ (.slice aH ap.length aI)) w.heap.size (fun k_ => (P0_ k_ ∨ w.heap.size ≤ k_) ∧ k_ ≠ ab ∧ k_ ≠ aa) u4 aU) := ⟨by exact vf aC.out⟩
      have ca : Aside0 (Kd.V (Kd.int .u32) 48 (((b5.setCell ⟨aa, 0, none⟩ (.bool aD)).setCell ⟨aa, 1, none⟩ (.slice aJ aq.length aK)).setCell ⟨aa, 2, none⟩ (.slice aH ap.length aI)) w.heap.size (fun k_ => (P0_ k_ ∨ w.heap.size ≤ k_) ∧ k_ ≠ ab ∧ k_ ≠ aa) u5 aN) := ⟨by exact vf aB.out⟩
      have cb : Aside0 (Kd.V k67 67 (((b5.setCell ⟨aa, 0, none⟩ (.bool aD)).setCell ⟨aa, 1, none⟩ (.slice aJ aq.length aK)).setCell ⟨aa, 2, none⟩ (.slice aH ap.length aI)) w.heap.size (fun k_ => (P0_ k_ ∨ w.heap.size ≤ k_) ∧ k_ ≠ ab ∧ k_ ≠ aa) (.slice (some ad1358) l0.length c0) l0) := ⟨by exact vf ao.out⟩
      have cc : Aside0 (Kd.V (Kd.int .u32) 48 (((b5.setCell ⟨aa, 0, none⟩ (.bool aD)).setCell ⟨aa, 1, none⟩ (.slice aJ aq.length aK)).setCell ⟨aa, 2, none⟩ (.slice aH ap.length aI)) w.heap.size (fun k_ => (P0_ k_ ∨ w.heap.size ≤ k_) ∧ k_ ≠ ab ∧ k_ ≠ aa) (.slice aQ ((rd_T67 l0 aw).f1).length aR) ((rd_T67 l0 aw).f1)) := ⟨by exact vf ad.out⟩
      have cd : Aside0 (Kd.V (Kd.int .u32) 48 (((b5.setCell ⟨aa, 0, none⟩ (.bool aD)).setCell ⟨aa, 1, none⟩ (.slice aJ aq.length aK)).setCell ⟨aa, 2, none⟩ (.slice aH ap.length aI)) w.heap.size (fun k_ => (P0_ k_ ∨ w.heap.size ≤ k_) ∧ k_ ≠ ab ∧ k_ ≠ aa) (.slice aO ((rd_T67 l0 aw).f2).length aP) ((rd_T67 l0 aw).f2)) := ⟨by exact vf ae.out⟩
      have ce : Aside0 (Kd.V (Kd.int .u32) 48 (((b5.setCell ⟨aa, 0, none⟩ (.bool aD)).setCell ⟨aa, 1, none⟩ (.slice aJ aq.length aK)).setCell ⟨aa, 2, none⟩ (.slice aH ap.length aI)) w.heap.size (fun k_ => (P0_ k_ ∨ w.heap.size ≤ k_) ∧ k_ ≠ ab ∧ k_ ≠ aa) (.slice aJ aq.length aK) aq) := ⟨by exact vf ai.out⟩
      have cf : Aside0 (Kd.V (Kd.int .u32) 48 (((b5.setCell ⟨aa, 0, none⟩ (.bool aD)).setCell ⟨aa, 1, none⟩ (.slice aJ aq.length aK)).setCell ⟨aa, 2, none⟩ (.slice aH ap.length aI)) w.heap.size (fun k_ => (P0_ k_ ∨ w.heap.size ≤ k_) ∧ k_ ≠ ab ∧ k_ ≠ aa) (.slice aH ap.length aI) ap) := ⟨by exact vf ah.out⟩
      have cg : Aside0 ((((b5.setCell ⟨aa, 0, none⟩ (.bool aD)).setCell ⟨aa, 1, none⟩ (.slice aJ aq.length aK)).setCell ⟨aa, 2, none⟩ (.slice aH ap.length aI)).heap[ab]? = some (.cells #[.bool false, .slice none 0 0, .slice none 0 0] 67 (0, 0))) := ⟨by (with_reducible repeat (first | refine blk_drewN ?_ _ | refine blk_drew ?_ | refine blk_alloc ?_ _)); refine blk_far ?_ bo.out _; (with_reducible repeat (first | refine blk_drewN ?_ _ | refine blk_drew ?_ | refine blk_alloc ?_ _)); refine blk_far ?_ bo.out _; (with_reducible repeat (first | refine blk_drewN ?_ _ | refine blk_drew ?_ | refine blk_alloc ?_ _)); refine blk_far ?_ bo.out _; (with_reducible repeat (first | refine blk_drewN ?_ _ | refine blk_drew ?_ | refine blk_alloc ?_ _)); exact ag.out⟩
      have cp : Aside0 ((((b5.setCell ⟨aa, 0, none⟩ (.bool aD)).setCell ⟨aa, 1, none⟩ (.slice aJ aq.length aK)).setCell ⟨aa, 2, none⟩ (.slice aH ap.length aI)).heap[aa]? = some (.cells #[.bool aD, .slice aJ aq.length aK, .slice aH ap.length aI] 67 (0, 0))) := ⟨by (with_reducible repeat (first | refine blk_drewN ?_ _ | refine blk_drew ?_ | refine blk_alloc ?_ _)); refine blk_put (cs := #[.bool aD, .slice aJ aq.length aK, .slice aO ((rd_T67 l0 aw).f2).length aP]) ?_ 2 _ rfl; (with_reducible repeat (first | refine blk_drewN ?_ _ | refine blk_drew ?_ | refine blk_alloc ?_ _)); refine blk_put (cs := #[.bool aD, .slice aQ ((rd_T67 l0 aw).f1).length aR, .slice aO ((rd_T67 l0 aw).f2).length aP]) ?_ 1 _ rfl; (with_reducible repeat (first | refine blk_drewN ?_ _ | refine blk_drew ?_ | refine blk_alloc ?_ _)); refine blk_put (cs := #[.bool ((rd_T67 l0 aw).f0), .slice aQ ((rd_T67 l0 aw).f1).length aR, .slice aO ((rd_T67 l0 aw).f2).length aP]) ?_ 0 _ rfl; (with_reducible repeat (first | refine blk_drewN ?_ _ | refine blk_drew ?_ | refine blk_alloc ?_ _)); exact ac.out⟩
      have cq : Aside0 (Below w.heap.size w (((b5.setCell ⟨aa, 0, none⟩ (.bool aD)).setCell ⟨aa, 1, none⟩ (.slice aJ aq.length aK)).setCell ⟨aa, 2, none⟩ (.slice aH ap.length aI))) := ⟨by repeat (first | (with_reducible first | exact HB.out | apply below_alloc | apply pw_below_drewN | apply below_drew1 | refine below_set ?_ aj.out | refine below_set ?_ al.out) | exact HB.out)⟩
      (try clear aC)
      (try clear aB)
      (try clear ao)
      (try clear ad)
      (try clear ae)
      (try clear ai)
      (try clear ah)
      (try clear ag)
      (try clear ac)
      (try clear HB)
      generalize (((b5.setCell ⟨aa, 0, none⟩ (.bool aD)).setCell ⟨aa, 1, none⟩ (.slice aJ aq.length aK)).setCell ⟨aa, 2, none⟩ (.slice aH ap.length aI)) = d4 at b9 ca cb cc cd ce cf cg cp cq ⊢
      have aC := b9
      have aB := ca
      have ao := cb
      have ad := cc
      have ae := cd
      have ai := ce
      have ah := cf
      have ag := cg
      have ac := cp
      have HB := cq
      clear b9 ca cb cc cd ce cf cg cp cq
      replace aC := am (Kd.V_drew aC.out)
      replace aB := am (Kd.V_drew aB.out)
      replace ao := am (Kd.V_drew ao.out)
      replace ad := am (Kd.V_drew ad.out)
      replace ae := am (Kd.V_drew ae.out)
      replace ai := am (Kd.V_drew ai.out)
      replace ah := am (Kd.V_drew ah.out)
      replace ag := am (blk_drew ag.out)
      replace ac := am (blk_drew ac.out)
      replace HB := am (below_drew1 HB.out)
      obtain ⟨bv, bw, cP⟩ := Kd.V_slice aC.out
      (first | subst cP | (injection cP with f1_ f2_ f3_; have f4_ := f1_.symm; have f5_ := f3_.symm; clear f1_ f2_ f3_; subst f4_; subst f5_))
      obtain ⟨AoX5, coX5, eoX5⟩ := Kd.V_slice aB.out
      (first | subst eoX5 | (injection eoX5 with f1_ f2_ f3_; have f4_ := f1_.symm; have f5_ := f3_.symm; clear f1_ f2_ f3_; subst f4_; subst f5_))
      refine start_ (n := 17) (S := fun w' => w'.cell? ⟨aa, 0, none⟩ = some (.bool aD) ∧ w'.cell? ⟨aa, 1, none⟩ = some (.slice aJ aq.length aK) ∧ w'.cell? ⟨aa, 2, none⟩ = some (.slice aH ap.length aI)) (ds := []) #[false, false, false, false, false, false, false, false, false, false, false, false, false, false, false, false, false] (by kernel_rfl) rfl rfl ⟨bc ac 0, bc ac 1, bc ac 2⟩ (fun hHeld => ?_); refine with_tabW rational_Mul.tab6 rational_Mul.bits6 (fun HT_ HW_ => ?_)
      generalize d4.drew = dX at aC aB ao ad ae ai ah ag ac HB hHeld ⊢
      refine pq 0 (some 19) #[true, false, false, false, false, false, false, false, false, false, false, false, false, false, false, false, false] HT_ ?_
      refine pq 1 (some 20) #[true, true, false, false, false, false, false, false, false, false, false, false, false, false, false, false, false] HT_ ?_
      refine pq 4 (some 23) #[true, true, false, false, true, false, false, false, false, false, false, false, false, false, false, false, false] HT_ ?_
      refine pq 5 (some 24) #[true, true, false, false, true, true, false, false, false, false, false, false, false, false, false, false, false] HT_ ?_
      refine pq 9 (some 28) #[true, true, false, false, true, true, false, false, false, true, false, false, false, false, false, false, false] HT_ ?_
      refine pq 10 (some 29) #[true, true, false, false, true, true, false, false, false, true, true, false, false, false, false, false, false] HT_ ?_
      refine tq 2 (some 21) #[true, true, true, false, true, true, false, false, false, true, true, false, false, false, false, false, false] HT_ HW_ hHeld ?_
      refine pq 3 (some 22) #[true, true, true, true, true, true, false, false, false, true, true, false, false, false, false, false, false] HT_ ?_
      refine tq 6 (some 25) #[true, true, true, true, true, true, true, false, false, true, true, false, false, false, false, false, false] HT_ HW_ hHeld ?_
      refine tq 11 (some 30) #[true, true, true, true, true, true, true, false, false, true, true, true, false, false, false, false, false] HT_ HW_ hHeld ?_
      refine join_ (σ := Value × Value × Value × Value × Value × Value × Nat) 1 #[true, true, true, true, true, true, true, true, true, true, true, true, true, true, true, true, false] (fun s_ => [(26, s_.1), (27, s_.2.1), (31, s_.2.2.1), (32, s_.2.2.2.1), (33, .agg #[.bool aX, s_.2.2.2.2.1, s_.2.2.2.2.2.1]), (8, .pointer (some ⟨s_.2.2.2.2.2.2, 0, none⟩))]) (fun s_ w' => (w'.cell? ⟨aa, 0, none⟩ = some (.bool aD) ∧ w'.cell? ⟨aa, 1, none⟩ = some (.slice aJ aq.length aK) ∧ w'.cell? ⟨aa, 2, none⟩ = some (.slice aH ap.length aI)) ∧ (Kd.V (Kd.int .u32) 48 w' w.heap.size (fun k_ => (P0_ k_ ∨ w.heap.size ≤ k_) ∧ some k_ ≠ (s_.1 : Value).ownBlock ∧ some k_ ≠ (s_.2.2.1 : Value).ownBlock ∧ k_ ≠ ab ∧ k_ ≠ aa ∧ k_ ≠ s_.2.2.2.2.2.2) (.slice aQ ((rd_T67 l0 aw).f1).length aR) ((rd_T67 l0 aw).f1)) ∧ (Kd.V (Kd.int .u32) 48 w' w.heap.size (fun k_ => (P0_ k_ ∨ w.heap.size ≤ k_) ∧ some k_ ≠ (s_.1 : Value).ownBlock ∧ some k_ ≠ (s_.2.2.1 : Value).ownBlock ∧ k_ ≠ ab ∧ k_ ≠ aa ∧ k_ ≠ s_.2.2.2.2.2.2) (.slice aO ((rd_T67 l0 aw).f2).length aP) ((rd_T67 l0 aw).f2)) ∧ (Kd.V (Kd.int .u32) 48 w' w.heap.size (fun k_ => (P0_ k_ ∨ w.heap.size ≤ k_) ∧ some k_ ≠ (s_.1 : Value).ownBlock ∧ some k_ ≠ (s_.2.2.1 : Value).ownBlock ∧ k_ ≠ ab ∧ k_ ≠ aa ∧ k_ ≠ s_.2.2.2.2.2.2) (.slice aJ aq.length aK) aq) ∧ (Kd.V (Kd.int .u32) 48 w' w.heap.size (fun k_ => (P0_ k_ ∨ w.heap.size ≤ k_) ∧ some k_ ≠ (s_.1 : Value).ownBlock ∧ some k_ ≠ (s_.2.2.1 : Value).ownBlock ∧ k_ ≠ ab ∧ k_ ≠ aa ∧ k_ ≠ s_.2.2.2.2.2.2) (.slice aH ap.length aI) ap) ∧ (Kd.N (Kd.slice 48 (Kd.int .u32)) 42 w' w.heap.size (fun k_ => (P0_ k_ ∨ w.heap.size ≤ k_) ∧ some k_ ≠ (s_.2.2.1 : Value).ownBlock ∧ k_ ≠ ab ∧ k_ ≠ aa ∧ k_ ≠ s_.2.2.2.2.2.2) s_.1 aL) ∧ (Kd.V (Kd.int .u32) 48 w' w.heap.size (fun k_ => (P0_ k_ ∨ w.heap.size ≤ k_) ∧ some k_ ≠ (s_.1 : Value).ownBlock ∧ some k_ ≠ (s_.2.2.1 : Value).ownBlock ∧ k_ ≠ ab ∧ k_ ≠ aa ∧ k_ ≠ s_.2.2.2.2.2.2) s_.2.1 a7) ∧ (Kd.N (Kd.slice 48 (Kd.int .u32)) 42 w' w.heap.size (fun k_ => (P0_ k_ ∨ w.heap.size ≤ k_) ∧ some k_ ≠ (s_.1 : Value).ownBlock ∧ k_ ≠ ab ∧ k_ ≠ aa ∧ k_ ≠ s_.2.2.2.2.2.2) s_.2.2.1 a8) ∧ (Kd.V (Kd.int .u32) 48 w' w.heap.size (fun k_ => (P0_ k_ ∨ w.heap.size ≤ k_) ∧ some k_ ≠ (s_.1 : Value).ownBlock ∧ some k_ ≠ (s_.2.2.1 : Value).ownBlock ∧ k_ ≠ ab ∧ k_ ≠ aa ∧ k_ ≠ s_.2.2.2.2.2.2) s_.2.2.2.1 bE) ∧ (Kd.V (Kd.int .u32) 48 w' w.heap.size (fun k_ => (P0_ k_ ∨ w.heap.size ≤ k_) ∧ some k_ ≠ (s_.1 : Value).ownBlock ∧ some k_ ≠ (s_.2.2.1 : Value).ownBlock ∧ k_ ≠ ab ∧ k_ ≠ aa ∧ k_ ≠ s_.2.2.2.2.2.2) s_.2.2.2.2.1 aW) ∧ (Kd.V (Kd.int .u32) 48 w' w.heap.size (fun k_ => (P0_ k_ ∨ w.heap.size ≤ k_) ∧ some k_ ≠ (s_.1 : Value).ownBlock ∧ some k_ ≠ (s_.2.2.1 : Value).ownBlock ∧ k_ ≠ ab ∧ k_ ≠ aa ∧ k_ ≠ s_.2.2.2.2.2.2) s_.2.2.2.2.2.1 aY) ∧ (Kd.V k67 67 w' w.heap.size (fun k_ => (P0_ k_ ∨ w.heap.size ≤ k_) ∧ some k_ ≠ (s_.1 : Value).ownBlock ∧ some k_ ≠ (s_.2.2.1 : Value).ownBlock ∧ k_ ≠ ab ∧ k_ ≠ aa ∧ k_ ≠ s_.2.2.2.2.2.2) (.slice (some ad1358) l0.length c0) l0) ∧ (Kd.V (Kd.int .u32) 48 w' w.heap.size (fun k_ => (P0_ k_ ∨ w.heap.size ≤ k_) ∧ some k_ ≠ (s_.1 : Value).ownBlock ∧ some k_ ≠ (s_.2.2.1 : Value).ownBlock ∧ k_ ≠ ab ∧ k_ ≠ aa ∧ k_ ≠ s_.2.2.2.2.2.2) (.slice bv aU.length bw) aU) ∧ (Kd.V (Kd.int .u32) 48 w' w.heap.size (fun k_ => (P0_ k_ ∨ w.heap.size ≤ k_) ∧ some k_ ≠ (s_.1 : Value).ownBlock ∧ some k_ ≠ (s_.2.2.1 : Value).ownBlock ∧ k_ ≠ ab ∧ k_ ≠ aa ∧ k_ ≠ s_.2.2.2.2.2.2) (.slice AoX5 aN.length coX5) aN) ∧ (w'.heap[ab]? = some (.cells #[.bool false, .slice none 0 0, .slice none 0 0] 67 (0, 0))) ∧ (w'.heap[aa]? = some (.cells #[.bool aD, .slice aJ aq.length aK, .slice aH ap.length aI] 67 (0, 0))) ∧ (w'.heap[s_.2.2.2.2.2.2]? = some (.cells #[.bool false, .slice none 0 0, .slice none 0 0] 67 (0, 0))) ∧ (w.heap.size ≤ s_.2.2.2.2.2.2) ∧ (w.heap.size ≤ s_.2.2.2.2.2.2) ∧ (ab ≠ s_.2.2.2.2.2.2) ∧ (s_.2.2.2.2.2.2 ≠ ab) ∧ (aa ≠ s_.2.2.2.2.2.2) ∧ (s_.2.2.2.2.2.2 ≠ aa) ∧ (Below w.heap.size w w')) ?_ ?_
      rotate_left
      ·
       intro hJ7_8_12_13_14_15
       refine join_ (σ := Value × Value × Value × Value × Value × Value) 2 #[true, true, true, true, true, true, true, true, true, true, true, true, true, true, true, false, false] (fun s_ => [(26, s_.1), (27, s_.2.1), (31, s_.2.2.1), (32, s_.2.2.2.1), (33, .agg #[.bool aX, s_.2.2.2.2.1, s_.2.2.2.2.2])]) (fun s_ w' => (w'.cell? ⟨aa, 0, none⟩ = some (.bool aD) ∧ w'.cell? ⟨aa, 1, none⟩ = some (.slice aJ aq.length aK) ∧ w'.cell? ⟨aa, 2, none⟩ = some (.slice aH ap.length aI)) ∧ (Kd.V (Kd.int .u32) 48 w' w.heap.size (fun k_ => (P0_ k_ ∨ w.heap.size ≤ k_) ∧ some k_ ≠ (s_.1 : Value).ownBlock ∧ some k_ ≠ (s_.2.2.1 : Value).ownBlock ∧ k_ ≠ ab ∧ k_ ≠ aa) (.slice aQ ((rd_T67 l0 aw).f1).length aR) ((rd_T67 l0 aw).f1)) ∧ (Kd.V (Kd.int .u32) 48 w' w.heap.size (fun k_ => (P0_ k_ ∨ w.heap.size ≤ k_) ∧ some k_ ≠ (s_.1 : Value).ownBlock ∧ some k_ ≠ (s_.2.2.1 : Value).ownBlock ∧ k_ ≠ ab ∧ k_ ≠ aa) (.slice aO ((rd_T67 l0 aw).f2).length aP) ((rd_T67 l0 aw).f2)) ∧ (Kd.V (Kd.int .u32) 48 w' w.heap.size (fun k_ => (P0_ k_ ∨ w.heap.size ≤ k_) ∧ some k_ ≠ (s_.1 : Value).ownBlock ∧ some k_ ≠ (s_.2.2.1 : Value).ownBlock ∧ k_ ≠ ab ∧ k_ ≠ aa) (.slice aJ aq.length aK) aq) ∧ (Kd.V (Kd.int .u32) 48 w' w.heap.size (fun k_ => (P0_ k_ ∨ w.heap.size ≤ k_) ∧ some k_ ≠ (s_.1 : Value).ownBlock ∧ some k_ ≠ (s_.2.2.1 : Value).ownBlock ∧ k_ ≠ ab ∧ k_ ≠ aa) (.slice aH ap.length aI) ap) ∧ (Kd.N (Kd.slice 48 (Kd.int .u32)) 42 w' w.heap.size (fun k_ => (P0_ k_ ∨ w.heap.size ≤ k_) ∧ some k_ ≠ (s_.2.2.1 : Value).ownBlock ∧ k_ ≠ ab ∧ k_ ≠ aa) s_.1 aL) ∧ (Kd.V (Kd.int .u32) 48 w' w.heap.size (fun k_ => (P0_ k_ ∨ w.heap.size ≤ k_) ∧ some k_ ≠ (s_.1 : Value).ownBlock ∧ some k_ ≠ (s_.2.2.1 : Value).ownBlock ∧ k_ ≠ ab ∧ k_ ≠ aa) s_.2.1 a7) ∧ (Kd.N (Kd.slice 48 (Kd.int .u32)) 42 w' w.heap.size (fun k_ => (P0_ k_ ∨ w.heap.size ≤ k_) ∧ some k_ ≠ (s_.1 : Value).ownBlock ∧ k_ ≠ ab ∧ k_ ≠ aa) s_.2.2.1 a8) ∧ (Kd.V (Kd.int .u32) 48 w' w.heap.size (fun k_ => (P0_ k_ ∨ w.heap.size ≤ k_) ∧ some k_ ≠ (s_.1 : Value).ownBlock ∧ some k_ ≠ (s_.2.2.1 : Value).ownBlock ∧ k_ ≠ ab ∧ k_ ≠ aa) s_.2.2.2.1 bE) ∧ (Kd.V (Kd.int .u32) 48 w' w.heap.size (fun k_ => (P0_ k_ ∨ w.heap.size ≤ k_) ∧ some k_ ≠ (s_.1 : Value).ownBlock ∧ some k_ ≠ (s_.2.2.1 : Value).ownBlock ∧ k_ ≠ ab ∧ k_ ≠ aa) s_.2.2.2.2.1 aW) ∧ (Kd.V (Kd.int .u32) 48 w' w.heap.size (fun k_ => (P0_ k_ ∨ w.heap.size ≤ k_) ∧ some k_ ≠ (s_.1 : Value).ownBlock ∧ some k_ ≠ (s_.2.2.1 : Value).ownBlock ∧ k_ ≠ ab ∧ k_ ≠ aa) s_.2.2.2.2.2 aY) ∧ (Kd.V k67 67 w' w.heap.size (fun k_ => (P0_ k_ ∨ w.heap.size ≤ k_) ∧ some k_ ≠ (s_.1 : Value).ownBlock ∧ some k_ ≠ (s_.2.2.1 : Value).ownBlock ∧ k_ ≠ ab ∧ k_ ≠ aa) (.slice (some ad1358) l0.length c0) l0) ∧ (Kd.V (Kd.int .u32) 48 w' w.heap.size (fun k_ => (P0_ k_ ∨ w.heap.size ≤ k_) ∧ some k_ ≠ (s_.1 : Value).ownBlock ∧ some k_ ≠ (s_.2.2.1 : Value).ownBlock ∧ k_ ≠ ab ∧ k_ ≠ aa) (.slice bv aU.length bw) aU) ∧ (Kd.V (Kd.int .u32) 48 w' w.heap.size (fun k_ => (P0_ k_ ∨ w.heap.size ≤ k_) ∧ some k_ ≠ (s_.1 : Value).ownBlock ∧ some k_ ≠ (s_.2.2.1 : Value).ownBlock ∧ k_ ≠ ab ∧ k_ ≠ aa) (.slice AoX5 aN.length coX5) aN) ∧ (w'.heap[ab]? = some (.cells #[.bool false, .slice none 0 0, .slice none 0 0] 67 (0, 0))) ∧ (w'.heap[aa]? = some (.cells #[.bool aD, .slice aJ aq.length aK, .slice aH ap.length aI] 67 (0, 0))) ∧ (Below w.heap.size w w')) ?_ ?_
       rotate_left
       ·
        intro hJ7_8_12_13_14
        refine join_ (σ := Value × Value × Value × Value × Nat) 2 #[true, true, true, true, true, true, true, true, true, true, true, true, true, true, false, true, false] (fun s_ => [(26, s_.1), (27, s_.2.1), (31, s_.2.2.1), (32, s_.2.2.2.1), (8, .pointer (some ⟨s_.2.2.2.2, 0, none⟩))]) (fun s_ w' => (w'.cell? ⟨aa, 0, none⟩ = some (.bool aD) ∧ w'.cell? ⟨aa, 1, none⟩ = some (.slice aJ aq.length aK) ∧ w'.cell? ⟨aa, 2, none⟩ = some (.slice aH ap.length aI)) ∧ (Kd.V (Kd.int .u32) 48 w' w.heap.size (fun k_ => (P0_ k_ ∨ w.heap.size ≤ k_) ∧ some k_ ≠ (s_.1 : Value).ownBlock ∧ some k_ ≠ (s_.2.2.1 : Value).ownBlock ∧ k_ ≠ ab ∧ k_ ≠ aa ∧ k_ ≠ s_.2.2.2.2) (.slice aQ ((rd_T67 l0 aw).f1).length aR) ((rd_T67 l0 aw).f1)) ∧ (Kd.V (Kd.int .u32) 48 w' w.heap.size (fun k_ => (P0_ k_ ∨ w.heap.size ≤ k_) ∧ some k_ ≠ (s_.1 : Value).ownBlock ∧ some k_ ≠ (s_.2.2.1 : Value).ownBlock ∧ k_ ≠ ab ∧ k_ ≠ aa ∧ k_ ≠ s_.2.2.2.2) (.slice aO ((rd_T67 l0 aw).f2).length aP) ((rd_T67 l0 aw).f2)) ∧ (Kd.V (Kd.int .u32) 48 w' w.heap.size (fun k_ => (P0_ k_ ∨ w.heap.size ≤ k_) ∧ some k_ ≠ (s_.1 : Value).ownBlock ∧ some k_ ≠ (s_.2.2.1 : Value).ownBlock ∧ k_ ≠ ab ∧ k_ ≠ aa ∧ k_ ≠ s_.2.2.2.2) (.slice aJ aq.length aK) aq) ∧ (Kd.V (Kd.int .u32) 48 w' w.heap.size (fun k_ => (P0_ k_ ∨ w.heap.size ≤ k_) ∧ some k_ ≠ (s_.1 : Value).ownBlock ∧ some k_ ≠ (s_.2.2.1 : Value).ownBlock ∧ k_ ≠ ab ∧ k_ ≠ aa ∧ k_ ≠ s_.2.2.2.2) (.slice aH ap.length aI) ap) ∧ (Kd.N (Kd.slice 48 (Kd.int .u32)) 42 w' w.heap.size (fun k_ => (P0_ k_ ∨ w.heap.size ≤ k_) ∧ some k_ ≠ (s_.2.2.1 : Value).ownBlock ∧ k_ ≠ ab ∧ k_ ≠ aa ∧ k_ ≠ s_.2.2.2.2) s_.1 aL) ∧ (Kd.V (Kd.int .u32) 48 w' w.heap.size (fun k_ => (P0_ k_ ∨ w.heap.size ≤ k_) ∧ some k_ ≠ (s_.1 : Value).ownBlock ∧ some k_ ≠ (s_.2.2.1 : Value).ownBlock ∧ k_ ≠ ab ∧ k_ ≠ aa ∧ k_ ≠ s_.2.2.2.2) s_.2.1 a7) ∧ (Kd.N (Kd.slice 48 (Kd.int .u32)) 42 w' w.heap.size (fun k_ => (P0_ k_ ∨ w.heap.size ≤ k_) ∧ some k_ ≠ (s_.1 : Value).ownBlock ∧ k_ ≠ ab ∧ k_ ≠ aa ∧ k_ ≠ s_.2.2.2.2) s_.2.2.1 a8) ∧ (Kd.V (Kd.int .u32) 48 w' w.heap.size (fun k_ => (P0_ k_ ∨ w.heap.size ≤ k_) ∧ some k_ ≠ (s_.1 : Value).ownBlock ∧ some k_ ≠ (s_.2.2.1 : Value).ownBlock ∧ k_ ≠ ab ∧ k_ ≠ aa ∧ k_ ≠ s_.2.2.2.2) s_.2.2.2.1 bE) ∧ (Kd.V k67 67 w' w.heap.size (fun k_ => (P0_ k_ ∨ w.heap.size ≤ k_) ∧ some k_ ≠ (s_.1 : Value).ownBlock ∧ some k_ ≠ (s_.2.2.1 : Value).ownBlock ∧ k_ ≠ ab ∧ k_ ≠ aa ∧ k_ ≠ s_.2.2.2.2) (.slice (some ad1358) l0.length c0) l0) ∧ (Kd.V (Kd.int .u32) 48 w' w.heap.size (fun k_ => (P0_ k_ ∨ w.heap.size ≤ k_) ∧ some k_ ≠ (s_.1 : Value).ownBlock ∧ some k_ ≠ (s_.2.2.1 : Value).ownBlock ∧ k_ ≠ ab ∧ k_ ≠ aa ∧ k_ ≠ s_.2.2.2.2) (.slice bv aU.length bw) aU) ∧ (Kd.V (Kd.int .u32) 48 w' w.heap.size (fun k_ => (P0_ k_ ∨ w.heap.size ≤ k_) ∧ some k_ ≠ (s_.1 : Value).ownBlock ∧ some k_ ≠ (s_.2.2.1 : Value).ownBlock ∧ k_ ≠ ab ∧ k_ ≠ aa ∧ k_ ≠ s_.2.2.2.2) (.slice AoX5 aN.length coX5) aN) ∧ (w'.heap[ab]? = some (.cells #[.bool false, .slice none 0 0, .slice none 0 0] 67 (0, 0))) ∧ (w'.heap[aa]? = some (.cells #[.bool aD, .slice aJ aq.length aK, .slice aH ap.length aI] 67 (0, 0))) ∧ (w'.heap[s_.2.2.2.2]? = some (.cells #[.bool false, .slice none 0 0, .slice none 0 0] 67 (0, 0))) ∧ (w.heap.size ≤ s_.2.2.2.2) ∧ (w.heap.size ≤ s_.2.2.2.2) ∧ (ab ≠ s_.2.2.2.2) ∧ (s_.2.2.2.2 ≠ ab) ∧ (aa ≠ s_.2.2.2.2) ∧ (s_.2.2.2.2 ≠ aa) ∧ (Below w.heap.size w w')) ?_ ?_
        rotate_left
        ·
         intro hJ7_8_12_13_15
         refine join_ (σ := Value × Value × Value × Value) 3 #[true, true, true, true, true, true, true, true, true, true, true, true, true, true, false, false, false] (fun s_ => [(26, s_.1), (27, s_.2.1), (31, s_.2.2.1), (32, s_.2.2.2)]) (fun s_ w' => (w'.cell? ⟨aa, 0, none⟩ = some (.bool aD) ∧ w'.cell? ⟨aa, 1, none⟩ = some (.slice aJ aq.length aK) ∧ w'.cell? ⟨aa, 2, none⟩ = some (.slice aH ap.length aI)) ∧ (Kd.V (Kd.int .u32) 48 w' w.heap.size (fun k_ => (P0_ k_ ∨ w.heap.size ≤ k_) ∧ some k_ ≠ (s_.1 : Value).ownBlock ∧ some k_ ≠ (s_.2.2.1 : Value).ownBlock ∧ k_ ≠ ab ∧ k_ ≠ aa) (.slice aQ ((rd_T67 l0 aw).f1).length aR) ((rd_T67 l0 aw).f1)) ∧ (Kd.V (Kd.int .u32) 48 w' w.heap.size (fun k_ => (P0_ k_ ∨ w.heap.size ≤ k_) ∧ some k_ ≠ (s_.1 : Value).ownBlock ∧ some k_ ≠ (s_.2.2.1 : Value).ownBlock ∧ k_ ≠ ab ∧ k_ ≠ aa) (.slice aO ((rd_T67 l0 aw).f2).length aP) ((rd_T67 l0 aw).f2)) ∧ (Kd.V (Kd.int .u32) 48 w' w.heap.size (fun k_ => (P0_ k_ ∨ w.heap.size ≤ k_) ∧ some k_ ≠ (s_.1 : Value).ownBlock ∧ some k_ ≠ (s_.2.2.1 : Value).ownBlock ∧ k_ ≠ ab ∧ k_ ≠ aa) (.slice aJ aq.length aK) aq) ∧ (Kd.V (Kd.int .u32) 48 w' w.heap.size (fun k_ => (P0_ k_ ∨ w.heap.size ≤ k_) ∧ some k_ ≠ (s_.1 : Value).ownBlock ∧ some k_ ≠ (s_.2.2.1 : Value).ownBlock ∧ k_ ≠ ab ∧ k_ ≠ aa) (.slice aH ap.length aI) ap) ∧ (Kd.N (Kd.slice 48 (Kd.int .u32)) 42 w' w.heap.size (fun k_ => (P0_ k_ ∨ w.heap.size ≤ k_) ∧ some k_ ≠ (s_.2.2.1 : Value).ownBlock ∧ k_ ≠ ab ∧ k_ ≠ aa) s_.1 aL) ∧ (Kd.V (Kd.int .u32) 48 w' w.heap.size (fun k_ => (P0_ k_ ∨ w.heap.size ≤ k_) ∧ some k_ ≠ (s_.1 : Value).ownBlock ∧ some k_ ≠ (s_.2.2.1 : Value).ownBlock ∧ k_ ≠ ab ∧ k_ ≠ aa) s_.2.1 a7) ∧ (Kd.N (Kd.slice 48 (Kd.int .u32)) 42 w' w.heap.size (fun k_ => (P0_ k_ ∨ w.heap.size ≤ k_) ∧ some k_ ≠ (s_.1 : Value).ownBlock ∧ k_ ≠ ab ∧ k_ ≠ aa) s_.2.2.1 a8) ∧ (Kd.V (Kd.int .u32) 48 w' w.heap.size (fun k_ => (P0_ k_ ∨ w.heap.size ≤ k_) ∧ some k_ ≠ (s_.1 : Value).ownBlock ∧ some k_ ≠ (s_.2.2.1 : Value).ownBlock ∧ k_ ≠ ab ∧ k_ ≠ aa) s_.2.2.2 bE) ∧ (Kd.V k67 67 w' w.heap.size (fun k_ => (P0_ k_ ∨ w.heap.size ≤ k_) ∧ some k_ ≠ (s_.1 : Value).ownBlock ∧ some k_ ≠ (s_.2.2.1 : Value).ownBlock ∧ k_ ≠ ab ∧ k_ ≠ aa) (.slice (some ad1358) l0.length c0) l0) ∧ (Kd.V (Kd.int .u32) 48 w' w.heap.size (fun k_ => (P0_ k_ ∨ w.heap.size ≤ k_) ∧ some k_ ≠ (s_.1 : Value).ownBlock ∧ some k_ ≠ (s_.2.2.1 : Value).ownBlock ∧ k_ ≠ ab ∧ k_ ≠ aa) (.slice bv aU.length bw) aU) ∧ (Kd.V (Kd.int .u32) 48 w' w.heap.size (fun k_ => (P0_ k_ ∨ w.heap.size ≤ k_) ∧ some k_ ≠ (s_.1 : Value).ownBlock ∧ some k_ ≠ (s_.2.2.1 : Value).ownBlock ∧ k_ ≠ ab ∧ k_ ≠ aa) (.slice AoX5 aN.length coX5) aN) ∧ (w'.heap[ab]? = some (.cells #[.bool false, .slice none 0 0, .slice none 0 0] 67 (0, 0))) ∧ (w'.heap[aa]? = some (.cells #[.bool aD, .slice aJ aq.length aK, .slice aH ap.length aI] 67 (0, 0))) ∧ (Below w.heap.size w w')) ?_ ?_
         rotate_left
         ·
          intro hJ7_8_12_13
          refine join_ (σ := Value × Value × Value × Nat) 3 #[true, true, true, true, true, true, true, true, true, true, true, true, true, false, false, true, false] (fun s_ => [(26, s_.1), (27, s_.2.1), (31, s_.2.2.1), (8, .pointer (some ⟨s_.2.2.2, 0, none⟩))]) (fun s_ w' => (w'.cell? ⟨aa, 0, none⟩ = some (.bool aD) ∧ w'.cell? ⟨aa, 1, none⟩ = some (.slice aJ aq.length aK) ∧ w'.cell? ⟨aa, 2, none⟩ = some (.slice aH ap.length aI)) ∧ (Kd.V (Kd.int .u32) 48 w' w.heap.size (fun k_ => (P0_ k_ ∨ w.heap.size ≤ k_) ∧ some k_ ≠ (s_.1 : Value).ownBlock ∧ some k_ ≠ (s_.2.2.1 : Value).ownBlock ∧ k_ ≠ ab ∧ k_ ≠ aa ∧ k_ ≠ s_.2.2.2) (.slice aQ ((rd_T67 l0 aw).f1).length aR) ((rd_T67 l0 aw).f1)) ∧ (Kd.V (Kd.int .u32) 48 w' w.heap.size (fun k_ => (P0_ k_ ∨ w.heap.size ≤ k_) ∧ some k_ ≠ (s_.1 : Value).ownBlock ∧ some k_ ≠ (s_.2.2.1 : Value).ownBlock ∧ k_ ≠ ab ∧ k_ ≠ aa ∧ k_ ≠ s_.2.2.2) (.slice aO ((rd_T67 l0 aw).f2).length aP) ((rd_T67 l0 aw).f2)) ∧ (Kd.V (Kd.int .u32) 48 w' w.heap.size (fun k_ => (P0_ k_ ∨ w.heap.size ≤ k_) ∧ some k_ ≠ (s_.1 : Value).ownBlock ∧ some k_ ≠ (s_.2.2.1 : Value).ownBlock ∧ k_ ≠ ab ∧ k_ ≠ aa ∧ k_ ≠ s_.2.2.2) (.slice aJ aq.length aK) aq) ∧ (Kd.V (Kd.int .u32) 48 w' w.heap.size (fun k_ => (P0_ k_ ∨ w.heap.size ≤ k_) ∧ some k_ ≠ (s_.1 : Value).ownBlock ∧ some k_ ≠ (s_.2.2.1 : Value).ownBlock ∧ k_ ≠ ab ∧ k_ ≠ aa ∧ k_ ≠ s_.2.2.2) (.slice aH ap.length aI) ap) ∧ (Kd.N (Kd.slice 48 (Kd.int .u32)) 42 w' w.heap.size (fun k_ => (P0_ k_ ∨ w.heap.size ≤ k_) ∧ some k_ ≠ (s_.2.2.1 : Value).ownBlock ∧ k_ ≠ ab ∧ k_ ≠ aa ∧ k_ ≠ s_.2.2.2) s_.1 aL) ∧ (Kd.V (Kd.int .u32) 48 w' w.heap.size (fun k_ => (P0_ k_ ∨ w.heap.size ≤ k_) ∧ some k_ ≠ (s_.1 : Value).ownBlock ∧ some k_ ≠ (s_.2.2.1 : Value).ownBlock ∧ k_ ≠ ab ∧ k_ ≠ aa ∧ k_ ≠ s_.2.2.2) s_.2.1 a7) ∧ (Kd.N (Kd.slice 48 (Kd.int .u32)) 42 w' w.heap.size (fun k_ => (P0_ k_ ∨ w.heap.size ≤ k_) ∧ some k_ ≠ (s_.1 : Value).ownBlock ∧ k_ ≠ ab ∧ k_ ≠ aa ∧ k_ ≠ s_.2.2.2) s_.2.2.1 a8) ∧ (Kd.V k67 67 w' w.heap.size (fun k_ => (P0_ k_ ∨ w.heap.size ≤ k_) ∧ some k_ ≠ (s_.1 : Value).ownBlock ∧ some k_ ≠ (s_.2.2.1 : Value).ownBlock ∧ k_ ≠ ab ∧ k_ ≠ aa ∧ k_ ≠ s_.2.2.2) (.slice (some ad1358) l0.length c0) l0) ∧ (Kd.V (Kd.int .u32) 48 w' w.heap.size (fun k_ => (P0_ k_ ∨ w.heap.size ≤ k_) ∧ some k_ ≠ (s_.1 : Value).ownBlock ∧ some k_ ≠ (s_.2.2.1 : Value).ownBlock ∧ k_ ≠ ab ∧ k_ ≠ aa ∧ k_ ≠ s_.2.2.2) (.slice bv aU.length bw) aU) ∧ (Kd.V (Kd.int .u32) 48 w' w.heap.size (fun k_ => (P0_ k_ ∨ w.heap.size ≤ k_) ∧ some k_ ≠ (s_.1 : Value).ownBlock ∧ some k_ ≠ (s_.2.2.1 : Value).ownBlock ∧ k_ ≠ ab ∧ k_ ≠ aa ∧ k_ ≠ s_.2.2.2) (.slice AoX5 aN.length coX5) aN) ∧ (w'.heap[ab]? = some (.cells #[.bool false, .slice none 0 0, .slice none 0 0] 67 (0, 0))) ∧ (w'.heap[aa]? = some (.cells #[.bool aD, .slice aJ aq.length aK, .slice aH ap.length aI] 67 (0, 0))) ∧ (w'.heap[s_.2.2.2]? = some (.cells #[.bool false, .slice none 0 0, .slice none 0 0] 67 (0, 0))) ∧ (w.heap.size ≤ s_.2.2.2) ∧ (w.heap.size ≤ s_.2.2.2) ∧ (ab ≠ s_.2.2.2) ∧ (s_.2.2.2 ≠ ab) ∧ (aa ≠ s_.2.2.2) ∧ (s_.2.2.2 ≠ aa) ∧ (Below w.heap.size w w')) ?_ ?_
          rotate_left
          ·
           intro hJ7_8_12_15
           refine join_ (σ := Value × Value × Value) 4 #[true, true, true, true, true, true, true, true, true, true, true, true, true, false, false, false, false] (fun s_ => [(26, s_.1), (27, s_.2.1), (31, s_.2.2)]) (fun s_ w' => (w'.cell? ⟨aa, 0, none⟩ = some (.bool aD) ∧ w'.cell? ⟨aa, 1, none⟩ = some (.slice aJ aq.length aK) ∧ w'.cell? ⟨aa, 2, none⟩ = some (.slice aH ap.length aI)) ∧ (Kd.V (Kd.int .u32) 48 w' w.heap.size (fun k_ => (P0_ k_ ∨ w.heap.size ≤ k_) ∧ some k_ ≠ (s_.1 : Value).ownBlock ∧ some k_ ≠ (s_.2.2 : Value).ownBlock ∧ k_ ≠ ab ∧ k_ ≠ aa) (.slice aQ ((rd_T67 l0 aw).f1).length aR) ((rd_T67 l0 aw).f1)) ∧ (Kd.V (Kd.int .u32) 48 w' w.heap.size (fun k_ => (P0_ k_ ∨ w.heap.size ≤ k_) ∧ some k_ ≠ (s_.1 : Value).ownBlock ∧ some k_ ≠ (s_.2.2 : Value).ownBlock ∧ k_ ≠ ab ∧ k_ ≠ aa) (.slice aO ((rd_T67 l0 aw).f2).length aP) ((rd_T67 l0 aw).f2)) ∧ (Kd.V (Kd.int .u32) 48 w' w.heap.size (fun k_ => (P0_ k_ ∨ w.heap.size ≤ k_) ∧ some k_ ≠ (s_.1 : Value).ownBlock ∧ some k_ ≠ (s_.2.2 : Value).ownBlock ∧ k_ ≠ ab ∧ k_ ≠ aa) (.slice aJ aq.length aK) aq) ∧ (Kd.V (Kd.int .u32) 48 w' w.heap.size (fun k_ => (P0_ k_ ∨ w.heap.size ≤ k_) ∧ some k_ ≠ (s_.1 : Value).ownBlock ∧ some k_ ≠ (s_.2.2 : Value).ownBlock ∧ k_ ≠ ab ∧ k_ ≠ aa) (.slice aH ap.length aI) ap) ∧ (Kd.N (Kd.slice 48 (Kd.int .u32)) 42 w' w.heap.size (fun k_ => (P0_ k_ ∨ w.heap.size ≤ k_) ∧ some k_ ≠ (s_.2.2 : Value).ownBlock ∧ k_ ≠ ab ∧ k_ ≠ aa) s_.1 aL) ∧ (Kd.V (Kd.int .u32) 48 w' w.heap.size (fun k_ => (P0_ k_ ∨ w.heap.size ≤ k_) ∧ some k_ ≠ (s_.1 : Value).ownBlock ∧ some k_ ≠ (s_.2.2 : Value).ownBlock ∧ k_ ≠ ab ∧ k_ ≠ aa) s_.2.1 a7) ∧ (Kd.N (Kd.slice 48 (Kd.int .u32)) 42 w' w.heap.size (fun k_ => (P0_ k_ ∨ w.heap.size ≤ k_) ∧ some k_ ≠ (s_.1 : Value).ownBlock ∧ k_ ≠ ab ∧ k_ ≠ aa) s_.2.2 a8) ∧ (Kd.V k67 67 w' w.heap.size (fun k_ => (P0_ k_ ∨ w.heap.size ≤ k_) ∧ some k_ ≠ (s_.1 : Value).ownBlock ∧ some k_ ≠ (s_.2.2 : Value).ownBlock ∧ k_ ≠ ab ∧ k_ ≠ aa) (.slice (some ad1358) l0.length c0) l0) ∧ (Kd.V (Kd.int .u32) 48 w' w.heap.size (fun k_ => (P0_ k_ ∨ w.heap.size ≤ k_) ∧ some k_ ≠ (s_.1 : Value).ownBlock ∧ some k_ ≠ (s_.2.2 : Value).ownBlock ∧ k_ ≠ ab ∧ k_ ≠ aa) (.slice bv aU.length bw) aU) ∧ (Kd.V (Kd.int .u32) 48 w' w.heap.size (fun k_ => (P0_ k_ ∨ w.heap.size ≤ k_) ∧ some k_ ≠ (s_.1 : Value).ownBlock ∧ some k_ ≠ (s_.2.2 : Value).ownBlock ∧ k_ ≠ ab ∧ k_ ≠ aa) (.slice AoX5 aN.length coX5) aN) ∧ (w'.heap[ab]? = some (.cells #[.bool false, .slice none 0 0, .slice none 0 0] 67 (0, 0))) ∧ (w'.heap[aa]? = some (.cells #[.bool aD, .slice aJ aq.length aK, .slice aH ap.length aI] 67 (0, 0))) ∧ (Below w.heap.size w w')) ?_ ?_
           rotate_left
           ·
            intro hJ7_8_12
            refine join_ (σ := Value × Value × Nat) 4 #[true, true, true, true, true, true, true, true, true, true, true, true, false, false, false, true, false] (fun s_ => [(26, s_.1), (27, s_.2.1), (8, .pointer (some ⟨s_.2.2, 0, none⟩))]) (fun s_ w' => (w'.cell? ⟨aa, 0, none⟩ = some (.bool aD) ∧ w'.cell? ⟨aa, 1, none⟩ = some (.slice aJ aq.length aK) ∧ w'.cell? ⟨aa, 2, none⟩ = some (.slice aH ap.length aI)) ∧ (Kd.V (Kd.int .u32) 48 w' w.heap.size (fun k_ => (P0_ k_ ∨ w.heap.size ≤ k_) ∧ some k_ ≠ (s_.1 : Value).ownBlock ∧ k_ ≠ ab ∧ k_ ≠ aa ∧ k_ ≠ s_.2.2) (.slice aQ ((rd_T67 l0 aw).f1).length aR) ((rd_T67 l0 aw).f1)) ∧ (Kd.V (Kd.int .u32) 48 w' w.heap.size (fun k_ => (P0_ k_ ∨ w.heap.size ≤ k_) ∧ some k_ ≠ (s_.1 : Value).ownBlock ∧ k_ ≠ ab ∧ k_ ≠ aa ∧ k_ ≠ s_.2.2) (.slice aO ((rd_T67 l0 aw).f2).length aP) ((rd_T67 l0 aw).f2)) ∧ (Kd.V (Kd.int .u32) 48 w' w.heap.size (fun k_ => (P0_ k_ ∨ w.heap.size ≤ k_) ∧ some k_ ≠ (s_.1 : Value).ownBlock ∧ k_ ≠ ab ∧ k_ ≠ aa ∧ k_ ≠ s_.2.2) (.slice aJ aq.length aK) aq) ∧ (Kd.V (Kd.int .u32) 48 w' w.heap.size (fun k_ => (P0_ k_ ∨ w.heap.size ≤ k_) ∧ some k_ ≠ (s_.1 : Value).ownBlock ∧ k_ ≠ ab ∧ k_ ≠ aa ∧ k_ ≠ s_.2.2) (.slice aH ap.length aI) ap) ∧ (Kd.N (Kd.slice 48 (Kd.int .u32)) 42 w' w.heap.size (fun k_ => (P0_ k_ ∨ w.heap.size ≤ k_) ∧ k_ ≠ ab ∧ k_ ≠ aa ∧ k_ ≠ s_.2.2) s_.1 aL) ∧ (Kd.V (Kd.int .u32) 48 w' w.heap.size (fun k_ => (P0_ k_ ∨ w.heap.size ≤ k_) ∧ some k_ ≠ (s_.1 : Value).ownBlock ∧ k_ ≠ ab ∧ k_ ≠ aa ∧ k_ ≠ s_.2.2) s_.2.1 a7) ∧ (Kd.V k67 67 w' w.heap.size (fun k_ => (P0_ k_ ∨ w.heap.size ≤ k_) ∧ some k_ ≠ (s_.1 : Value).ownBlock ∧ k_ ≠ ab ∧ k_ ≠ aa ∧ k_ ≠ s_.2.2) (.slice (some ad1358) l0.length c0) l0) ∧ (Kd.V (Kd.int .u32) 48 w' w.heap.size (fun k_ => (P0_ k_ ∨ w.heap.size ≤ k_) ∧ some k_ ≠ (s_.1 : Value).ownBlock ∧ k_ ≠ ab ∧ k_ ≠ aa ∧ k_ ≠ s_.2.2) (.slice bv aU.length bw) aU) ∧ (Kd.V (Kd.int .u32) 48 w' w.heap.size (fun k_ => (P0_ k_ ∨ w.heap.size ≤ k_) ∧ some k_ ≠ (s_.1 : Value).ownBlock ∧ k_ ≠ ab ∧ k_ ≠ aa ∧ k_ ≠ s_.2.2) (.slice AoX5 aN.length coX5) aN) ∧ (w'.heap[ab]? = some (.cells #[.bool false, .slice none 0 0, .slice none 0 0] 67 (0, 0))) ∧ (w'.heap[aa]? = some (.cells #[.bool aD, .slice aJ aq.length aK, .slice aH ap.length aI] 67 (0, 0))) ∧ (w'.heap[s_.2.2]? = some (.cells #[.bool false, .slice none 0 0, .slice none 0 0] 67 (0, 0))) ∧ (w.heap.size ≤ s_.2.2) ∧ (w.heap.size ≤ s_.2.2) ∧ (ab ≠ s_.2.2) ∧ (s_.2.2 ≠ ab) ∧ (aa ≠ s_.2.2) ∧ (s_.2.2 ≠ aa) ∧ (Below w.heap.size w w')) ?_ ?_
            rotate_left
            ·
             intro hJ7_8_15
             refine join_ (σ := Value × Value × Nat) 4 #[true, true, true, true, true, true, true, true, false, true, true, true, true, false, false, true, false] (fun s_ => [(26, s_.1), (31, s_.2.1), (8, .pointer (some ⟨s_.2.2, 0, none⟩))]) (fun s_ w' => (w'.cell? ⟨aa, 0, none⟩ = some (.bool aD) ∧ w'.cell? ⟨aa, 1, none⟩ = some (.slice aJ aq.length aK) ∧ w'.cell? ⟨aa, 2, none⟩ = some (.slice aH ap.length aI)) ∧ (Kd.V (Kd.int .u32) 48 w' w.heap.size (fun k_ => (P0_ k_ ∨ w.heap.size ≤ k_) ∧ some k_ ≠ (s_.1 : Value).ownBlock ∧ some k_ ≠ (s_.2.1 : Value).ownBlock ∧ k_ ≠ ab ∧ k_ ≠ aa ∧ k_ ≠ s_.2.2) (.slice aQ ((rd_T67 l0 aw).f1).length aR) ((rd_T67 l0 aw).f1)) ∧ (Kd.V (Kd.int .u32) 48 w' w.heap.size (fun k_ => (P0_ k_ ∨ w.heap.size ≤ k_) ∧ some k_ ≠ (s_.1 : Value).ownBlock ∧ some k_ ≠ (s_.2.1 : Value).ownBlock ∧ k_ ≠ ab ∧ k_ ≠ aa ∧ k_ ≠ s_.2.2) (.slice aO ((rd_T67 l0 aw).f2).length aP) ((rd_T67 l0 aw).f2)) ∧ (Kd.V (Kd.int .u32) 48 w' w.heap.size (fun k_ => (P0_ k_ ∨ w.heap.size ≤ k_) ∧ some k_ ≠ (s_.1 : Value).ownBlock ∧ some k_ ≠ (s_.2.1 : Value).ownBlock ∧ k_ ≠ ab ∧ k_ ≠ aa ∧ k_ ≠ s_.2.2) (.slice aJ aq.length aK) aq) ∧ (Kd.V (Kd.int .u32) 48 w' w.heap.size (fun k_ => (P0_ k_ ∨ w.heap.size ≤ k_) ∧ some k_ ≠ (s_.1 : Value).ownBlock ∧ some k_ ≠ (s_.2.1 : Value).ownBlock ∧ k_ ≠ ab ∧ k_ ≠ aa ∧ k_ ≠ s_.2.2) (.slice aH ap.length aI) ap) ∧ (Kd.N (Kd.slice 48 (Kd.int .u32)) 42 w' w.heap.size (fun k_ => (P0_ k_ ∨ w.heap.size ≤ k_) ∧ some k_ ≠ (s_.2.1 : Value).ownBlock ∧ k_ ≠ ab ∧ k_ ≠ aa ∧ k_ ≠ s_.2.2) s_.1 aL) ∧ (Kd.N (Kd.slice 48 (Kd.int .u32)) 42 w' w.heap.size (fun k_ => (P0_ k_ ∨ w.heap.size ≤ k_) ∧ some k_ ≠ (s_.1 : Value).ownBlock ∧ k_ ≠ ab ∧ k_ ≠ aa ∧ k_ ≠ s_.2.2) s_.2.1 a8) ∧ (Kd.V k67 67 w' w.heap.size (fun k_ => (P0_ k_ ∨ w.heap.size ≤ k_) ∧ some k_ ≠ (s_.1 : Value).ownBlock ∧ some k_ ≠ (s_.2.1 : Value).ownBlock ∧ k_ ≠ ab ∧ k_ ≠ aa ∧ k_ ≠ s_.2.2) (.slice (some ad1358) l0.length c0) l0) ∧ (Kd.V (Kd.int .u32) 48 w' w.heap.size (fun k_ => (P0_ k_ ∨ w.heap.size ≤ k_) ∧ some k_ ≠ (s_.1 : Value).ownBlock ∧ some k_ ≠ (s_.2.1 : Value).ownBlock ∧ k_ ≠ ab ∧ k_ ≠ aa ∧ k_ ≠ s_.2.2) (.slice bv aU.length bw) aU) ∧ (Kd.V (Kd.int .u32) 48 w' w.heap.size (fun k_ => (P0_ k_ ∨ w.heap.size ≤ k_) ∧ some k_ ≠ (s_.1 : Value).ownBlock ∧ some k_ ≠ (s_.2.1 : Value).ownBlock ∧ k_ ≠ ab ∧ k_ ≠ aa ∧ k_ ≠ s_.2.2) (.slice AoX5 aN.length coX5) aN) ∧ (w'.heap[ab]? = some (.cells #[.bool false, .slice none 0 0, .slice none 0 0] 67 (0, 0))) ∧ (w'.heap[aa]? = some (.cells #[.bool aD, .slice aJ aq.length aK, .slice aH ap.length aI] 67 (0, 0))) ∧ (w'.heap[s_.2.2]? = some (.cells #[.bool false, .slice none 0 0, .slice none 0 0] 67 (0, 0))) ∧ (w.heap.size ≤ s_.2.2) ∧ (w.heap.size ≤ s_.2.2) ∧ (ab ≠ s_.2.2) ∧ (s_.2.2 ≠ ab) ∧ (aa ≠ s_.2.2) ∧ (s_.2.2 ≠ aa) ∧ (Below w.heap.size w w')) ?_ ?_
             rotate_left
             ·
              intro hJ7_12_15
              refine join_ (σ := Value × Value) 5 #[true, true, true, true, true, true, true, true, true, true, true, true, false, false, false, false, false] (fun s_ => [(26, s_.1), (27, s_.2)]) (fun s_ w' => (w'.cell? ⟨aa, 0, none⟩ = some (.bool aD) ∧ w'.cell? ⟨aa, 1, none⟩ = some (.slice aJ aq.length aK) ∧ w'.cell? ⟨aa, 2, none⟩ = some (.slice aH ap.length aI)) ∧ (Kd.V (Kd.int .u32) 48 w' w.heap.size (fun k_ => (P0_ k_ ∨ w.heap.size ≤ k_) ∧ some k_ ≠ (s_.1 : Value).ownBlock ∧ k_ ≠ ab ∧ k_ ≠ aa) (.slice aQ ((rd_T67 l0 aw).f1).length aR) ((rd_T67 l0 aw).f1)) ∧ (Kd.V (Kd.int .u32) 48 w' w.heap.size (fun k_ => (P0_ k_ ∨ w.heap.size ≤ k_) ∧ some k_ ≠ (s_.1 : Value).ownBlock ∧ k_ ≠ ab ∧ k_ ≠ aa) (.slice aO ((rd_T67 l0 aw).f2).length aP) ((rd_T67 l0 aw).f2)) ∧ (Kd.V (Kd.int .u32) 48 w' w.heap.size (fun k_ => (P0_ k_ ∨ w.heap.size ≤ k_) ∧ some k_ ≠ (s_.1 : Value).ownBlock ∧ k_ ≠ ab ∧ k_ ≠ aa) (.slice aJ aq.length aK) aq) ∧ (Kd.V (Kd.int .u32) 48 w' w.heap.size (fun k_ => (P0_ k_ ∨ w.heap.size ≤ k_) ∧ some k_ ≠ (s_.1 : Value).ownBlock ∧ k_ ≠ ab ∧ k_ ≠ aa) (.slice aH ap.length aI) ap) ∧ (Kd.N (Kd.slice 48 (Kd.int .u32)) 42 w' w.heap.size (fun k_ => (P0_ k_ ∨ w.heap.size ≤ k_) ∧ k_ ≠ ab ∧ k_ ≠ aa) s_.1 aL) ∧ (Kd.V (Kd.int .u32) 48 w' w.heap.size (fun k_ => (P0_ k_ ∨ w.heap.size ≤ k_) ∧ some k_ ≠ (s_.1 : Value).ownBlock ∧ k_ ≠ ab ∧ k_ ≠ aa) s_.2 a7) ∧ (Kd.V k67 67 w' w.heap.size (fun k_ => (P0_ k_ ∨ w.heap.size ≤ k_) ∧ some k_ ≠ (s_.1 : Value).ownBlock ∧ k_ ≠ ab ∧ k_ ≠ aa) (.slice (some ad1358) l0.length c0) l0) ∧ (Kd.V (Kd.int .u32) 48 w' w.heap.size (fun k_ => (P0_ k_ ∨ w.heap.size ≤ k_) ∧ some k_ ≠ (s_.1 : Value).ownBlock ∧ k_ ≠ ab ∧ k_ ≠ aa) (.slice bv aU.length bw) aU) ∧ (Kd.V (Kd.int .u32) 48 w' w.heap.size (fun k_ => (P0_ k_ ∨ w.heap.size ≤ k_) ∧ some k_ ≠ (s_.1 : Value).ownBlock ∧ k_ ≠ ab ∧ k_ ≠ aa) (.slice AoX5 aN.length coX5) aN) ∧ (w'.heap[ab]? = some (.cells #[.bool false, .slice none 0 0, .slice none 0 0] 67 (0, 0))) ∧ (w'.heap[aa]? = some (.cells #[.bool aD, .slice aJ aq.length aK, .slice aH ap.length aI] 67 (0, 0))) ∧ (Below w.heap.size w w')) ?_ ?_
              rotate_left
              ·
               intro hJ7_8
               refine join_ (σ := Value × Value) 5 #[true, true, true, true, true, true, true, true, false, true, true, true, true, false, false, false, false] (fun s_ => [(26, s_.1), (31, s_.2)]) (fun s_ w' => (w'.cell? ⟨aa, 0, none⟩ = some (.bool aD) ∧ w'.cell? ⟨aa, 1, none⟩ = some (.slice aJ aq.length aK) ∧ w'.cell? ⟨aa, 2, none⟩ = some (.slice aH ap.length aI)) ∧ (Kd.V (Kd.int .u32) 48 w' w.heap.size (fun k_ => (P0_ k_ ∨ w.heap.size ≤ k_) ∧ some k_ ≠ (s_.1 : Value).ownBlock ∧ some k_ ≠ (s_.2 : Value).ownBlock ∧ k_ ≠ ab ∧ k_ ≠ aa) (.slice aQ ((rd_T67 l0 aw).f1).length aR) ((rd_T67 l0 aw).f1)) ∧ (Kd.V (Kd.int .u32) 48 w' w.heap.size (fun k_ => (P0_ k_ ∨ w.heap.size ≤ k_) ∧ some k_ ≠ (s_.1 : Value).ownBlock ∧ some k_ ≠ (s_.2 : Value).ownBlock ∧ k_ ≠ ab ∧ k_ ≠ aa) (.slice aO ((rd_T67 l0 aw).f2).length aP) ((rd_T67 l0 aw).f2)) ∧ (Kd.V (Kd.int .u32) 48 w' w.heap.size (fun k_ => (P0_ k_ ∨ w.heap.size ≤ k_) ∧ some k_ ≠ (s_.1 : Value).ownBlock ∧ some k_ ≠ (s_.2 : Value).ownBlock ∧ k_ ≠ ab ∧ k_ ≠ aa) (.slice aJ aq.length aK) aq) ∧ (Kd.V (Kd.int .u32) 48 w' w.heap.size (fun k_ => (P0_ k_ ∨ w.heap.size ≤ k_) ∧ some k_ ≠ (s_.1 : Value).ownBlock ∧ some k_ ≠ (s_.2 : Value).ownBlock ∧ k_ ≠ ab ∧ k_ ≠ aa) (.slice aH ap.length aI) ap) ∧ (Kd.N (Kd.slice 48 (Kd.int .u32)) 42 w' w.heap.size (fun k_ => (P0_ k_ ∨ w.heap.size ≤ k_) ∧ some k_ ≠ (s_.2 : Value).ownBlock ∧ k_ ≠ ab ∧ k_ ≠ aa) s_.1 aL) ∧ (Kd.N (Kd.slice 48 (Kd.int .u32)) 42 w' w.heap.size (fun k_ => (P0_ k_ ∨ w.heap.size ≤ k_) ∧ some k_ ≠ (s_.1 : Value).ownBlock ∧ k_ ≠ ab ∧ k_ ≠ aa) s_.2 a8) ∧ (Kd.V k67 67 w' w.heap.size (fun k_ => (P0_ k_ ∨ w.heap.size ≤ k_) ∧ some k_ ≠ (s_.1 : Value).ownBlock ∧ some k_ ≠ (s_.2 : Value).ownBlock ∧ k_ ≠ ab ∧ k_ ≠ aa) (.slice (some ad1358) l0.length c0) l0) ∧ (Kd.V (Kd.int .u32) 48 w' w.heap.size (fun k_ => (P0_ k_ ∨ w.heap.size ≤ k_) ∧ some k_ ≠ (s_.1 : Value).ownBlock ∧ some k_ ≠ (s_.2 : Value).ownBlock ∧ k_ ≠ ab ∧ k_ ≠ aa) (.slice bv aU.length bw) aU) ∧ (Kd.V (Kd.int .u32) 48 w' w.heap.size (fun k_ => (P0_ k_ ∨ w.heap.size ≤ k_) ∧ some k_ ≠ (s_.1 : Value).ownBlock ∧ some k_ ≠ (s_.2 : Value).ownBlock ∧ k_ ≠ ab ∧ k_ ≠ aa) (.slice AoX5 aN.length coX5) aN) ∧ (w'.heap[ab]? = some (.cells #[.bool false, .slice none 0 0, .slice none 0 0] 67 (0, 0))) ∧ (w'.heap[aa]? = some (.cells #[.bool aD, .slice aJ aq.length aK, .slice aH ap.length aI] 67 (0, 0))) ∧ (Below w.heap.size w w')) ?_ ?_
               rotate_left
               ·
                intro hJ7_12
                refine join_ (σ := Value × Nat) 5 #[true, true, true, true, true, true, true, true, false, true, true, true, false, false, false, true, false] (fun s_ => [(26, s_.1), (8, .pointer (some ⟨s_.2, 0, none⟩))]) (fun s_ w' => (w'.cell? ⟨aa, 0, none⟩ = some (.bool aD) ∧ w'.cell? ⟨aa, 1, none⟩ = some (.slice aJ aq.length aK) ∧ w'.cell? ⟨aa, 2, none⟩ = some (.slice aH ap.length aI)) ∧ (Kd.V (Kd.int .u32) 48 w' w.heap.size (fun k_ => (P0_ k_ ∨ w.heap.size ≤ k_) ∧ some k_ ≠ (s_.1 : Value).ownBlock ∧ k_ ≠ ab ∧ k_ ≠ aa ∧ k_ ≠ s_.2) (.slice aQ ((rd_T67 l0 aw).f1).length aR) ((rd_T67 l0 aw).f1)) ∧ (Kd.V (Kd.int .u32) 48 w' w.heap.size (fun k_ => (P0_ k_ ∨ w.heap.size ≤ k_) ∧ some k_ ≠ (s_.1 : Value).ownBlock ∧ k_ ≠ ab ∧ k_ ≠ aa ∧ k_ ≠ s_.2) (.slice aO ((rd_T67 l0 aw).f2).length aP) ((rd_T67 l0 aw).f2)) ∧ (Kd.V (Kd.int .u32) 48 w' w.heap.size (fun k_ => (P0_ k_ ∨ w.heap.size ≤ k_) ∧ some k_ ≠ (s_.1 : Value).ownBlock ∧ k_ ≠ ab ∧ k_ ≠ aa ∧ k_ ≠ s_.2) (.slice aJ aq.length aK) aq) ∧ (Kd.V (Kd.int .u32) 48 w' w.heap.size (fun k_ => (P0_ k_ ∨ w.heap.size ≤ k_) ∧ some k_ ≠ (s_.1 : Value).ownBlock ∧ k_ ≠ ab ∧ k_ ≠ aa ∧ k_ ≠ s_.2) (.slice aH ap.length aI) ap) ∧ (Kd.N (Kd.slice 48 (Kd.int .u32)) 42 w' w.heap.size (fun k_ => (P0_ k_ ∨ w.heap.size ≤ k_) ∧ k_ ≠ ab ∧ k_ ≠ aa ∧ k_ ≠ s_.2) s_.1 aL) ∧ (Kd.V k67 67 w' w.heap.size (fun k_ => (P0_ k_ ∨ w.heap.size ≤ k_) ∧ some k_ ≠ (s_.1 : Value).ownBlock ∧ k_ ≠ ab ∧ k_ ≠ aa ∧ k_ ≠ s_.2) (.slice (some ad1358) l0.length c0) l0) ∧ (Kd.V (Kd.int .u32) 48 w' w.heap.size (fun k_ => (P0_ k_ ∨ w.heap.size ≤ k_) ∧ some k_ ≠ (s_.1 : Value).ownBlock ∧ k_ ≠ ab ∧ k_ ≠ aa ∧ k_ ≠ s_.2) (.slice bv aU.length bw) aU) ∧ (Kd.V (Kd.int .u32) 48 w' w.heap.size (fun k_ => (P0_ k_ ∨ w.heap.size ≤ k_) ∧ some k_ ≠ (s_.1 : Value).ownBlock ∧ k_ ≠ ab ∧ k_ ≠ aa ∧ k_ ≠ s_.2) (.slice AoX5 aN.length coX5) aN) ∧ (w'.heap[ab]? = some (.cells #[.bool false, .slice none 0 0, .slice none 0 0] 67 (0, 0))) ∧ (w'.heap[aa]? = some (.cells #[.bool aD, .slice aJ aq.length aK, .slice aH ap.length aI] 67 (0, 0))) ∧ (w'.heap[s_.2]? = some (.cells #[.bool false, .slice none 0 0, .slice none 0 0] 67 (0, 0))) ∧ (w.heap.size ≤ s_.2) ∧ (w.heap.size ≤ s_.2) ∧ (ab ≠ s_.2) ∧ (s_.2 ≠ ab) ∧ (aa ≠ s_.2) ∧ (s_.2 ≠ aa) ∧ (Below w.heap.size w w')) ?_ ?_
                rotate_left
                ·
                 intro hJ7_15
                 refine join_ (σ := Value × Nat) 5 #[true, true, true, true, true, true, true, false, false, true, true, true, true, false, false, true, false] (fun s_ => [(31, s_.1), (8, .pointer (some ⟨s_.2, 0, none⟩))]) (fun s_ w' => (w'.cell? ⟨aa, 0, none⟩ = some (.bool aD) ∧ w'.cell? ⟨aa, 1, none⟩ = some (.slice aJ aq.length aK) ∧ w'.cell? ⟨aa, 2, none⟩ = some (.slice aH ap.length aI)) ∧ (Kd.V (Kd.int .u32) 48 w' w.heap.size (fun k_ => (P0_ k_ ∨ w.heap.size ≤ k_) ∧ some k_ ≠ (s_.1 : Value).ownBlock ∧ k_ ≠ ab ∧ k_ ≠ aa ∧ k_ ≠ s_.2) (.slice aQ ((rd_T67 l0 aw).f1).length aR) ((rd_T67 l0 aw).f1)) ∧ (Kd.V (Kd.int .u32) 48 w' w.heap.size (fun k_ => (P0_ k_ ∨ w.heap.size ≤ k_) ∧ some k_ ≠ (s_.1 : Value).ownBlock ∧ k_ ≠ ab ∧ k_ ≠ aa ∧ k_ ≠ s_.2) (.slice aO ((rd_T67 l0 aw).f2).length aP) ((rd_T67 l0 aw).f2)) ∧ (Kd.V (Kd.int .u32) 48 w' w.heap.size (fun k_ => (P0_ k_ ∨ w.heap.size ≤ k_) ∧ some k_ ≠ (s_.1 : Value).ownBlock ∧ k_ ≠ ab ∧ k_ ≠ aa ∧ k_ ≠ s_.2) (.slice aJ aq.length aK) aq) ∧ (Kd.V (Kd.int .u32) 48 w' w.heap.size (fun k_ => (P0_ k_ ∨ w.heap.size ≤ k_) ∧ some k_ ≠ (s_.1 : Value).ownBlock ∧ k_ ≠ ab ∧ k_ ≠ aa ∧ k_ ≠ s_.2) (.slice aH ap.length aI) ap) ∧ (Kd.N (Kd.slice 48 (Kd.int .u32)) 42 w' w.heap.size (fun k_ => (P0_ k_ ∨ w.heap.size ≤ k_) ∧ k_ ≠ ab ∧ k_ ≠ aa ∧ k_ ≠ s_.2) s_.1 a8) ∧ (Kd.V k67 67 w' w.heap.size (fun k_ => (P0_ k_ ∨ w.heap.size ≤ k_) ∧ some k_ ≠ (s_.1 : Value).ownBlock ∧ k_ ≠ ab ∧ k_ ≠ aa ∧ k_ ≠ s_.2) (.slice (some ad1358) l0.length c0) l0) ∧ (Kd.V (Kd.int .u32) 48 w' w.heap.size (fun k_ => (P0_ k_ ∨ w.heap.size ≤ k_) ∧ some k_ ≠ (s_.1 : Value).ownBlock ∧ k_ ≠ ab ∧ k_ ≠ aa ∧ k_ ≠ s_.2) (.slice bv aU.length bw) aU) ∧ (Kd.V (Kd.int .u32) 48 w' w.heap.size (fun k_ => (P0_ k_ ∨ w.heap.size ≤ k_) ∧ some k_ ≠ (s_.1 : Value).ownBlock ∧ k_ ≠ ab ∧ k_ ≠ aa ∧ k_ ≠ s_.2) (.slice AoX5 aN.length coX5) aN) ∧ (w'.heap[ab]? = some (.cells #[.bool false, .slice none 0 0, .slice none 0 0] 67 (0, 0))) ∧ (w'.heap[aa]? = some (.cells #[.bool aD, .slice aJ aq.length aK, .slice aH ap.length aI] 67 (0, 0))) ∧ (w'.heap[s_.2]? = some (.cells #[.bool false, .slice none 0 0, .slice none 0 0] 67 (0, 0))) ∧ (w.heap.size ≤ s_.2) ∧ (w.heap.size ≤ s_.2) ∧ (ab ≠ s_.2) ∧ (s_.2 ≠ ab) ∧ (aa ≠ s_.2) ∧ (s_.2 ≠ aa) ∧ (Below w.heap.size w w')) ?_ ?_
                 rotate_left
                 ·
                  intro hJ12_15
                  refine join_ (σ := Value) 6 #[true, true, true, true, true, true, true, true, false, true, true, true, false, false, false, false, false] (fun s_ => [(26, s_)]) (fun s_ w' => (w'.cell? ⟨aa, 0, none⟩ = some (.bool aD) ∧ w'.cell? ⟨aa, 1, none⟩ = some (.slice aJ aq.length aK) ∧ w'.cell? ⟨aa, 2, none⟩ = some (.slice aH ap.length aI)) ∧ (Kd.V (Kd.int .u32) 48 w' w.heap.size (fun k_ => (P0_ k_ ∨ w.heap.size ≤ k_) ∧ some k_ ≠ (s_ : Value).ownBlock ∧ k_ ≠ ab ∧ k_ ≠ aa) (.slice aQ ((rd_T67 l0 aw).f1).length aR) ((rd_T67 l0 aw).f1)) ∧ (Kd.V (Kd.int .u32) 48 w' w.heap.size (fun k_ => (P0_ k_ ∨ w.heap.size ≤ k_) ∧ some k_ ≠ (s_ : Value).ownBlock ∧ k_ ≠ ab ∧ k_ ≠ aa) (.slice aO ((rd_T67 l0 aw).f2).length aP) ((rd_T67 l0 aw).f2)) ∧ (Kd.V (Kd.int .u32) 48 w' w.heap.size (fun k_ => (P0_ k_ ∨ w.heap.size ≤ k_) ∧ some k_ ≠ (s_ : Value).ownBlock ∧ k_ ≠ ab ∧ k_ ≠ aa) (.slice aJ aq.length aK) aq) ∧ (Kd.V (Kd.int .u32) 48 w' w.heap.size (fun k_ => (P0_ k_ ∨ w.heap.size ≤ k_) ∧ some k_ ≠ (s_ : Value).ownBlock ∧ k_ ≠ ab ∧ k_ ≠ aa) (.slice aH ap.length aI) ap) ∧ (Kd.N (Kd.slice 48 (Kd.int .u32)) 42 w' w.heap.size (fun k_ => (P0_ k_ ∨ w.heap.size ≤ k_) ∧ k_ ≠ ab ∧ k_ ≠ aa) s_ aL) ∧ (Kd.V k67 67 w' w.heap.size (fun k_ => (P0_ k_ ∨ w.heap.size ≤ k_) ∧ some k_ ≠ (s_ : Value).ownBlock ∧ k_ ≠ ab ∧ k_ ≠ aa) (.slice (some ad1358) l0.length c0) l0) ∧ (Kd.V (Kd.int .u32) 48 w' w.heap.size (fun k_ => (P0_ k_ ∨ w.heap.size ≤ k_) ∧ some k_ ≠ (s_ : Value).ownBlock ∧ k_ ≠ ab ∧ k_ ≠ aa) (.slice bv aU.length bw) aU) ∧ (Kd.V (Kd.int .u32) 48 w' w.heap.size (fun k_ => (P0_ k_ ∨ w.heap.size ≤ k_) ∧ some k_ ≠ (s_ : Value).ownBlock ∧ k_ ≠ ab ∧ k_ ≠ aa) (.slice AoX5 aN.length coX5) aN) ∧ (w'.heap[ab]? = some (.cells #[.bool false, .slice none 0 0, .slice none 0 0] 67 (0, 0))) ∧ (w'.heap[aa]? = some (.cells #[.bool aD, .slice aJ aq.length aK, .slice aH ap.length aI] 67 (0, 0))) ∧ (Below w.heap.size w w')) ?_ ?_
                  rotate_left
                  ·
                   intro hJ7
                   refine join_ (σ := Value) 6 #[true, true, true, true, true, true, true, false, false, true, true, true, true, false, false, false, false] (fun s_ => [(31, s_)]) (fun s_ w' => (w'.cell? ⟨aa, 0, none⟩ = some (.bool aD) ∧ w'.cell? ⟨aa, 1, none⟩ = some (.slice aJ aq.length aK) ∧ w'.cell? ⟨aa, 2, none⟩ = some (.slice aH ap.length aI)) ∧ (Kd.V (Kd.int .u32) 48 w' w.heap.size (fun k_ => (P0_ k_ ∨ w.heap.size ≤ k_) ∧ some k_ ≠ (s_ : Value).ownBlock ∧ k_ ≠ ab ∧ k_ ≠ aa) (.slice aQ ((rd_T67 l0 aw).f1).length aR) ((rd_T67 l0 aw).f1)) ∧ (Kd.V (Kd.int .u32) 48 w' w.heap.size (fun k_ => (P0_ k_ ∨ w.heap.size ≤ k_) ∧ some k_ ≠ (s_ : Value).ownBlock ∧ k_ ≠ ab ∧ k_ ≠ aa) (.slice aO ((rd_T67 l0 aw).f2).length aP) ((rd_T67 l0 aw).f2)) ∧ (Kd.V (Kd.int .u32) 48 w' w.heap.size (fun k_ => (P0_ k_ ∨ w.heap.size ≤ k_) ∧ some k_ ≠ (s_ : Value).ownBlock ∧ k_ ≠ ab ∧ k_ ≠ aa) (.slice aJ aq.length aK) aq) ∧ (Kd.V (Kd.int .u32) 48 w' w.heap.size (fun k_ => (P0_ k_ ∨ w.heap.size ≤ k_) ∧ some k_ ≠ (s_ : Value).ownBlock ∧ k_ ≠ ab ∧ k_ ≠ aa) (.slice aH ap.length aI) ap) ∧ (Kd.N (Kd.slice 48 (Kd.int .u32)) 42 w' w.heap.size (fun k_ => (P0_ k_ ∨ w.heap.size ≤ k_) ∧ k_ ≠ ab ∧ k_ ≠ aa) s_ a8) ∧ (Kd.V k67 67 w' w.heap.size (fun k_ => (P0_ k_ ∨ w.heap.size ≤ k_) ∧ some k_ ≠ (s_ : Value).ownBlock ∧ k_ ≠ ab ∧ k_ ≠ aa) (.slice (some ad1358) l0.length c0) l0) ∧ (Kd.V (Kd.int .u32) 48 w' w.heap.size (fun k_ => (P0_ k_ ∨ w.heap.size ≤ k_) ∧ some k_ ≠ (s_ : Value).ownBlock ∧ k_ ≠ ab ∧ k_ ≠ aa) (.slice bv aU.length bw) aU) ∧ (Kd.V (Kd.int .u32) 48 w' w.heap.size (fun k_ => (P0_ k_ ∨ w.heap.size ≤ k_) ∧ some k_ ≠ (s_ : Value).ownBlock ∧ k_ ≠ ab ∧ k_ ≠ aa) (.slice AoX5 aN.length coX5) aN) ∧ (w'.heap[ab]? = some (.cells #[.bool false, .slice none 0 0, .slice none 0 0] 67 (0, 0))) ∧ (w'.heap[aa]? = some (.cells #[.bool aD, .slice aJ aq.length aK, .slice aH ap.length aI] 67 (0, 0))) ∧ (Below w.heap.size w w')) ?_ ?_
                   rotate_left
                   ·
                    intro hJ12
                    refine join_ (σ := Nat) 6 #[true, true, true, true, true, true, true, false, false, true, true, true, false, false, false, true, false] (fun s_ => [(8, .pointer (some ⟨s_, 0, none⟩))]) (fun s_ w' => (w'.cell? ⟨aa, 0, none⟩ = some (.bool aD) ∧ w'.cell? ⟨aa, 1, none⟩ = some (.slice aJ aq.length aK) ∧ w'.cell? ⟨aa, 2, none⟩ = some (.slice aH ap.length aI)) ∧ (Kd.V (Kd.int .u32) 48 w' w.heap.size (fun k_ => (P0_ k_ ∨ w.heap.size ≤ k_) ∧ k_ ≠ ab ∧ k_ ≠ aa ∧ k_ ≠ s_) (.slice aQ ((rd_T67 l0 aw).f1).length aR) ((rd_T67 l0 aw).f1)) ∧ (Kd.V (Kd.int .u32) 48 w' w.heap.size (fun k_ => (P0_ k_ ∨ w.heap.size ≤ k_) ∧ k_ ≠ ab ∧ k_ ≠ aa ∧ k_ ≠ s_) (.slice aO ((rd_T67 l0 aw).f2).length aP) ((rd_T67 l0 aw).f2)) ∧ (Kd.V (Kd.int .u32) 48 w' w.heap.size (fun k_ => (P0_ k_ ∨ w.heap.size ≤ k_) ∧ k_ ≠ ab ∧ k_ ≠ aa ∧ k_ ≠ s_) (.slice aJ aq.length aK) aq) ∧ (Kd.V (Kd.int .u32) 48 w' w.heap.size (fun k_ => (P0_ k_ ∨ w.heap.size ≤ k_) ∧ k_ ≠ ab ∧ k_ ≠ aa ∧ k_ ≠ s_) (.slice aH ap.length aI) ap) ∧ (Kd.V k67 67 w' w.heap.size (fun k_ => (P0_ k_ ∨ w.heap.size ≤ k_) ∧ k_ ≠ ab ∧ k_ ≠ aa ∧ k_ ≠ s_) (.slice (some ad1358) l0.length c0) l0) ∧ (Kd.V (Kd.int .u32) 48 w' w.heap.size (fun k_ => (P0_ k_ ∨ w.heap.size ≤ k_) ∧ k_ ≠ ab ∧ k_ ≠ aa ∧ k_ ≠ s_) (.slice bv aU.length bw) aU) ∧ (Kd.V (Kd.int .u32) 48 w' w.heap.size (fun k_ => (P0_ k_ ∨ w.heap.size ≤ k_) ∧ k_ ≠ ab ∧ k_ ≠ aa ∧ k_ ≠ s_) (.slice AoX5 aN.length coX5) aN) ∧ (w'.heap[ab]? = some (.cells #[.bool false, .slice none 0 0, .slice none 0 0] 67 (0, 0))) ∧ (w'.heap[aa]? = some (.cells #[.bool aD, .slice aJ aq.length aK, .slice aH ap.length aI] 67 (0, 0))) ∧ (w'.heap[s_]? = some (.cells #[.bool false, .slice none 0 0, .slice none 0 0] 67 (0, 0))) ∧ (w.heap.size ≤ s_) ∧ (w.heap.size ≤ s_) ∧ (ab ≠ s_) ∧ (s_ ≠ ab) ∧ (aa ≠ s_) ∧ (s_ ≠ aa) ∧ (Below w.heap.size w w')) ?_ ?_
                    rotate_left
                    ·
                     intro hJ15
                     refine three_ (i := 7) (j := 12) (k := 15) (Ni := some 26) (Nj := some 31) (Nk := some 8) #[true, true, true, true, true, true, true, true, false, true, true, true, false, false, false, false, false] #[true, true, true, true, true, true, true, false, false, true, true, true, true, false, false, false, false] #[true, true, true, true, true, true, true, false, false, true, true, true, false, false, false, true, false] rfl rfl rfl rfl rfl rfl (three_of HT_.out (by kernel_rfl)) (by decide) (by decide) (by decide) (fun K hK => ?_) (fun K hK => ?_) (fun K hK => ?_)
                     ·
                      skip
                      refine Kd.N_lit_step (Kd.slice 48 (Kd.int .u32)) _ 42 ?hg (N' := 26) ?hd (xs := ([aU, aq] : List (List Int))) (inner := [.slice bv aU.length bw, .slice aJ aq.length aK]) (ok := (fun k_ => (P0_ k_ ∨ w.heap.size ≤ k_) ∧ k_ ≠ ab ∧ k_ ≠ aa)) (okp := (fun k_ => (P0_ k_ ∨ w.heap.size ≤ k_) ∧ k_ ≠ ab ∧ k_ ≠ aa)) ?hr ?hp (fun _ hk => hk) ((show ∀ k_, dX.heap.size ≤ k_ → (fun k_ => (P0_ k_ ∨ w.heap.size ≤ k_) ∧ k_ ≠ ab ∧ k_ ≠ aa) k_ from fun k_ hk => ⟨(.inr (Nat.le_trans (below_size (bu2 HB.out aj.out al.out)) hk)), Kd.freshB (g := ab) (o := .cells #[.bool false, .slice none 0 0, .slice none 0 0] 67 (0, 0)) (ku ag.out) k_ hk, Kd.freshB (g := aa) (o := .cells #[.bool aD, .slice aJ aq.length aK, .slice aH ap.length aI] 67 (0, 0)) (ku ac.out) k_ hk⟩) _ (Nat.le_refl _)) (Below.refl _ _) (Nat.le_refl _) (by simp) ?_; (case hd => rfl); (case hg => rfl); (case hr => first | (go_simp; done) | (go_simp; rfl)); (case hp => exact (Reps.one (show Kd.FK (Kd.slice 48 (Kd.int .u32)) _ _ aU [.slice bv aU.length bw] from (Kd.FK_slice_mk (Kd.V_reads' (vy ((fun k_ => (P0_ k_ ∨ w.heap.size ≤ k_) ∧ k_ ≠ ab ∧ k_ ≠ aa)) aC.out)).2.1 (Kd.V_F (vy ((fun k_ => (P0_ k_ ∨ w.heap.size ≤ k_) ∧ k_ ≠ ab ∧ k_ ≠ aa)) aC.out)))) (Reps.one (show Kd.FK (Kd.slice 48 (Kd.int .u32)) _ _ aq [.slice aJ aq.length aK] from (Kd.FK_slice_mk (Kd.V_reads' (vy ((fun k_ => (P0_ k_ ∨ w.heap.size ≤ k_) ∧ k_ ≠ ab ∧ k_ ≠ aa)) ai.out)).2.1 (Kd.V_F (vy ((fun k_ => (P0_ k_ ∨ w.heap.size ≤ k_) ∧ k_ ≠ ab ∧ k_ ≠ aa)) ai.out)))) (Reps.none _ _))))
                      intro aG cr bq hb hg_ hnew_
                      clear hg_ hnew_
                      (first | rw [← bG.out] at bq | (simp only [Int.reduceToNat] at bq; rw [← bG.out] at bq))
                      replace aC := el aC bq hb
                      replace aB := el aB bq hb
                      replace ao := el ao bq hb
                      replace ad := el ad bq hb
                      replace ae := el ae bq hb
                      replace ai := el ai bq hb
                      replace ah := el ah bq hb
                      have an := am (Kd.N_lower bq (below_size (bu2 HB.out aj.out al.out)))
                      replace ag := kb ag hb
                      replace ac := kb ac hb
                      replace HB := be2 HB aj al hb
                      clear hb bq
                      refine hK.out _ _ ⟨bc ac 0, bc ac 1, bc ac 2⟩ (fun hHeld => ?_)
                      clear hK K
                      refine nq 26 ?_
                      exact norm_ (by first | (simp only [putAll, Act.put, List.setIfInBounds_toArray, List.set_cons_zero, List.set_cons_succ]; done) | (simp only [putAll, Act.put, List.setIfInBounds_toArray, List.set_cons_zero, List.set_cons_succ]; rfl)) (hJ7 (aG) _ ⟨hHeld, (vz ad.out), (vz ae.out), (vz ai.out), (vz ah.out), (nu an.out), (vz ao.out), (vz aC.out), (vz aB.out), (ku ag.out), (ku ac.out), (bu2 HB.out aj.out al.out)⟩)
                     ·
                      skip
                      refine Kd.N_lit_step (Kd.slice 48 (Kd.int .u32)) _ 42 ?hg (N' := 31) ?hd (xs := ([aN, ap] : List (List Int))) (inner := [.slice AoX5 aN.length coX5, .slice aH ap.length aI]) (ok := (fun k_ => (P0_ k_ ∨ w.heap.size ≤ k_) ∧ k_ ≠ ab ∧ k_ ≠ aa)) (okp := (fun k_ => (P0_ k_ ∨ w.heap.size ≤ k_) ∧ k_ ≠ ab ∧ k_ ≠ aa)) ?hr ?hp (fun _ hk => hk) ((show ∀ k_, dX.heap.size ≤ k_ → (fun k_ => (P0_ k_ ∨ w.heap.size ≤ k_) ∧ k_ ≠ ab ∧ k_ ≠ aa) k_ from fun k_ hk => ⟨(.inr (Nat.le_trans (below_size (bu2 HB.out aj.out al.out)) hk)), Kd.freshB (g := ab) (o := .cells #[.bool false, .slice none 0 0, .slice none 0 0] 67 (0, 0)) (ku ag.out) k_ hk, Kd.freshB (g := aa) (o := .cells #[.bool aD, .slice aJ aq.length aK, .slice aH ap.length aI] 67 (0, 0)) (ku ac.out) k_ hk⟩) _ (Nat.le_refl _)) (Below.refl _ _) (Nat.le_refl _) (by simp) ?_; (case hd => rfl); (case hg => rfl); (case hr => first | (go_simp; done) | (go_simp; rfl)); (case hp => exact (Reps.one (show Kd.FK (Kd.slice 48 (Kd.int .u32)) _ _ aN [.slice AoX5 aN.length coX5] from (Kd.FK_slice_mk (Kd.V_reads' (vy ((fun k_ => (P0_ k_ ∨ w.heap.size ≤ k_) ∧ k_ ≠ ab ∧ k_ ≠ aa)) aB.out)).2.1 (Kd.V_F (vy ((fun k_ => (P0_ k_ ∨ w.heap.size ≤ k_) ∧ k_ ≠ ab ∧ k_ ≠ aa)) aB.out)))) (Reps.one (show Kd.FK (Kd.slice 48 (Kd.int .u32)) _ _ ap [.slice aH ap.length aI] from (Kd.FK_slice_mk (Kd.V_reads' (vy ((fun k_ => (P0_ k_ ∨ w.heap.size ≤ k_) ∧ k_ ≠ ab ∧ k_ ≠ aa)) ah.out)).2.1 (Kd.V_F (vy ((fun k_ => (P0_ k_ ∨ w.heap.size ≤ k_) ∧ k_ ≠ ab ∧ k_ ≠ aa)) ah.out)))) (Reps.none _ _))))
                      intro aF cr bq hb hg_ hnew_
                      clear hg_ hnew_
                      (first | rw [← bp.out] at bq | (simp only [Int.reduceToNat] at bq; rw [← bp.out] at bq))
                      replace aC := el aC bq hb
                      replace aB := el aB bq hb
                      replace ao := el ao bq hb
                      replace ad := el ad bq hb
                      replace ae := el ae bq hb
                      replace ai := el ai bq hb
                      replace ah := el ah bq hb
                      have av := am (Kd.N_lower bq (below_size (bu2 HB.out aj.out al.out)))
                      replace ag := kb ag hb
                      replace ac := kb ac hb
                      replace HB := be2 HB aj al hb
                      clear hb bq
                      refine hK.out _ _ ⟨bc ac 0, bc ac 1, bc ac 2⟩ (fun hHeld => ?_)
                      clear hK K
                      refine nq 31 ?_
                      exact norm_ (by first | (simp only [putAll, Act.put, List.setIfInBounds_toArray, List.set_cons_zero, List.set_cons_succ]; done) | (simp only [putAll, Act.put, List.setIfInBounds_toArray, List.set_cons_zero, List.set_cons_succ]; rfl)) (hJ12 (aF) _ ⟨hHeld, (vz ad.out), (vz ae.out), (vz ai.out), (vz ah.out), (nu av.out), (vz ao.out), (vz aC.out), (vz aB.out), (ku ag.out), (ku ac.out), (bu2 HB.out aj.out al.out)⟩)
                     ·
                      skip
                      refine box_step ?hg (N := 8) ?hd (cs := #[.bool false, .slice none 0 0, .slice none 0 0]) (t := 67) ?hr ?_; (case hd => rfl); (case hg => rfl); (case hr => first | (go_simp; done) | (go_simp; rfl))
                      intro af hg d6 hbox hb
                      replace aC := ke aC hg hb
                      replace aB := ke aB hg hb
                      replace ao := ke ao hg hb
                      replace ad := ke ad hg hb
                      replace ae := ke ae hg hb
                      replace ai := ke ai hg hb
                      replace ah := ke ah hg hb
                      have az := am (hbox)
                      have aM := ng hg (bu2 HB.out aj.out al.out)
                      have aA := ng hg (bu2 HB.out aj.out al.out)
                      replace HB := be2 HB aj al hb
                      have au := nl hg ag
                      have ax := nr hg ag
                      replace ag := kb ag hb
                      have ak := nl hg ac
                      have ay := nr hg ac
                      replace ac := kb ac hb
                      clear hb hbox hg
                      refine hK.out _ _ ⟨bc ac 0, bc ac 1, bc ac 2⟩ (fun hHeld => ?_)
                      clear hK K
                      refine nq 8 ?_
                      exact norm_ (by first | (simp only [putAll, Act.put, List.setIfInBounds_toArray, List.set_cons_zero, List.set_cons_succ]; done) | (simp only [putAll, Act.put, List.setIfInBounds_toArray, List.set_cons_zero, List.set_cons_succ]; rfl)) (hJ15 (af) _ ⟨hHeld, (vz ad.out), (vz ae.out), (vz ai.out), (vz ah.out), (vz ao.out), (vz aC.out), (vz aB.out), (ku ag.out), (ku ac.out), (ku az.out), aM.out, aA.out, au.out, ax.out, ak.out, ay.out, (bu3 HB.out aj.out al.out aA.out)⟩)
                    ·
                     skip
                     rintro af cr ⟨hS_, a9, ba, bb, bd, bf, bg, bh, bi, bj, bk, aS, aV, aZ, a0, a1, a2, a6⟩
                     (try dsimp -simprocs only at a9 ba bb bd bf bg bh bi bj bk aS aV aZ a0 a1 a2 a6)
                     clear aC aB ao ad ae ai ah ag ac HB
                     have ad := Aside0.mk a9
                     have ae := Aside0.mk ba
                     have ai := Aside0.mk bb
                     have ah := Aside0.mk bd
                     have ao := Aside0.mk bf
                     have aC := Aside0.mk bg
                     have aB := Aside0.mk bh
                     have ag := Aside0.mk bi
                     have ac := Aside0.mk bj
                     have az := Aside0.mk bk
                     have aM := Aside0.mk aS
                     have aA := Aside0.mk aV
                     have au := Aside0.mk aZ
                     have ax := Aside0.mk a0
                     have ak := Aside0.mk a1
                     have ay := Aside0.mk a2
                     have HB := Aside0.mk a6
                     clear a9 ba bb bd bf bg bh bi bj bk aS aV aZ a0 a1 a2 a6
                     have hHeld : cr.cell? ⟨aa, 0, none⟩ = some (.bool aD) ∧ cr.cell? ⟨aa, 1, none⟩ = some (.slice aJ aq.length aK) ∧ cr.cell? ⟨aa, 2, none⟩ = some (.slice aH ap.length aI) := hS_
                     refine norm_ (a' := ?_) ?_ ?_
                     rotate_left
                     ·
                      simp only [putAll, Act.put, List.setIfInBounds_toArray, List.set_cons_zero, List.set_cons_succ]
                      rfl
                     refine two_ (i := 7) (j := 12) (Ni := some 26) (Nj := some 31) #[true, true, true, true, true, true, true, true, false, true, true, true, false, false, false, true, false] #[true, true, true, true, true, true, true, false, false, true, true, true, true, false, false, true, false] rfl rfl rfl rfl (two_of HT_.out (by kernel_rfl)) (by decide) (by decide) (fun K hK => ?_) (fun K hK => ?_)
                     ·
                      skip
                      refine Kd.N_lit_step (Kd.slice 48 (Kd.int .u32)) _ 42 ?hg (N' := 26) ?hd (xs := ([aU, aq] : List (List Int))) (inner := [.slice bv aU.length bw, .slice aJ aq.length aK]) (ok := (fun k_ => (P0_ k_ ∨ w.heap.size ≤ k_) ∧ k_ ≠ ab ∧ k_ ≠ aa ∧ k_ ≠ af)) (okp := (fun k_ => (P0_ k_ ∨ w.heap.size ≤ k_) ∧ k_ ≠ ab ∧ k_ ≠ aa ∧ k_ ≠ af)) ?hr ?hp (fun _ hk => hk) ((show ∀ k_, cr.heap.size ≤ k_ → (fun k_ => (P0_ k_ ∨ w.heap.size ≤ k_) ∧ k_ ≠ ab ∧ k_ ≠ aa ∧ k_ ≠ af) k_ from fun k_ hk => ⟨(.inr (Nat.le_trans (below_size (bu3 HB.out aj.out al.out aA.out)) hk)), Kd.freshB (g := ab) (o := .cells #[.bool false, .slice none 0 0, .slice none 0 0] 67 (0, 0)) (ku ag.out) k_ hk, Kd.freshB (g := aa) (o := .cells #[.bool aD, .slice aJ aq.length aK, .slice aH ap.length aI] 67 (0, 0)) (ku ac.out) k_ hk, Kd.freshB (g := af) (o := .cells #[.bool false, .slice none 0 0, .slice none 0 0] 67 (0, 0)) (ku az.out) k_ hk⟩) _ (Nat.le_refl _)) (Below.refl _ _) (Nat.le_refl _) (by simp) ?_; (case hd => rfl); (case hg => rfl); (case hr => first | (go_simp; done) | (go_simp; rfl)); (case hp => exact (Reps.one (show Kd.FK (Kd.slice 48 (Kd.int .u32)) _ _ aU [.slice bv aU.length bw] from (Kd.FK_slice_mk (Kd.V_reads' (vy ((fun k_ => (P0_ k_ ∨ w.heap.size ≤ k_) ∧ k_ ≠ ab ∧ k_ ≠ aa ∧ k_ ≠ af)) aC.out)).2.1 (Kd.V_F (vy ((fun k_ => (P0_ k_ ∨ w.heap.size ≤ k_) ∧ k_ ≠ ab ∧ k_ ≠ aa ∧ k_ ≠ af)) aC.out)))) (Reps.one (show Kd.FK (Kd.slice 48 (Kd.int .u32)) _ _ aq [.slice aJ aq.length aK] from (Kd.FK_slice_mk (Kd.V_reads' (vy ((fun k_ => (P0_ k_ ∨ w.heap.size ≤ k_) ∧ k_ ≠ ab ∧ k_ ≠ aa ∧ k_ ≠ af)) ai.out)).2.1 (Kd.V_F (vy ((fun k_ => (P0_ k_ ∨ w.heap.size ≤ k_) ∧ k_ ≠ ab ∧ k_ ≠ aa ∧ k_ ≠ af)) ai.out)))) (Reps.none _ _))))
                      intro aG b6 br hb hg_ hnew_
                      clear hg_ hnew_
                      (first | rw [← bG.out] at br | (simp only [Int.reduceToNat] at br; rw [← bG.out] at br))
                      replace aC := el aC br hb
                      replace aB := el aB br hb
                      replace ao := el ao br hb
                      replace ad := el ad br hb
                      replace ae := el ae br hb
                      replace ai := el ai br hb
                      replace ah := el ah br hb
                      have an := am (Kd.N_lower br (below_size (bu3 HB.out aj.out al.out aA.out)))
                      replace ag := kb ag hb
                      replace ac := kb ac hb
                      replace az := kb az hb
                      replace HB := be3 HB aj al aA hb
                      clear hb br
                      refine hK.out _ _ ⟨bc ac 0, bc ac 1, bc ac 2⟩ (fun hHeld => ?_)
                      clear hK K
                      refine nq 26 ?_
                      exact norm_ (by first | (simp only [putAll, Act.put, List.setIfInBounds_toArray, List.set_cons_zero, List.set_cons_succ]; done) | (simp only [putAll, Act.put, List.setIfInBounds_toArray, List.set_cons_zero, List.set_cons_succ]; rfl)) (hJ7_15 (aG, af) _ ⟨hHeld, (vz ad.out), (vz ae.out), (vz ai.out), (vz ah.out), (nu an.out), (vz ao.out), (vz aC.out), (vz aB.out), (ku ag.out), (ku ac.out), (ku az.out), aM.out, aA.out, au.out, ax.out, ak.out, ay.out, (bu3 HB.out aj.out al.out aA.out)⟩)
                     ·
                      skip
                      refine Kd.N_lit_step (Kd.slice 48 (Kd.int .u32)) _ 42 ?hg (N' := 31) ?hd (xs := ([aN, ap] : List (List Int))) (inner := [.slice AoX5 aN.length coX5, .slice aH ap.length aI]) (ok := (fun k_ => (P0_ k_ ∨ w.heap.size ≤ k_) ∧ k_ ≠ ab ∧ k_ ≠ aa ∧ k_ ≠ af)) (okp := (fun k_ => (P0_ k_ ∨ w.heap.size ≤ k_) ∧ k_ ≠ ab ∧ k_ ≠ aa ∧ k_ ≠ af)) ?hr ?hp (fun _ hk => hk) ((show ∀ k_, cr.heap.size ≤ k_ → (fun k_ => (P0_ k_ ∨ w.heap.size ≤ k_) ∧ k_ ≠ ab ∧ k_ ≠ aa ∧ k_ ≠ af) k_ from fun k_ hk => ⟨(.inr (Nat.le_trans (below_size (bu3 HB.out aj.out al.out aA.out)) hk)), Kd.freshB (g := ab) (o := .cells #[.bool false, .slice none 0 0, .slice none 0 0] 67 (0, 0)) (ku ag.out) k_ hk, Kd.freshB (g := aa) (o := .cells #[.bool aD, .slice aJ aq.length aK, .slice aH ap.length aI] 67 (0, 0)) (ku ac.out) k_ hk, Kd.freshB (g := af) (o := .cells #[.bool false, .slice none 0 0, .slice none 0 0] 67 (0, 0)) (ku az.out) k_ hk⟩) _ (Nat.le_refl _)) (Below.refl _ _) (Nat.le_refl _) (by simp) ?_; (case hd => rfl); (case hg => rfl); (case hr => first | (go_simp; done) | (go_simp; rfl)); (case hp => exact (Reps.one (show Kd.FK (Kd.slice 48 (Kd.int .u32)) _ _ aN [.slice AoX5 aN.length coX5] from (Kd.FK_slice_mk (Kd.V_reads' (vy ((fun k_ => (P0_ k_ ∨ w.heap.size ≤ k_) ∧ k_ ≠ ab ∧ k_ ≠ aa ∧ k_ ≠ af)) aB.out)).2.1 (Kd.V_F (vy ((fun k_ => (P0_ k_ ∨ w.heap.size ≤ k_) ∧ k_ ≠ ab ∧ k_ ≠ aa ∧ k_ ≠ af)) aB.out)))) (Reps.one (show Kd.FK (Kd.slice 48 (Kd.int .u32)) _ _ ap [.slice aH ap.length aI] from (Kd.FK_slice_mk (Kd.V_reads' (vy ((fun k_ => (P0_ k_ ∨ w.heap.size ≤ k_) ∧ k_ ≠ ab ∧ k_ ≠ aa ∧ k_ ≠ af)) ah.out)).2.1 (Kd.V_F (vy ((fun k_ => (P0_ k_ ∨ w.heap.size ≤ k_) ∧ k_ ≠ ab ∧ k_ ≠ aa ∧ k_ ≠ af)) ah.out)))) (Reps.none _ _))))
                      intro aF b6 br hb hg_ hnew_
                      clear hg_ hnew_
                      (first | rw [← bp.out] at br | (simp only [Int.reduceToNat] at br; rw [← bp.out] at br))
                      replace aC := el aC br hb
                      replace aB := el aB br hb
                      replace ao := el ao br hb
                      replace ad := el ad br hb
                      replace ae := el ae br hb
                      replace ai := el ai br hb
                      replace ah := el ah br hb
                      have av := am (Kd.N_lower br (below_size (bu3 HB.out aj.out al.out aA.out)))
                      replace ag := kb ag hb
                      replace ac := kb ac hb
                      replace az := kb az hb
                      replace HB := be3 HB aj al aA hb
                      clear hb br
                      refine hK.out _ _ ⟨bc ac 0, bc ac 1, bc ac 2⟩ (fun hHeld => ?_)
                      clear hK K
                      refine nq 31 ?_
                      exact norm_ (by first | (simp only [putAll, Act.put, List.setIfInBounds_toArray, List.set_cons_zero, List.set_cons_succ]; done) | (simp only [putAll, Act.put, List.setIfInBounds_toArray, List.set_cons_zero, List.set_cons_succ]; rfl)) (hJ12_15 (aF, af) _ ⟨hHeld, (vz ad.out), (vz ae.out), (vz ai.out), (vz ah.out), (nu av.out), (vz ao.out), (vz aC.out), (vz aB.out), (ku ag.out), (ku ac.out), (ku az.out), aM.out, aA.out, au.out, ax.out, ak.out, ay.out, (bu3 HB.out aj.out al.out aA.out)⟩)
                   ·
                    skip
                    rintro aF b6 ⟨hS_, a9, ba, bb, bd, bf, bg, bh, bi, bj, bk, aS⟩
                    (try dsimp -simprocs only at a9 ba bb bd bf bg bh bi bj bk aS)
                    clear aC aB ao ad ae ai ah ag ac HB
                    have ad := Aside0.mk a9
                    have ae := Aside0.mk ba
                    have ai := Aside0.mk bb
                    have ah := Aside0.mk bd
                    have av := Aside0.mk bf
                    have ao := Aside0.mk bg
                    have aC := Aside0.mk bh
                    have aB := Aside0.mk bi
                    have ag := Aside0.mk bj
                    have ac := Aside0.mk bk
                    have HB := Aside0.mk aS
                    clear a9 ba bb bd bf bg bh bi bj bk aS
                    have hHeld : b6.cell? ⟨aa, 0, none⟩ = some (.bool aD) ∧ b6.cell? ⟨aa, 1, none⟩ = some (.slice aJ aq.length aK) ∧ b6.cell? ⟨aa, 2, none⟩ = some (.slice aH ap.length aI) := hS_
                    refine norm_ (a' := ?_) ?_ ?_
                    rotate_left
                    ·
                     simp only [putAll, Act.put, List.setIfInBounds_toArray, List.set_cons_zero, List.set_cons_succ]
                     rfl
                    refine two_ (i := 7) (j := 15) (Ni := some 26) (Nj := some 8) #[true, true, true, true, true, true, true, true, false, true, true, true, true, false, false, false, false] #[true, true, true, true, true, true, true, false, false, true, true, true, true, false, false, true, false] rfl rfl rfl rfl (two_of HT_.out (by kernel_rfl)) (by decide) (by decide) (fun K hK => ?_) (fun K hK => ?_)
                    ·
                     skip
                     refine Kd.N_lit_step (Kd.slice 48 (Kd.int .u32)) _ 42 ?hg (N' := 26) ?hd (xs := ([aU, aq] : List (List Int))) (inner := [.slice bv aU.length bw, .slice aJ aq.length aK]) (ok := (fun k_ => (P0_ k_ ∨ w.heap.size ≤ k_) ∧ some k_ ≠ (aF : Value).ownBlock ∧ k_ ≠ ab ∧ k_ ≠ aa)) (okp := (fun k_ => (P0_ k_ ∨ w.heap.size ≤ k_) ∧ some k_ ≠ (aF : Value).ownBlock ∧ k_ ≠ ab ∧ k_ ≠ aa)) ?hr ?hp (fun _ hk => hk) ((show ∀ k_, b6.heap.size ≤ k_ → (fun k_ => (P0_ k_ ∨ w.heap.size ≤ k_) ∧ some k_ ≠ (aF : Value).ownBlock ∧ k_ ≠ ab ∧ k_ ≠ aa) k_ from fun k_ hk => ⟨(.inr (Nat.le_trans (below_size (bu2 HB.out aj.out al.out)) hk)), Kd.fresh' (Kd.N_lt (nu av.out)) k_ hk, Kd.freshB (g := ab) (o := .cells #[.bool false, .slice none 0 0, .slice none 0 0] 67 (0, 0)) (ku ag.out) k_ hk, Kd.freshB (g := aa) (o := .cells #[.bool aD, .slice aJ aq.length aK, .slice aH ap.length aI] 67 (0, 0)) (ku ac.out) k_ hk⟩) _ (Nat.le_refl _)) (Below.refl _ _) (Nat.le_refl _) (by simp) ?_; (case hd => rfl); (case hg => rfl); (case hr => first | (go_simp; done) | (go_simp; rfl)); (case hp => exact (Reps.one (show Kd.FK (Kd.slice 48 (Kd.int .u32)) _ _ aU [.slice bv aU.length bw] from (Kd.FK_slice_mk (Kd.V_reads' (vy ((fun k_ => (P0_ k_ ∨ w.heap.size ≤ k_) ∧ some k_ ≠ (aF : Value).ownBlock ∧ k_ ≠ ab ∧ k_ ≠ aa)) aC.out)).2.1 (Kd.V_F (vy ((fun k_ => (P0_ k_ ∨ w.heap.size ≤ k_) ∧ some k_ ≠ (aF : Value).ownBlock ∧ k_ ≠ ab ∧ k_ ≠ aa)) aC.out)))) (Reps.one (show Kd.FK (Kd.slice 48 (Kd.int .u32)) _ _ aq [.slice aJ aq.length aK] from (Kd.FK_slice_mk (Kd.V_reads' (vy ((fun k_ => (P0_ k_ ∨ w.heap.size ≤ k_) ∧ some k_ ≠ (aF : Value).ownBlock ∧ k_ ≠ ab ∧ k_ ≠ aa)) ai.out)).2.1 (Kd.V_F (vy ((fun k_ => (P0_ k_ ∨ w.heap.size ≤ k_) ∧ some k_ ≠ (aF : Value).ownBlock ∧ k_ ≠ ab ∧ k_ ≠ aa)) ai.out)))) (Reps.none _ _))))
                     intro aG ct bl hb hg_ hnew_
                     clear hg_ hnew_
                     (first | rw [← bG.out] at bl | (simp only [Int.reduceToNat] at bl; rw [← bG.out] at bl))
                     replace aC := el aC bl hb
                     replace aB := el aB bl hb
                     replace ao := el ao bl hb
                     replace ad := el ad bl hb
                     replace ae := el ae bl hb
                     replace ai := el ai bl hb
                     replace ah := el ah bl hb
                     replace av := en av bl hb
                     have an := am (Kd.N_lower bl (below_size (bu2 HB.out aj.out al.out)))
                     replace ag := kb ag hb
                     replace ac := kb ac hb
                     replace HB := be2 HB aj al hb
                     clear hb bl
                     refine hK.out _ _ ⟨bc ac 0, bc ac 1, bc ac 2⟩ (fun hHeld => ?_)
                     clear hK K
                     refine nq 26 ?_
                     exact norm_ (by first | (simp only [putAll, Act.put, List.setIfInBounds_toArray, List.set_cons_zero, List.set_cons_succ]; done) | (simp only [putAll, Act.put, List.setIfInBounds_toArray, List.set_cons_zero, List.set_cons_succ]; rfl)) (hJ7_12 (aG, aF) _ ⟨hHeld, (vz ad.out), (vz ae.out), (vz ai.out), (vz ah.out), (nu an.out), (by (with_reducible repeat (first | apply Kd.N_alloc | apply Kd.N_drewN | apply Kd.N_drew)); exact Kd.N_mono av.out (fun _ hk => ⟨hk.1.1, ⟨hk.2, ⟨hk.1.2.1, hk.1.2.2⟩⟩⟩)), (vz ao.out), (vz aC.out), (vz aB.out), (ku ag.out), (ku ac.out), (bu2 HB.out aj.out al.out)⟩)
                    ·
                     skip
                     refine box_step ?hg (N := 8) ?hd (cs := #[.bool false, .slice none 0 0, .slice none 0 0]) (t := 67) ?hr ?_; (case hd => rfl); (case hg => rfl); (case hr => first | (go_simp; done) | (go_simp; rfl))
                     intro af hg b7 hbox hb
                     replace aC := ke aC hg hb
                     replace aB := ke aB hg hb
                     replace ao := ke ao hg hb
                     replace ad := ke ad hg hb
                     replace ae := ke ae hg hb
                     replace ai := ke ai hg hb
                     replace ah := ke ah hg hb
                     replace av := am (Kd.N_below (Kd.N_elderB (nu av.out) af (Nat.le_of_eq hg.symm)) hb)
                     have az := am (hbox)
                     have aM := ng hg (bu2 HB.out aj.out al.out)
                     have aA := ng hg (bu2 HB.out aj.out al.out)
                     replace HB := be2 HB aj al hb
                     have au := nl hg ag
                     have ax := nr hg ag
                     replace ag := kb ag hb
                     have ak := nl hg ac
                     have ay := nr hg ac
                     replace ac := kb ac hb
                     clear hb hbox hg
                     refine hK.out _ _ ⟨bc ac 0, bc ac 1, bc ac 2⟩ (fun hHeld => ?_)
                     clear hK K
                     refine nq 8 ?_
                     exact norm_ (by first | (simp only [putAll, Act.put, List.setIfInBounds_toArray, List.set_cons_zero, List.set_cons_succ]; done) | (simp only [putAll, Act.put, List.setIfInBounds_toArray, List.set_cons_zero, List.set_cons_succ]; rfl)) (hJ12_15 (aF, af) _ ⟨hHeld, (vz ad.out), (vz ae.out), (vz ai.out), (vz ah.out), (by (with_reducible repeat (first | apply Kd.N_alloc | apply Kd.N_drewN | apply Kd.N_drew)); exact Kd.N_mono av.out (fun _ hk => ⟨hk.1.1, ⟨hk.1.2.1, ⟨hk.1.2.2, hk.2⟩⟩⟩)), (vz ao.out), (vz aC.out), (vz aB.out), (ku ag.out), (ku ac.out), (ku az.out), aM.out, aA.out, au.out, ax.out, ak.out, ay.out, (bu3 HB.out aj.out al.out aA.out)⟩)
                  ·
                   skip
                   rintro aG b6 ⟨hS_, a9, ba, bb, bd, bf, bg, bh, bi, bj, bk, aS⟩
                   (try dsimp -simprocs only at a9 ba bb bd bf bg bh bi bj bk aS)
                   clear aC aB ao ad ae ai ah ag ac HB
                   have ad := Aside0.mk a9
                   have ae := Aside0.mk ba
                   have ai := Aside0.mk bb
                   have ah := Aside0.mk bd
                   have an := Aside0.mk bf
                   have ao := Aside0.mk bg
                   have aC := Aside0.mk bh
                   have aB := Aside0.mk bi
                   have ag := Aside0.mk bj
                   have ac := Aside0.mk bk
                   have HB := Aside0.mk aS
                   clear a9 ba bb bd bf bg bh bi bj bk aS
                   have hHeld : b6.cell? ⟨aa, 0, none⟩ = some (.bool aD) ∧ b6.cell? ⟨aa, 1, none⟩ = some (.slice aJ aq.length aK) ∧ b6.cell? ⟨aa, 2, none⟩ = some (.slice aH ap.length aI) := hS_
                   obtain ⟨bL, bM, cQ⟩ := Kd.N_slice an.out
                   (first | subst cQ | (injection cQ with f1_ f2_ f3_; have f4_ := f1_.symm; have f5_ := f3_.symm; clear f1_ f2_ f3_; subst f4_; subst f5_))
                   refine norm_ (a' := ?_) ?_ ?_
                   rotate_left
                   ·
                    simp only [putAll, Act.put, List.setIfInBounds_toArray, List.set_cons_zero, List.set_cons_succ]
                    rfl
                   refine three_ (i := 8) (j := 12) (k := 15) (Ni := some 27) (Nj := some 31) (Nk := some 8) #[true, true, true, true, true, true, true, true, true, true, true, true, false, false, false, false, false] #[true, true, true, true, true, true, true, true, false, true, true, true, true, false, false, false, false] #[true, true, true, true, true, true, true, true, false, true, true, true, false, false, false, true, false] rfl rfl rfl rfl rfl rfl (three_of HT_.out (by kernel_rfl)) (by decide) (by decide) (by decide) (fun K hK => ?_) (fun K hK => ?_) (fun K hK => ?_)
                   ·
                    skip
                    refine goes_ Try.func145 (by kernel_rfl) rfl #[.slice bL aL.length bM] (by rfl) rfl rfl lu ?_
                    with_reducible refine (nat_Mul.calls k1 _ _ aL a7 _ ?side1 ?side2 db.out).mono ?_
                    (case side1 => exact cu (Kd.N_reads' an.out).2.2)
                    (case side2 => exact (Kd.N_reads' an.out).2.1)
                    rintro e ct ⟨a3, rfl, bB, hb⟩
                    refine ⟨_, rfl, ?_⟩
                    replace bB := R_V_base rfl bB
                    replace aC := kv aC hb
                    replace aB := kv aB hb
                    replace ao := kv ao hb
                    replace ad := kv ad hb
                    replace ae := kv ae hb
                    replace ai := kv ai hb
                    replace ah := kv ah hb
                    have aE := ar0 w.heap.size (ok' := fun k_ => (P0_ k_ ∨ w.heap.size ≤ k_) ∧ some k_ ≠ (.slice bL aL.length bM : Value).ownBlock ∧ k_ ≠ ab ∧ k_ ≠ aa) bB (fa (fz2 HB aj al) (fa (fo an) (fa (fb ag) (fb ac))))
                    replace an := kn an hb
                    replace ag := kb ag hb
                    replace ac := kb ac hb
                    replace HB := be2 HB aj al hb
                    (try clear hb)
                    (try clear hb2)
                    (try clear hk)
                    (try clear hi)
                    (try clear bB)
                    refine hK.out _ _ ⟨bc ac 0, bc ac 1, bc ac 2⟩ (fun hHeld => ?_)
                    clear hK K
                    refine nq 27 ?_
                    exact norm_ (by first | (simp only [putAll, Act.put, List.setIfInBounds_toArray, List.set_cons_zero, List.set_cons_succ]; done) | (simp only [putAll, Act.put, List.setIfInBounds_toArray, List.set_cons_zero, List.set_cons_succ]; rfl)) (hJ7_8 (.slice bL aL.length bM, a3) _ ⟨hHeld, (vu ad.out), (vu ae.out), (vu ai.out), (vu ah.out), (nu an.out), (vu aE.out), (vu ao.out), (vu aC.out), (vu aB.out), (ku ag.out), (ku ac.out), (bu2 HB.out aj.out al.out)⟩)
                   ·
                    skip
                    refine Kd.N_lit_step (Kd.slice 48 (Kd.int .u32)) _ 42 ?hg (N' := 31) ?hd (xs := ([aN, ap] : List (List Int))) (inner := [.slice AoX5 aN.length coX5, .slice aH ap.length aI]) (ok := (fun k_ => (P0_ k_ ∨ w.heap.size ≤ k_) ∧ some k_ ≠ (.slice bL aL.length bM : Value).ownBlock ∧ k_ ≠ ab ∧ k_ ≠ aa)) (okp := (fun k_ => (P0_ k_ ∨ w.heap.size ≤ k_) ∧ some k_ ≠ (.slice bL aL.length bM : Value).ownBlock ∧ k_ ≠ ab ∧ k_ ≠ aa)) ?hr ?hp (fun _ hk => hk) ((show ∀ k_, b6.heap.size ≤ k_ → (fun k_ => (P0_ k_ ∨ w.heap.size ≤ k_) ∧ some k_ ≠ (.slice bL aL.length bM : Value).ownBlock ∧ k_ ≠ ab ∧ k_ ≠ aa) k_ from fun k_ hk => ⟨(.inr (Nat.le_trans (below_size (bu2 HB.out aj.out al.out)) hk)), Kd.fresh' (Kd.N_lt (nu an.out)) k_ hk, Kd.freshB (g := ab) (o := .cells #[.bool false, .slice none 0 0, .slice none 0 0] 67 (0, 0)) (ku ag.out) k_ hk, Kd.freshB (g := aa) (o := .cells #[.bool aD, .slice aJ aq.length aK, .slice aH ap.length aI] 67 (0, 0)) (ku ac.out) k_ hk⟩) _ (Nat.le_refl _)) (Below.refl _ _) (Nat.le_refl _) (by simp) ?_; (case hd => rfl); (case hg => rfl); (case hr => first | (go_simp; done) | (go_simp; rfl)); (case hp => exact (Reps.one (show Kd.FK (Kd.slice 48 (Kd.int .u32)) _ _ aN [.slice AoX5 aN.length coX5] from (Kd.FK_slice_mk (Kd.V_reads' (vy ((fun k_ => (P0_ k_ ∨ w.heap.size ≤ k_) ∧ some k_ ≠ (.slice bL aL.length bM : Value).ownBlock ∧ k_ ≠ ab ∧ k_ ≠ aa)) aB.out)).2.1 (Kd.V_F (vy ((fun k_ => (P0_ k_ ∨ w.heap.size ≤ k_) ∧ some k_ ≠ (.slice bL aL.length bM : Value).ownBlock ∧ k_ ≠ ab ∧ k_ ≠ aa)) aB.out)))) (Reps.one (show Kd.FK (Kd.slice 48 (Kd.int .u32)) _ _ ap [.slice aH ap.length aI] from (Kd.FK_slice_mk (Kd.V_reads' (vy ((fun k_ => (P0_ k_ ∨ w.heap.size ≤ k_) ∧ some k_ ≠ (.slice bL aL.length bM : Value).ownBlock ∧ k_ ≠ ab ∧ k_ ≠ aa)) ah.out)).2.1 (Kd.V_F (vy ((fun k_ => (P0_ k_ ∨ w.heap.size ≤ k_) ∧ some k_ ≠ (.slice bL aL.length bM : Value).ownBlock ∧ k_ ≠ ab ∧ k_ ≠ aa)) ah.out)))) (Reps.none _ _))))
                    intro aF ct bl hb hg_ hnew_
                    clear hg_ hnew_
                    (first | rw [← bp.out] at bl | (simp only [Int.reduceToNat] at bl; rw [← bp.out] at bl))
                    replace aC := el aC bl hb
                    replace aB := el aB bl hb
                    replace ao := el ao bl hb
                    replace ad := el ad bl hb
                    replace ae := el ae bl hb
                    replace ai := el ai bl hb
                    replace ah := el ah bl hb
                    replace an := en an bl hb
                    have av := am (Kd.N_lower bl (below_size (bu2 HB.out aj.out al.out)))
                    replace ag := kb ag hb
                    replace ac := kb ac hb
                    replace HB := be2 HB aj al hb
                    clear hb bl
                    refine hK.out _ _ ⟨bc ac 0, bc ac 1, bc ac 2⟩ (fun hHeld => ?_)
                    clear hK K
                    refine nq 31 ?_
                    exact norm_ (by first | (simp only [putAll, Act.put, List.setIfInBounds_toArray, List.set_cons_zero, List.set_cons_succ]; done) | (simp only [putAll, Act.put, List.setIfInBounds_toArray, List.set_cons_zero, List.set_cons_succ]; rfl)) (hJ7_12 ((.slice bL aL.length bM), aF) _ ⟨hHeld, (vz ad.out), (vz ae.out), (vz ai.out), (vz ah.out), (by (with_reducible repeat (first | apply Kd.N_alloc | apply Kd.N_drewN | apply Kd.N_drew)); exact Kd.N_mono an.out (fun _ hk => ⟨hk.1.1, ⟨hk.2, ⟨hk.1.2.1, hk.1.2.2⟩⟩⟩)), (nu av.out), (vz ao.out), (vz aC.out), (vz aB.out), (ku ag.out), (ku ac.out), (bu2 HB.out aj.out al.out)⟩)
                   ·
                    skip
                    refine box_step ?hg (N := 8) ?hd (cs := #[.bool false, .slice none 0 0, .slice none 0 0]) (t := 67) ?hr ?_; (case hd => rfl); (case hg => rfl); (case hr => first | (go_simp; done) | (go_simp; rfl))
                    intro af hg b7 hbox hb
                    replace aC := ke aC hg hb
                    replace aB := ke aB hg hb
                    replace ao := ke ao hg hb
                    replace ad := ke ad hg hb
                    replace ae := ke ae hg hb
                    replace ai := ke ai hg hb
                    replace ah := ke ah hg hb
                    replace an := am (Kd.N_below (Kd.N_elderB (nu an.out) af (Nat.le_of_eq hg.symm)) hb)
                    have az := am (hbox)
                    have aM := ng hg (bu2 HB.out aj.out al.out)
                    have aA := ng hg (bu2 HB.out aj.out al.out)
                    replace HB := be2 HB aj al hb
                    have au := nl hg ag
                    have ax := nr hg ag
                    replace ag := kb ag hb
                    have ak := nl hg ac
                    have ay := nr hg ac
                    replace ac := kb ac hb
                    clear hb hbox hg
                    refine hK.out _ _ ⟨bc ac 0, bc ac 1, bc ac 2⟩ (fun hHeld => ?_)
                    clear hK K
                    refine nq 8 ?_
                    exact norm_ (by first | (simp only [putAll, Act.put, List.setIfInBounds_toArray, List.set_cons_zero, List.set_cons_succ]; done) | (simp only [putAll, Act.put, List.setIfInBounds_toArray, List.set_cons_zero, List.set_cons_succ]; rfl)) (hJ7_15 ((.slice bL aL.length bM), af) _ ⟨hHeld, (vz ad.out), (vz ae.out), (vz ai.out), (vz ah.out), (by (with_reducible repeat (first | apply Kd.N_alloc | apply Kd.N_drewN | apply Kd.N_drew)); exact Kd.N_mono an.out (fun _ hk => ⟨hk.1.1, ⟨hk.1.2.1, ⟨hk.1.2.2, hk.2⟩⟩⟩)), (vz ao.out), (vz aC.out), (vz aB.out), (ku ag.out), (ku ac.out), (ku az.out), aM.out, aA.out, au.out, ax.out, ak.out, ay.out, (bu3 HB.out aj.out al.out aA.out)⟩)
                 ·
                  skip
                  rintro ⟨aF, af⟩ b7 ⟨hS_, a9, ba, bb, bd, bf, bg, bh, bi, bj, bk, aS, aV, aZ, a0, a1, a2, a6, bm⟩
                  (try dsimp -simprocs only at a9 ba bb bd bf bg bh bi bj bk aS aV aZ a0 a1 a2 a6 bm)
                  clear aC aB ao ad ae ai ah ag ac HB
                  have ad := Aside0.mk a9
                  have ae := Aside0.mk ba
                  have ai := Aside0.mk bb
                  have ah := Aside0.mk bd
                  have av := Aside0.mk bf
                  have ao := Aside0.mk bg
                  have aC := Aside0.mk bh
                  have aB := Aside0.mk bi
                  have ag := Aside0.mk bj
                  have ac := Aside0.mk bk
                  have az := Aside0.mk aS
                  have aM := Aside0.mk aV
                  have aA := Aside0.mk aZ
                  have au := Aside0.mk a0
                  have ax := Aside0.mk a1
                  have ak := Aside0.mk a2
                  have ay := Aside0.mk a6
                  have HB := Aside0.mk bm
                  clear a9 ba bb bd bf bg bh bi bj bk aS aV aZ a0 a1 a2 a6 bm
                  have hHeld : b7.cell? ⟨aa, 0, none⟩ = some (.bool aD) ∧ b7.cell? ⟨aa, 1, none⟩ = some (.slice aJ aq.length aK) ∧ b7.cell? ⟨aa, 2, none⟩ = some (.slice aH ap.length aI) := hS_
                  refine norm_ (a' := ?_) ?_ ?_
                  rotate_left
                  ·
                   simp only [putAll, Act.put, List.setIfInBounds_toArray, List.set_cons_zero, List.set_cons_succ]
                   rfl
                  refine one_ (i := 7) (N := some 26) #[true, true, true, true, true, true, true, true, false, true, true, true, true, false, false, true, false] rfl rfl (one_of HT_.out (by kernel_rfl)) (by decide) (fun K hK => ?_)
                  refine Kd.N_lit_step (Kd.slice 48 (Kd.int .u32)) _ 42 ?hg (N' := 26) ?hd (xs := ([aU, aq] : List (List Int))) (inner := [.slice bv aU.length bw, .slice aJ aq.length aK]) (ok := (fun k_ => (P0_ k_ ∨ w.heap.size ≤ k_) ∧ some k_ ≠ (aF : Value).ownBlock ∧ k_ ≠ ab ∧ k_ ≠ aa ∧ k_ ≠ af)) (okp := (fun k_ => (P0_ k_ ∨ w.heap.size ≤ k_) ∧ some k_ ≠ (aF : Value).ownBlock ∧ k_ ≠ ab ∧ k_ ≠ aa ∧ k_ ≠ af)) ?hr ?hp (fun _ hk => hk) ((show ∀ k_, b7.heap.size ≤ k_ → (fun k_ => (P0_ k_ ∨ w.heap.size ≤ k_) ∧ some k_ ≠ (aF : Value).ownBlock ∧ k_ ≠ ab ∧ k_ ≠ aa ∧ k_ ≠ af) k_ from fun k_ hk => ⟨(.inr (Nat.le_trans (below_size (bu3 HB.out aj.out al.out aA.out)) hk)), Kd.fresh' (Kd.N_lt (nu av.out)) k_ hk, Kd.freshB (g := ab) (o := .cells #[.bool false, .slice none 0 0, .slice none 0 0] 67 (0, 0)) (ku ag.out) k_ hk, Kd.freshB (g := aa) (o := .cells #[.bool aD, .slice aJ aq.length aK, .slice aH ap.length aI] 67 (0, 0)) (ku ac.out) k_ hk, Kd.freshB (g := af) (o := .cells #[.bool false, .slice none 0 0, .slice none 0 0] 67 (0, 0)) (ku az.out) k_ hk⟩) _ (Nat.le_refl _)) (Below.refl _ _) (Nat.le_refl _) (by simp) ?_; (case hd => rfl); (case hg => rfl); (case hr => first | (go_simp; done) | (go_simp; rfl)); (case hp => exact (Reps.one (show Kd.FK (Kd.slice 48 (Kd.int .u32)) _ _ aU [.slice bv aU.length bw] from (Kd.FK_slice_mk (Kd.V_reads' (vy ((fun k_ => (P0_ k_ ∨ w.heap.size ≤ k_) ∧ some k_ ≠ (aF : Value).ownBlock ∧ k_ ≠ ab ∧ k_ ≠ aa ∧ k_ ≠ af)) aC.out)).2.1 (Kd.V_F (vy ((fun k_ => (P0_ k_ ∨ w.heap.size ≤ k_) ∧ some k_ ≠ (aF : Value).ownBlock ∧ k_ ≠ ab ∧ k_ ≠ aa ∧ k_ ≠ af)) aC.out)))) (Reps.one (show Kd.FK (Kd.slice 48 (Kd.int .u32)) _ _ aq [.slice aJ aq.length aK] from (Kd.FK_slice_mk (Kd.V_reads' (vy ((fun k_ => (P0_ k_ ∨ w.heap.size ≤ k_) ∧ some k_ ≠ (aF : Value).ownBlock ∧ k_ ≠ ab ∧ k_ ≠ aa ∧ k_ ≠ af)) ai.out)).2.1 (Kd.V_F (vy ((fun k_ => (P0_ k_ ∨ w.heap.size ≤ k_) ∧ some k_ ≠ (aF : Value).ownBlock ∧ k_ ≠ ab ∧ k_ ≠ aa ∧ k_ ≠ af)) ai.out)))) (Reps.none _ _))))
                  intro aG b2 bn hb hg_ hnew_
                  clear hg_ hnew_
                  (first | rw [← bG.out] at bn | (simp only [Int.reduceToNat] at bn; rw [← bG.out] at bn))
                  replace aC := el aC bn hb
                  replace aB := el aB bn hb
                  replace ao := el ao bn hb
                  replace ad := el ad bn hb
                  replace ae := el ae bn hb
                  replace ai := el ai bn hb
                  replace ah := el ah bn hb
                  replace av := en av bn hb
                  have an := am (Kd.N_lower bn (below_size (bu3 HB.out aj.out al.out aA.out)))
                  replace ag := kb ag hb
                  replace ac := kb ac hb
                  replace az := kb az hb
                  replace HB := be3 HB aj al aA hb
                  clear hb bn
                  refine hK.out _ _ ⟨bc ac 0, bc ac 1, bc ac 2⟩ (fun hHeld => ?_)
                  clear hK K
                  refine nq 26 ?_
                  exact norm_ (by first | (simp only [putAll, Act.put, List.setIfInBounds_toArray, List.set_cons_zero, List.set_cons_succ]; done) | (simp only [putAll, Act.put, List.setIfInBounds_toArray, List.set_cons_zero, List.set_cons_succ]; rfl)) (hJ7_12_15 (aG, aF, af) _ ⟨hHeld, (vz ad.out), (vz ae.out), (vz ai.out), (vz ah.out), (nu an.out), (by (with_reducible repeat (first | apply Kd.N_alloc | apply Kd.N_drewN | apply Kd.N_drew)); exact Kd.N_mono av.out (fun _ hk => ⟨hk.1.1, ⟨hk.2, ⟨hk.1.2.1, ⟨hk.1.2.2.1, hk.1.2.2.2⟩⟩⟩⟩)), (vz ao.out), (vz aC.out), (vz aB.out), (ku ag.out), (ku ac.out), (ku az.out), aM.out, aA.out, au.out, ax.out, ak.out, ay.out, (bu3 HB.out aj.out al.out aA.out)⟩)
                ·
                 skip
                 rintro ⟨aG, af⟩ b7 ⟨hS_, a9, ba, bb, bd, bf, bg, bh, bi, bj, bk, aS, aV, aZ, a0, a1, a2, a6, bm⟩
                 (try dsimp -simprocs only at a9 ba bb bd bf bg bh bi bj bk aS aV aZ a0 a1 a2 a6 bm)
                 clear aC aB ao ad ae ai ah ag ac HB
                 have ad := Aside0.mk a9
                 have ae := Aside0.mk ba
                 have ai := Aside0.mk bb
                 have ah := Aside0.mk bd
                 have an := Aside0.mk bf
                 have ao := Aside0.mk bg
                 have aC := Aside0.mk bh
                 have aB := Aside0.mk bi
                 have ag := Aside0.mk bj
                 have ac := Aside0.mk bk
                 have az := Aside0.mk aS
                 have aM := Aside0.mk aV
                 have aA := Aside0.mk aZ
                 have au := Aside0.mk a0
                 have ax := Aside0.mk a1
                 have ak := Aside0.mk a2
                 have ay := Aside0.mk a6
                 have HB := Aside0.mk bm
                 clear a9 ba bb bd bf bg bh bi bj bk aS aV aZ a0 a1 a2 a6 bm
                 have hHeld : b7.cell? ⟨aa, 0, none⟩ = some (.bool aD) ∧ b7.cell? ⟨aa, 1, none⟩ = some (.slice aJ aq.length aK) ∧ b7.cell? ⟨aa, 2, none⟩ = some (.slice aH ap.length aI) := hS_
                 obtain ⟨bN, bO, cR⟩ := Kd.N_slice an.out
                 (first | subst cR | (injection cR with f1_ f2_ f3_; have f4_ := f1_.symm; have f5_ := f3_.symm; clear f1_ f2_ f3_; subst f4_; subst f5_))
                 refine norm_ (a' := ?_) ?_ ?_
                 rotate_left
                 ·
                  simp only [putAll, Act.put, List.setIfInBounds_toArray, List.set_cons_zero, List.set_cons_succ]
                  rfl
                 refine two_ (i := 8) (j := 12) (Ni := some 27) (Nj := some 31) #[true, true, true, true, true, true, true, true, true, true, true, true, false, false, false, true, false] #[true, true, true, true, true, true, true, true, false, true, true, true, true, false, false, true, false] rfl rfl rfl rfl (two_of HT_.out (by kernel_rfl)) (by decide) (by decide) (fun K hK => ?_) (fun K hK => ?_)
                 ·
                  skip
                  refine goes_ Try.func145 (by kernel_rfl) rfl #[.slice bN aL.length bO] (by rfl) rfl rfl lu ?_
                  with_reducible refine (nat_Mul.calls k1 _ _ aL a7 _ ?side1 ?side2 db.out).mono ?_
                  (case side1 => exact cu (Kd.N_reads' an.out).2.2)
                  (case side2 => exact (Kd.N_reads' an.out).2.1)
                  rintro e b2 ⟨a3, rfl, bB, hb⟩
                  refine ⟨_, rfl, ?_⟩
                  replace bB := R_V_base rfl bB
                  replace aC := kv aC hb
                  replace aB := kv aB hb
                  replace ao := kv ao hb
                  replace ad := kv ad hb
                  replace ae := kv ae hb
                  replace ai := kv ai hb
                  replace ah := kv ah hb
                  have aE := ar0 w.heap.size (ok' := fun k_ => (P0_ k_ ∨ w.heap.size ≤ k_) ∧ some k_ ≠ (.slice bN aL.length bO : Value).ownBlock ∧ k_ ≠ ab ∧ k_ ≠ aa ∧ k_ ≠ af) bB (fa (fz3 HB aj al aA) (fa (fo an) (fa (fb ag) (fa (fb ac) (fb az)))))
                  replace an := kn an hb
                  replace ag := kb ag hb
                  replace ac := kb ac hb
                  replace az := kb az hb
                  replace HB := be3 HB aj al aA hb
                  (try clear hb)
                  (try clear hb2)
                  (try clear hk)
                  (try clear hi)
                  (try clear bB)
                  refine hK.out _ _ ⟨bc ac 0, bc ac 1, bc ac 2⟩ (fun hHeld => ?_)
                  clear hK K
                  refine nq 27 ?_
                  exact norm_ (by first | (simp only [putAll, Act.put, List.setIfInBounds_toArray, List.set_cons_zero, List.set_cons_succ]; done) | (simp only [putAll, Act.put, List.setIfInBounds_toArray, List.set_cons_zero, List.set_cons_succ]; rfl)) (hJ7_8_15 (.slice bN aL.length bO, a3, af) _ ⟨hHeld, (vu ad.out), (vu ae.out), (vu ai.out), (vu ah.out), (nu an.out), (vu aE.out), (vu ao.out), (vu aC.out), (vu aB.out), (ku ag.out), (ku ac.out), (ku az.out), aM.out, aA.out, au.out, ax.out, ak.out, ay.out, (bu3 HB.out aj.out al.out aA.out)⟩)
                 ·
                  skip
                  refine Kd.N_lit_step (Kd.slice 48 (Kd.int .u32)) _ 42 ?hg (N' := 31) ?hd (xs := ([aN, ap] : List (List Int))) (inner := [.slice AoX5 aN.length coX5, .slice aH ap.length aI]) (ok := (fun k_ => (P0_ k_ ∨ w.heap.size ≤ k_) ∧ some k_ ≠ (.slice bN aL.length bO : Value).ownBlock ∧ k_ ≠ ab ∧ k_ ≠ aa ∧ k_ ≠ af)) (okp := (fun k_ => (P0_ k_ ∨ w.heap.size ≤ k_) ∧ some k_ ≠ (.slice bN aL.length bO : Value).ownBlock ∧ k_ ≠ ab ∧ k_ ≠ aa ∧ k_ ≠ af)) ?hr ?hp (fun _ hk => hk) ((show ∀ k_, b7.heap.size ≤ k_ → (fun k_ => (P0_ k_ ∨ w.heap.size ≤ k_) ∧ some k_ ≠ (.slice bN aL.length bO : Value).ownBlock ∧ k_ ≠ ab ∧ k_ ≠ aa ∧ k_ ≠ af) k_ from fun k_ hk => ⟨(.inr (Nat.le_trans (below_size (bu3 HB.out aj.out al.out aA.out)) hk)), Kd.fresh' (Kd.N_lt (nu an.out)) k_ hk, Kd.freshB (g := ab) (o := .cells #[.bool false, .slice none 0 0, .slice none 0 0] 67 (0, 0)) (ku ag.out) k_ hk, Kd.freshB (g := aa) (o := .cells #[.bool aD, .slice aJ aq.length aK, .slice aH ap.length aI] 67 (0, 0)) (ku ac.out) k_ hk, Kd.freshB (g := af) (o := .cells #[.bool false, .slice none 0 0, .slice none 0 0] 67 (0, 0)) (ku az.out) k_ hk⟩) _ (Nat.le_refl _)) (Below.refl _ _) (Nat.le_refl _) (by simp) ?_; (case hd => rfl); (case hg => rfl); (case hr => first | (go_simp; done) | (go_simp; rfl)); (case hp => exact (Reps.one (show Kd.FK (Kd.slice 48 (Kd.int .u32)) _ _ aN [.slice AoX5 aN.length coX5] from (Kd.FK_slice_mk (Kd.V_reads' (vy ((fun k_ => (P0_ k_ ∨ w.heap.size ≤ k_) ∧ some k_ ≠ (.slice bN aL.length bO : Value).ownBlock ∧ k_ ≠ ab ∧ k_ ≠ aa ∧ k_ ≠ af)) aB.out)).2.1 (Kd.V_F (vy ((fun k_ => (P0_ k_ ∨ w.heap.size ≤ k_) ∧ some k_ ≠ (.slice bN aL.length bO : Value).ownBlock ∧ k_ ≠ ab ∧ k_ ≠ aa ∧ k_ ≠ af)) aB.out)))) (Reps.one (show Kd.FK (Kd.slice 48 (Kd.int .u32)) _ _ ap [.slice aH ap.length aI] from (Kd.FK_slice_mk (Kd.V_reads' (vy ((fun k_ => (P0_ k_ ∨ w.heap.size ≤ k_) ∧ some k_ ≠ (.slice bN aL.length bO : Value).ownBlock ∧ k_ ≠ ab ∧ k_ ≠ aa ∧ k_ ≠ af)) ah.out)).2.1 (Kd.V_F (vy ((fun k_ => (P0_ k_ ∨ w.heap.size ≤ k_) ∧ some k_ ≠ (.slice bN aL.length bO : Value).ownBlock ∧ k_ ≠ ab ∧ k_ ≠ aa ∧ k_ ≠ af)) ah.out)))) (Reps.none _ _))))
                  intro aF b2 bn hb hg_ hnew_
                  clear hg_ hnew_
                  (first | rw [← bp.out] at bn | (simp only [Int.reduceToNat] at bn; rw [← bp.out] at bn))
                  replace aC := el aC bn hb
                  replace aB := el aB bn hb
                  replace ao := el ao bn hb
                  replace ad := el ad bn hb
                  replace ae := el ae bn hb
                  replace ai := el ai bn hb
                  replace ah := el ah bn hb
                  replace an := en an bn hb
                  have av := am (Kd.N_lower bn (below_size (bu3 HB.out aj.out al.out aA.out)))
                  replace ag := kb ag hb
                  replace ac := kb ac hb
                  replace az := kb az hb
                  replace HB := be3 HB aj al aA hb
                  clear hb bn
                  refine hK.out _ _ ⟨bc ac 0, bc ac 1, bc ac 2⟩ (fun hHeld => ?_)
                  clear hK K
                  refine nq 31 ?_
                  exact norm_ (by first | (simp only [putAll, Act.put, List.setIfInBounds_toArray, List.set_cons_zero, List.set_cons_succ]; done) | (simp only [putAll, Act.put, List.setIfInBounds_toArray, List.set_cons_zero, List.set_cons_succ]; rfl)) (hJ7_12_15 ((.slice bN aL.length bO), aF, af) _ ⟨hHeld, (vz ad.out), (vz ae.out), (vz ai.out), (vz ah.out), (by (with_reducible repeat (first | apply Kd.N_alloc | apply Kd.N_drewN | apply Kd.N_drew)); exact Kd.N_mono an.out (fun _ hk => ⟨hk.1.1, ⟨hk.2, ⟨hk.1.2.1, ⟨hk.1.2.2.1, hk.1.2.2.2⟩⟩⟩⟩)), (nu av.out), (vz ao.out), (vz aC.out), (vz aB.out), (ku ag.out), (ku ac.out), (ku az.out), aM.out, aA.out, au.out, ax.out, ak.out, ay.out, (bu3 HB.out aj.out al.out aA.out)⟩)
               ·
                skip
                rintro ⟨aG, aF⟩ b2 ⟨hS_, a9, ba, bb, bd, bf, bg, bh, bi, bj, bk, aS, aV⟩
                (try dsimp -simprocs only at a9 ba bb bd bf bg bh bi bj bk aS aV)
                clear aC aB ao ad ae ai ah ag ac HB
                have ad := Aside0.mk a9
                have ae := Aside0.mk ba
                have ai := Aside0.mk bb
                have ah := Aside0.mk bd
                have an := Aside0.mk bf
                have av := Aside0.mk bg
                have ao := Aside0.mk bh
                have aC := Aside0.mk bi
                have aB := Aside0.mk bj
                have ag := Aside0.mk bk
                have ac := Aside0.mk aS
                have HB := Aside0.mk aV
                clear a9 ba bb bd bf bg bh bi bj bk aS aV
                have hHeld : b2.cell? ⟨aa, 0, none⟩ = some (.bool aD) ∧ b2.cell? ⟨aa, 1, none⟩ = some (.slice aJ aq.length aK) ∧ b2.cell? ⟨aa, 2, none⟩ = some (.slice aH ap.length aI) := hS_
                obtain ⟨ch, ci, cS⟩ := Kd.N_slice an.out
                (first | subst cS | (injection cS with f1_ f2_ f3_; have f4_ := f1_.symm; have f5_ := f3_.symm; clear f1_ f2_ f3_; subst f4_; subst f5_))
                refine norm_ (a' := ?_) ?_ ?_
                rotate_left
                ·
                 simp only [putAll, Act.put, List.setIfInBounds_toArray, List.set_cons_zero, List.set_cons_succ]
                 rfl
                refine two_ (i := 8) (j := 15) (Ni := some 27) (Nj := some 8) #[true, true, true, true, true, true, true, true, true, true, true, true, true, false, false, false, false] #[true, true, true, true, true, true, true, true, false, true, true, true, true, false, false, true, false] rfl rfl rfl rfl (two_of HT_.out (by kernel_rfl)) (by decide) (by decide) (fun K hK => ?_) (fun K hK => ?_)
                ·
                 skip
                 refine goes_ Try.func145 (by kernel_rfl) rfl #[.slice ch aL.length ci] (by rfl) rfl rfl lu ?_
                 with_reducible refine (nat_Mul.calls k1 _ _ aL a7 _ ?side1 ?side2 db.out).mono ?_
                 (case side1 => exact cu (Kd.N_reads' an.out).2.2)
                 (case side2 => exact (Kd.N_reads' an.out).2.1)
                 rintro e cT ⟨a3, rfl, bB, hb⟩
                 refine ⟨_, rfl, ?_⟩
                 replace bB := R_V_base rfl bB
                 replace aC := kv aC hb
                 replace aB := kv aB hb
                 replace ao := kv ao hb
                 replace ad := kv ad hb
                 replace ae := kv ae hb
                 replace ai := kv ai hb
                 replace ah := kv ah hb
                 have aE := ar0 w.heap.size (ok' := fun k_ => (P0_ k_ ∨ w.heap.size ≤ k_) ∧ some k_ ≠ (.slice ch aL.length ci : Value).ownBlock ∧ some k_ ≠ (aF : Value).ownBlock ∧ k_ ≠ ab ∧ k_ ≠ aa) bB (fa (fz2 HB aj al) (fa (fo an) (fa (fo av) (fa (fb ag) (fb ac)))))
                 replace an := kn an hb
                 replace av := kn av hb
                 replace ag := kb ag hb
                 replace ac := kb ac hb
                 replace HB := be2 HB aj al hb
                 (try clear hb)
                 (try clear hb2)
                 (try clear hk)
                 (try clear hi)
                 (try clear bB)
                 refine hK.out _ _ ⟨bc ac 0, bc ac 1, bc ac 2⟩ (fun hHeld => ?_)
                 clear hK K
                 refine nq 27 ?_
                 exact norm_ (by first | (simp only [putAll, Act.put, List.setIfInBounds_toArray, List.set_cons_zero, List.set_cons_succ]; done) | (simp only [putAll, Act.put, List.setIfInBounds_toArray, List.set_cons_zero, List.set_cons_succ]; rfl)) (hJ7_8_12 (.slice ch aL.length ci, a3, aF) _ ⟨hHeld, (vu ad.out), (vu ae.out), (vu ai.out), (vu ah.out), (nu an.out), (vu aE.out), (nu av.out), (vu ao.out), (vu aC.out), (vu aB.out), (ku ag.out), (ku ac.out), (bu2 HB.out aj.out al.out)⟩)
                ·
                 skip
                 refine box_step ?hg (N := 8) ?hd (cs := #[.bool false, .slice none 0 0, .slice none 0 0]) (t := 67) ?hr ?_; (case hd => rfl); (case hg => rfl); (case hr => first | (go_simp; done) | (go_simp; rfl))
                 intro af hg cU hbox hb
                 replace aC := ke aC hg hb
                 replace aB := ke aB hg hb
                 replace ao := ke ao hg hb
                 replace ad := ke ad hg hb
                 replace ae := ke ae hg hb
                 replace ai := ke ai hg hb
                 replace ah := ke ah hg hb
                 replace an := am (Kd.N_below (Kd.N_elderB (nu an.out) af (Nat.le_of_eq hg.symm)) hb)
                 replace av := am (Kd.N_below (Kd.N_elderB (nu av.out) af (Nat.le_of_eq hg.symm)) hb)
                 have az := am (hbox)
                 have aM := ng hg (bu2 HB.out aj.out al.out)
                 have aA := ng hg (bu2 HB.out aj.out al.out)
                 replace HB := be2 HB aj al hb
                 have au := nl hg ag
                 have ax := nr hg ag
                 replace ag := kb ag hb
                 have ak := nl hg ac
                 have ay := nr hg ac
                 replace ac := kb ac hb
                 clear hb hbox hg
                 refine hK.out _ _ ⟨bc ac 0, bc ac 1, bc ac 2⟩ (fun hHeld => ?_)
                 clear hK K
                 refine nq 8 ?_
                 exact norm_ (by first | (simp only [putAll, Act.put, List.setIfInBounds_toArray, List.set_cons_zero, List.set_cons_succ]; done) | (simp only [putAll, Act.put, List.setIfInBounds_toArray, List.set_cons_zero, List.set_cons_succ]; rfl)) (hJ7_12_15 ((.slice ch aL.length ci), aF, af) _ ⟨hHeld, (vz ad.out), (vz ae.out), (vz ai.out), (vz ah.out), (by (with_reducible repeat (first | apply Kd.N_alloc | apply Kd.N_drewN | apply Kd.N_drew)); exact Kd.N_mono an.out (fun _ hk => ⟨hk.1.1, ⟨hk.1.2.1, ⟨hk.1.2.2.1, ⟨hk.1.2.2.2, hk.2⟩⟩⟩⟩)), (by (with_reducible repeat (first | apply Kd.N_alloc | apply Kd.N_drewN | apply Kd.N_drew)); exact Kd.N_mono av.out (fun _ hk => ⟨hk.1.1, ⟨hk.1.2.1, ⟨hk.1.2.2.1, ⟨hk.1.2.2.2, hk.2⟩⟩⟩⟩)), (vz ao.out), (vz aC.out), (vz aB.out), (ku ag.out), (ku ac.out), (ku az.out), aM.out, aA.out, au.out, ax.out, ak.out, ay.out, (bu3 HB.out aj.out al.out aA.out)⟩)
              ·
               skip
               rintro ⟨aG, a3⟩ ct ⟨hS_, a9, ba, bb, bd, bf, bg, bh, bi, bj, bk, aS, aV⟩
               (try dsimp -simprocs only at a9 ba bb bd bf bg bh bi bj bk aS aV)
               clear aC aB ao ad ae ai ah ag ac HB
               have ad := Aside0.mk a9
               have ae := Aside0.mk ba
               have ai := Aside0.mk bb
               have ah := Aside0.mk bd
               have an := Aside0.mk bf
               have aE := Aside0.mk bg
               have ao := Aside0.mk bh
               have aC := Aside0.mk bi
               have aB := Aside0.mk bj
               have ag := Aside0.mk bk
               have ac := Aside0.mk aS
               have HB := Aside0.mk aV
               clear a9 ba bb bd bf bg bh bi bj bk aS aV
               have hHeld : ct.cell? ⟨aa, 0, none⟩ = some (.bool aD) ∧ ct.cell? ⟨aa, 1, none⟩ = some (.slice aJ aq.length aK) ∧ ct.cell? ⟨aa, 2, none⟩ = some (.slice aH ap.length aI) := hS_
               refine norm_ (a' := ?_) ?_ ?_
               rotate_left
               ·
                simp only [putAll, Act.put, List.setIfInBounds_toArray, List.set_cons_zero, List.set_cons_succ]
                rfl
               refine two_ (i := 12) (j := 15) (Ni := some 31) (Nj := some 8) #[true, true, true, true, true, true, true, true, true, true, true, true, true, false, false, false, false] #[true, true, true, true, true, true, true, true, true, true, true, true, false, false, false, true, false] rfl rfl rfl rfl (two_of HT_.out (by kernel_rfl)) (by decide) (by decide) (fun K hK => ?_) (fun K hK => ?_)
               ·
                skip
                refine Kd.N_lit_step (Kd.slice 48 (Kd.int .u32)) _ 42 ?hg (N' := 31) ?hd (xs := ([aN, ap] : List (List Int))) (inner := [.slice AoX5 aN.length coX5, .slice aH ap.length aI]) (ok := (fun k_ => (P0_ k_ ∨ w.heap.size ≤ k_) ∧ some k_ ≠ (aG : Value).ownBlock ∧ k_ ≠ ab ∧ k_ ≠ aa)) (okp := (fun k_ => (P0_ k_ ∨ w.heap.size ≤ k_) ∧ some k_ ≠ (aG : Value).ownBlock ∧ k_ ≠ ab ∧ k_ ≠ aa)) ?hr ?hp (fun _ hk => hk) ((show ∀ k_, ct.heap.size ≤ k_ → (fun k_ => (P0_ k_ ∨ w.heap.size ≤ k_) ∧ some k_ ≠ (aG : Value).ownBlock ∧ k_ ≠ ab ∧ k_ ≠ aa) k_ from fun k_ hk => ⟨(.inr (Nat.le_trans (below_size (bu2 HB.out aj.out al.out)) hk)), Kd.fresh' (Kd.N_lt (nu an.out)) k_ hk, Kd.freshB (g := ab) (o := .cells #[.bool false, .slice none 0 0, .slice none 0 0] 67 (0, 0)) (ku ag.out) k_ hk, Kd.freshB (g := aa) (o := .cells #[.bool aD, .slice aJ aq.length aK, .slice aH ap.length aI] 67 (0, 0)) (ku ac.out) k_ hk⟩) _ (Nat.le_refl _)) (Below.refl _ _) (Nat.le_refl _) (by simp) ?_; (case hd => rfl); (case hg => rfl); (case hr => first | (go_simp; done) | (go_simp; rfl)); (case hp => exact (Reps.one (show Kd.FK (Kd.slice 48 (Kd.int .u32)) _ _ aN [.slice AoX5 aN.length coX5] from (Kd.FK_slice_mk (Kd.V_reads' (vy ((fun k_ => (P0_ k_ ∨ w.heap.size ≤ k_) ∧ some k_ ≠ (aG : Value).ownBlock ∧ k_ ≠ ab ∧ k_ ≠ aa)) aB.out)).2.1 (Kd.V_F (vy ((fun k_ => (P0_ k_ ∨ w.heap.size ≤ k_) ∧ some k_ ≠ (aG : Value).ownBlock ∧ k_ ≠ ab ∧ k_ ≠ aa)) aB.out)))) (Reps.one (show Kd.FK (Kd.slice 48 (Kd.int .u32)) _ _ ap [.slice aH ap.length aI] from (Kd.FK_slice_mk (Kd.V_reads' (vy ((fun k_ => (P0_ k_ ∨ w.heap.size ≤ k_) ∧ some k_ ≠ (aG : Value).ownBlock ∧ k_ ≠ ab ∧ k_ ≠ aa)) ah.out)).2.1 (Kd.V_F (vy ((fun k_ => (P0_ k_ ∨ w.heap.size ≤ k_) ∧ some k_ ≠ (aG : Value).ownBlock ∧ k_ ≠ ab ∧ k_ ≠ aa)) ah.out)))) (Reps.none _ _))))
                intro aF cU bH hb hg_ hnew_
                clear hg_ hnew_
                (first | rw [← bp.out] at bH | (simp only [Int.reduceToNat] at bH; rw [← bp.out] at bH))
                replace aC := el aC bH hb
                replace aB := el aB bH hb
                replace ao := el ao bH hb
                replace ad := el ad bH hb
                replace ae := el ae bH hb
                replace ai := el ai bH hb
                replace ah := el ah bH hb
                replace an := en an bH hb
                replace aE := el aE bH hb
                have av := am (Kd.N_lower bH (below_size (bu2 HB.out aj.out al.out)))
                replace ag := kb ag hb
                replace ac := kb ac hb
                replace HB := be2 HB aj al hb
                clear hb bH
                refine hK.out _ _ ⟨bc ac 0, bc ac 1, bc ac 2⟩ (fun hHeld => ?_)
                clear hK K
                refine nq 31 ?_
                exact norm_ (by first | (simp only [putAll, Act.put, List.setIfInBounds_toArray, List.set_cons_zero, List.set_cons_succ]; done) | (simp only [putAll, Act.put, List.setIfInBounds_toArray, List.set_cons_zero, List.set_cons_succ]; rfl)) (hJ7_8_12 (aG, a3, aF) _ ⟨hHeld, (vz ad.out), (vz ae.out), (vz ai.out), (vz ah.out), (by (with_reducible repeat (first | apply Kd.N_alloc | apply Kd.N_drewN | apply Kd.N_drew)); exact Kd.N_mono an.out (fun _ hk => ⟨hk.1.1, ⟨hk.2, ⟨hk.1.2.1, hk.1.2.2⟩⟩⟩)), (vz aE.out), (nu av.out), (vz ao.out), (vz aC.out), (vz aB.out), (ku ag.out), (ku ac.out), (bu2 HB.out aj.out al.out)⟩)
               ·
                skip
                refine box_step ?hg (N := 8) ?hd (cs := #[.bool false, .slice none 0 0, .slice none 0 0]) (t := 67) ?hr ?_; (case hd => rfl); (case hg => rfl); (case hr => first | (go_simp; done) | (go_simp; rfl))
                intro af hg b2 hbox hb
                replace aC := ke aC hg hb
                replace aB := ke aB hg hb
                replace ao := ke ao hg hb
                replace ad := ke ad hg hb
                replace ae := ke ae hg hb
                replace ai := ke ai hg hb
                replace ah := ke ah hg hb
                replace an := am (Kd.N_below (Kd.N_elderB (nu an.out) af (Nat.le_of_eq hg.symm)) hb)
                replace aE := ke aE hg hb
                have az := am (hbox)
                have aM := ng hg (bu2 HB.out aj.out al.out)
                have aA := ng hg (bu2 HB.out aj.out al.out)
                replace HB := be2 HB aj al hb
                have au := nl hg ag
                have ax := nr hg ag
                replace ag := kb ag hb
                have ak := nl hg ac
                have ay := nr hg ac
                replace ac := kb ac hb
                clear hb hbox hg
                refine hK.out _ _ ⟨bc ac 0, bc ac 1, bc ac 2⟩ (fun hHeld => ?_)
                clear hK K
                refine nq 8 ?_
                exact norm_ (by first | (simp only [putAll, Act.put, List.setIfInBounds_toArray, List.set_cons_zero, List.set_cons_succ]; done) | (simp only [putAll, Act.put, List.setIfInBounds_toArray, List.set_cons_zero, List.set_cons_succ]; rfl)) (hJ7_8_15 (aG, a3, af) _ ⟨hHeld, (vz ad.out), (vz ae.out), (vz ai.out), (vz ah.out), (by (with_reducible repeat (first | apply Kd.N_alloc | apply Kd.N_drewN | apply Kd.N_drew)); exact Kd.N_mono an.out (fun _ hk => ⟨hk.1.1, ⟨hk.1.2.1, ⟨hk.1.2.2, hk.2⟩⟩⟩)), (vz aE.out), (vz ao.out), (vz aC.out), (vz aB.out), (ku ag.out), (ku ac.out), (ku az.out), aM.out, aA.out, au.out, ax.out, ak.out, ay.out, (bu3 HB.out aj.out al.out aA.out)⟩)
             ·
              skip
              rintro ⟨aG, aF, af⟩ cU ⟨hS_, a9, ba, bb, bd, bf, bg, bh, bi, bj, bk, aS, aV, aZ, a0, a1, a2, a6, bm, bF⟩
              (try dsimp -simprocs only at a9 ba bb bd bf bg bh bi bj bk aS aV aZ a0 a1 a2 a6 bm bF)
              clear aC aB ao ad ae ai ah ag ac HB
              have ad := Aside0.mk a9
              have ae := Aside0.mk ba
              have ai := Aside0.mk bb
              have ah := Aside0.mk bd
              have an := Aside0.mk bf
              have av := Aside0.mk bg
              have ao := Aside0.mk bh
              have aC := Aside0.mk bi
              have aB := Aside0.mk bj
              have ag := Aside0.mk bk
              have ac := Aside0.mk aS
              have az := Aside0.mk aV
              have aM := Aside0.mk aZ
              have aA := Aside0.mk a0
              have au := Aside0.mk a1
              have ax := Aside0.mk a2
              have ak := Aside0.mk a6
              have ay := Aside0.mk bm
              have HB := Aside0.mk bF
              clear a9 ba bb bd bf bg bh bi bj bk aS aV aZ a0 a1 a2 a6 bm bF
              have hHeld : cU.cell? ⟨aa, 0, none⟩ = some (.bool aD) ∧ cU.cell? ⟨aa, 1, none⟩ = some (.slice aJ aq.length aK) ∧ cU.cell? ⟨aa, 2, none⟩ = some (.slice aH ap.length aI) := hS_
              obtain ⟨cv, cw, cV⟩ := Kd.N_slice an.out
              (first | subst cV | (injection cV with f1_ f2_ f3_; have f4_ := f1_.symm; have f5_ := f3_.symm; clear f1_ f2_ f3_; subst f4_; subst f5_))
              refine norm_ (a' := ?_) ?_ ?_
              rotate_left
              ·
               simp only [putAll, Act.put, List.setIfInBounds_toArray, List.set_cons_zero, List.set_cons_succ]
               rfl
              refine one_ (i := 8) (N := some 27) #[true, true, true, true, true, true, true, true, true, true, true, true, true, false, false, true, false] rfl rfl (one_of HT_.out (by kernel_rfl)) (by decide) (fun K hK => ?_)
              refine goes_ Try.func145 (by kernel_rfl) rfl #[.slice cv aL.length cw] (by rfl) rfl rfl lu ?_
              with_reducible refine (nat_Mul.calls k1 _ _ aL a7 _ ?side1 ?side2 db.out).mono ?_
              (case side1 => exact cu (Kd.N_reads' an.out).2.2)
              (case side2 => exact (Kd.N_reads' an.out).2.1)
              rintro e cW ⟨a3, rfl, bB, hb⟩
              refine ⟨_, rfl, ?_⟩
              replace bB := R_V_base rfl bB
              replace aC := kv aC hb
              replace aB := kv aB hb
              replace ao := kv ao hb
              replace ad := kv ad hb
              replace ae := kv ae hb
              replace ai := kv ai hb
              replace ah := kv ah hb
              have aE := ar0 w.heap.size (ok' := fun k_ => (P0_ k_ ∨ w.heap.size ≤ k_) ∧ some k_ ≠ (.slice cv aL.length cw : Value).ownBlock ∧ some k_ ≠ (aF : Value).ownBlock ∧ k_ ≠ ab ∧ k_ ≠ aa ∧ k_ ≠ af) bB (fa (fz3 HB aj al aA) (fa (fo an) (fa (fo av) (fa (fb ag) (fa (fb ac) (fb az))))))
              replace an := kn an hb
              replace av := kn av hb
              replace ag := kb ag hb
              replace ac := kb ac hb
              replace az := kb az hb
              replace HB := be3 HB aj al aA hb
              (try clear hb)
              (try clear hb2)
              (try clear hk)
              (try clear hi)
              (try clear bB)
              refine hK.out _ _ ⟨bc ac 0, bc ac 1, bc ac 2⟩ (fun hHeld => ?_)
              clear hK K
              refine nq 27 ?_
              exact norm_ (by first | (simp only [putAll, Act.put, List.setIfInBounds_toArray, List.set_cons_zero, List.set_cons_succ]; done) | (simp only [putAll, Act.put, List.setIfInBounds_toArray, List.set_cons_zero, List.set_cons_succ]; rfl)) (hJ7_8_12_15 (.slice cv aL.length cw, a3, aF, af) _ ⟨hHeld, (vu ad.out), (vu ae.out), (vu ai.out), (vu ah.out), (nu an.out), (vu aE.out), (nu av.out), (vu ao.out), (vu aC.out), (vu aB.out), (ku ag.out), (ku ac.out), (ku az.out), aM.out, aA.out, au.out, ax.out, ak.out, ay.out, (bu3 HB.out aj.out al.out aA.out)⟩)
            ·
             skip
             rintro ⟨aG, a3, af⟩ b2 ⟨hS_, a9, ba, bb, bd, bf, bg, bh, bi, bj, bk, aS, aV, aZ, a0, a1, a2, a6, bm, bF⟩
             (try dsimp -simprocs only at a9 ba bb bd bf bg bh bi bj bk aS aV aZ a0 a1 a2 a6 bm bF)
             clear aC aB ao ad ae ai ah ag ac HB
             have ad := Aside0.mk a9
             have ae := Aside0.mk ba
             have ai := Aside0.mk bb
             have ah := Aside0.mk bd
             have an := Aside0.mk bf
             have aE := Aside0.mk bg
             have ao := Aside0.mk bh
             have aC := Aside0.mk bi
             have aB := Aside0.mk bj
             have ag := Aside0.mk bk
             have ac := Aside0.mk aS
             have az := Aside0.mk aV
             have aM := Aside0.mk aZ
             have aA := Aside0.mk a0
             have au := Aside0.mk a1
             have ax := Aside0.mk a2
             have ak := Aside0.mk a6
             have ay := Aside0.mk bm
             have HB := Aside0.mk bF
             clear a9 ba bb bd bf bg bh bi bj bk aS aV aZ a0 a1 a2 a6 bm bF
             have hHeld : b2.cell? ⟨aa, 0, none⟩ = some (.bool aD) ∧ b2.cell? ⟨aa, 1, none⟩ = some (.slice aJ aq.length aK) ∧ b2.cell? ⟨aa, 2, none⟩ = some (.slice aH ap.length aI) := hS_
             refine norm_ (a' := ?_) ?_ ?_
             rotate_left
             ·
              simp only [putAll, Act.put, List.setIfInBounds_toArray, List.set_cons_zero, List.set_cons_succ]
              rfl
             refine one_ (i := 12) (N := some 31) #[true, true, true, true, true, true, true, true, true, true, true, true, true, false, false, true, false] rfl rfl (one_of HT_.out (by kernel_rfl)) (by decide) (fun K hK => ?_)
             refine Kd.N_lit_step (Kd.slice 48 (Kd.int .u32)) _ 42 ?hg (N' := 31) ?hd (xs := ([aN, ap] : List (List Int))) (inner := [.slice AoX5 aN.length coX5, .slice aH ap.length aI]) (ok := (fun k_ => (P0_ k_ ∨ w.heap.size ≤ k_) ∧ some k_ ≠ (aG : Value).ownBlock ∧ k_ ≠ ab ∧ k_ ≠ aa ∧ k_ ≠ af)) (okp := (fun k_ => (P0_ k_ ∨ w.heap.size ≤ k_) ∧ some k_ ≠ (aG : Value).ownBlock ∧ k_ ≠ ab ∧ k_ ≠ aa ∧ k_ ≠ af)) ?hr ?hp (fun _ hk => hk) ((show ∀ k_, b2.heap.size ≤ k_ → (fun k_ => (P0_ k_ ∨ w.heap.size ≤ k_) ∧ some k_ ≠ (aG : Value).ownBlock ∧ k_ ≠ ab ∧ k_ ≠ aa ∧ k_ ≠ af) k_ from fun k_ hk => ⟨(.inr (Nat.le_trans (below_size (bu3 HB.out aj.out al.out aA.out)) hk)), Kd.fresh' (Kd.N_lt (nu an.out)) k_ hk, Kd.freshB (g := ab) (o := .cells #[.bool false, .slice none 0 0, .slice none 0 0] 67 (0, 0)) (ku ag.out) k_ hk, Kd.freshB (g := aa) (o := .cells #[.bool aD, .slice aJ aq.length aK, .slice aH ap.length aI] 67 (0, 0)) (ku ac.out) k_ hk, Kd.freshB (g := af) (o := .cells #[.bool false, .slice none 0 0, .slice none 0 0] 67 (0, 0)) (ku az.out) k_ hk⟩) _ (Nat.le_refl _)) (Below.refl _ _) (Nat.le_refl _) (by simp) ?_; (case hd => rfl); (case hg => rfl); (case hr => first | (go_simp; done) | (go_simp; rfl)); (case hp => exact (Reps.one (show Kd.FK (Kd.slice 48 (Kd.int .u32)) _ _ aN [.slice AoX5 aN.length coX5] from (Kd.FK_slice_mk (Kd.V_reads' (vy ((fun k_ => (P0_ k_ ∨ w.heap.size ≤ k_) ∧ some k_ ≠ (aG : Value).ownBlock ∧ k_ ≠ ab ∧ k_ ≠ aa ∧ k_ ≠ af)) aB.out)).2.1 (Kd.V_F (vy ((fun k_ => (P0_ k_ ∨ w.heap.size ≤ k_) ∧ some k_ ≠ (aG : Value).ownBlock ∧ k_ ≠ ab ∧ k_ ≠ aa ∧ k_ ≠ af)) aB.out)))) (Reps.one (show Kd.FK (Kd.slice 48 (Kd.int .u32)) _ _ ap [.slice aH ap.length aI] from (Kd.FK_slice_mk (Kd.V_reads' (vy ((fun k_ => (P0_ k_ ∨ w.heap.size ≤ k_) ∧ some k_ ≠ (aG : Value).ownBlock ∧ k_ ≠ ab ∧ k_ ≠ aa ∧ k_ ≠ af)) ah.out)).2.1 (Kd.V_F (vy ((fun k_ => (P0_ k_ ∨ w.heap.size ≤ k_) ∧ some k_ ≠ (aG : Value).ownBlock ∧ k_ ≠ ab ∧ k_ ≠ aa ∧ k_ ≠ af)) ah.out)))) (Reps.none _ _))))
             intro aF cT bI hb hg_ hnew_
             clear hg_ hnew_
             (first | rw [← bp.out] at bI | (simp only [Int.reduceToNat] at bI; rw [← bp.out] at bI))
             replace aC := el aC bI hb
             replace aB := el aB bI hb
             replace ao := el ao bI hb
             replace ad := el ad bI hb
             replace ae := el ae bI hb
             replace ai := el ai bI hb
             replace ah := el ah bI hb
             replace an := en an bI hb
             replace aE := el aE bI hb
             have av := am (Kd.N_lower bI (below_size (bu3 HB.out aj.out al.out aA.out)))
             replace ag := kb ag hb
             replace ac := kb ac hb
             replace az := kb az hb
             replace HB := be3 HB aj al aA hb
             clear hb bI
             refine hK.out _ _ ⟨bc ac 0, bc ac 1, bc ac 2⟩ (fun hHeld => ?_)
             clear hK K
             refine nq 31 ?_
             exact norm_ (by first | (simp only [putAll, Act.put, List.setIfInBounds_toArray, List.set_cons_zero, List.set_cons_succ]; done) | (simp only [putAll, Act.put, List.setIfInBounds_toArray, List.set_cons_zero, List.set_cons_succ]; rfl)) (hJ7_8_12_15 (aG, a3, aF, af) _ ⟨hHeld, (vz ad.out), (vz ae.out), (vz ai.out), (vz ah.out), (by (with_reducible repeat (first | apply Kd.N_alloc | apply Kd.N_drewN | apply Kd.N_drew)); exact Kd.N_mono an.out (fun _ hk => ⟨hk.1.1, ⟨hk.2, ⟨hk.1.2.1, ⟨hk.1.2.2.1, hk.1.2.2.2⟩⟩⟩⟩)), (vz aE.out), (nu av.out), (vz ao.out), (vz aC.out), (vz aB.out), (ku ag.out), (ku ac.out), (ku az.out), aM.out, aA.out, au.out, ax.out, ak.out, ay.out, (bu3 HB.out aj.out al.out aA.out)⟩)
           ·
            skip
            rintro ⟨aG, a3, aF⟩ cT ⟨hS_, a9, ba, bb, bd, bf, bg, bh, bi, bj, bk, aS, aV, aZ⟩
            (try dsimp -simprocs only at a9 ba bb bd bf bg bh bi bj bk aS aV aZ)
            clear aC aB ao ad ae ai ah ag ac HB
            have ad := Aside0.mk a9
            have ae := Aside0.mk ba
            have ai := Aside0.mk bb
            have ah := Aside0.mk bd
            have an := Aside0.mk bf
            have aE := Aside0.mk bg
            have av := Aside0.mk bh
            have ao := Aside0.mk bi
            have aC := Aside0.mk bj
            have aB := Aside0.mk bk
            have ag := Aside0.mk aS
            have ac := Aside0.mk aV
            have HB := Aside0.mk aZ
            clear a9 ba bb bd bf bg bh bi bj bk aS aV aZ
            have hHeld : cT.cell? ⟨aa, 0, none⟩ = some (.bool aD) ∧ cT.cell? ⟨aa, 1, none⟩ = some (.slice aJ aq.length aK) ∧ cT.cell? ⟨aa, 2, none⟩ = some (.slice aH ap.length aI) := hS_
            obtain ⟨cj, ck, cX⟩ := Kd.N_slice av.out
            (first | subst cX | (injection cX with f1_ f2_ f3_; have f4_ := f1_.symm; have f5_ := f3_.symm; clear f1_ f2_ f3_; subst f4_; subst f5_))
            refine norm_ (a' := ?_) ?_ ?_
            rotate_left
            ·
             simp only [putAll, Act.put, List.setIfInBounds_toArray, List.set_cons_zero, List.set_cons_succ]
             rfl
            refine two_ (i := 13) (j := 15) (Ni := some 32) (Nj := some 8) #[true, true, true, true, true, true, true, true, true, true, true, true, true, true, false, false, false] #[true, true, true, true, true, true, true, true, true, true, true, true, true, false, false, true, false] rfl rfl rfl rfl (two_of HT_.out (by kernel_rfl)) (by decide) (by decide) (fun K hK => ?_) (fun K hK => ?_)
            ·
             skip
             refine goes_ Try.func145 (by kernel_rfl) rfl #[.slice cj a8.length ck] (by rfl) rfl rfl lu ?_
             with_reducible refine (nat_Mul.calls k1 _ _ a8 bE _ ?side1 ?side2 dR.out).mono ?_
             (case side1 => exact cu (Kd.N_reads' av.out).2.2)
             (case side2 => exact (Kd.N_reads' av.out).2.1)
             rintro e dw ⟨bJ, rfl, bB, hb⟩
             refine ⟨_, rfl, ?_⟩
             replace bB := R_V_base rfl bB
             replace aC := kv aC hb
             replace aB := kv aB hb
             replace ao := kv ao hb
             replace ad := kv ad hb
             replace ae := kv ae hb
             replace ai := kv ai hb
             replace ah := kv ah hb
             replace aE := kv aE hb
             have aT := ar0 w.heap.size (ok' := fun k_ => (P0_ k_ ∨ w.heap.size ≤ k_) ∧ some k_ ≠ (aG : Value).ownBlock ∧ some k_ ≠ (.slice cj a8.length ck : Value).ownBlock ∧ k_ ≠ ab ∧ k_ ≠ aa) bB (fa (fz2 HB aj al) (fa (fo an) (fa (fo av) (fa (fb ag) (fb ac)))))
             replace an := kn an hb
             replace av := kn av hb
             replace ag := kb ag hb
             replace ac := kb ac hb
             replace HB := be2 HB aj al hb
             (try clear hb)
             (try clear hb2)
             (try clear hk)
             (try clear hi)
             (try clear bB)
             refine hK.out _ _ ⟨bc ac 0, bc ac 1, bc ac 2⟩ (fun hHeld => ?_)
             clear hK K
             refine nq 32 ?_
             exact norm_ (by first | (simp only [putAll, Act.put, List.setIfInBounds_toArray, List.set_cons_zero, List.set_cons_succ]; done) | (simp only [putAll, Act.put, List.setIfInBounds_toArray, List.set_cons_zero, List.set_cons_succ]; rfl)) (hJ7_8_12_13 (aG, a3, .slice cj a8.length ck, bJ) _ ⟨hHeld, (vu ad.out), (vu ae.out), (vu ai.out), (vu ah.out), (nu an.out), (vu aE.out), (nu av.out), (vu aT.out), (vu ao.out), (vu aC.out), (vu aB.out), (ku ag.out), (ku ac.out), (bu2 HB.out aj.out al.out)⟩)
            ·
             skip
             refine box_step ?hg (N := 8) ?hd (cs := #[.bool false, .slice none 0 0, .slice none 0 0]) (t := 67) ?hr ?_; (case hd => rfl); (case hg => rfl); (case hr => first | (go_simp; done) | (go_simp; rfl))
             intro af hg cW hbox hb
             replace aC := ke aC hg hb
             replace aB := ke aB hg hb
             replace ao := ke ao hg hb
             replace ad := ke ad hg hb
             replace ae := ke ae hg hb
             replace ai := ke ai hg hb
             replace ah := ke ah hg hb
             replace an := am (Kd.N_below (Kd.N_elderB (nu an.out) af (Nat.le_of_eq hg.symm)) hb)
             replace aE := ke aE hg hb
             replace av := am (Kd.N_below (Kd.N_elderB (nu av.out) af (Nat.le_of_eq hg.symm)) hb)
             have az := am (hbox)
             have aM := ng hg (bu2 HB.out aj.out al.out)
             have aA := ng hg (bu2 HB.out aj.out al.out)
             replace HB := be2 HB aj al hb
             have au := nl hg ag
             have ax := nr hg ag
             replace ag := kb ag hb
             have ak := nl hg ac
             have ay := nr hg ac
             replace ac := kb ac hb
             clear hb hbox hg
             refine hK.out _ _ ⟨bc ac 0, bc ac 1, bc ac 2⟩ (fun hHeld => ?_)
             clear hK K
             refine nq 8 ?_
             exact norm_ (by first | (simp only [putAll, Act.put, List.setIfInBounds_toArray, List.set_cons_zero, List.set_cons_succ]; done) | (simp only [putAll, Act.put, List.setIfInBounds_toArray, List.set_cons_zero, List.set_cons_succ]; rfl)) (hJ7_8_12_15 (aG, a3, (.slice cj a8.length ck), af) _ ⟨hHeld, (vz ad.out), (vz ae.out), (vz ai.out), (vz ah.out), (by (with_reducible repeat (first | apply Kd.N_alloc | apply Kd.N_drewN | apply Kd.N_drew)); exact Kd.N_mono an.out (fun _ hk => ⟨hk.1.1, ⟨hk.1.2.1, ⟨hk.1.2.2.1, ⟨hk.1.2.2.2, hk.2⟩⟩⟩⟩)), (vz aE.out), (by (with_reducible repeat (first | apply Kd.N_alloc | apply Kd.N_drewN | apply Kd.N_drew)); exact Kd.N_mono av.out (fun _ hk => ⟨hk.1.1, ⟨hk.1.2.1, ⟨hk.1.2.2.1, ⟨hk.1.2.2.2, hk.2⟩⟩⟩⟩)), (vz ao.out), (vz aC.out), (vz aB.out), (ku ag.out), (ku ac.out), (ku az.out), aM.out, aA.out, au.out, ax.out, ak.out, ay.out, (bu3 HB.out aj.out al.out aA.out)⟩)
          ·
           skip
           rintro ⟨aG, a3, aF, af⟩ cW ⟨hS_, a9, ba, bb, bd, bf, bg, bh, bi, bj, bk, aS, aV, aZ, a0, a1, a2, a6, bm, bF, bP⟩
           (try dsimp -simprocs only at a9 ba bb bd bf bg bh bi bj bk aS aV aZ a0 a1 a2 a6 bm bF bP)
           clear aC aB ao ad ae ai ah ag ac HB
           have ad := Aside0.mk a9
           have ae := Aside0.mk ba
           have ai := Aside0.mk bb
           have ah := Aside0.mk bd
           have an := Aside0.mk bf
           have aE := Aside0.mk bg
           have av := Aside0.mk bh
           have ao := Aside0.mk bi
           have aC := Aside0.mk bj
           have aB := Aside0.mk bk
           have ag := Aside0.mk aS
           have ac := Aside0.mk aV
           have az := Aside0.mk aZ
           have aM := Aside0.mk a0
           have aA := Aside0.mk a1
           have au := Aside0.mk a2
           have ax := Aside0.mk a6
           have ak := Aside0.mk bm
           have ay := Aside0.mk bF
           have HB := Aside0.mk bP
           clear a9 ba bb bd bf bg bh bi bj bk aS aV aZ a0 a1 a2 a6 bm bF bP
           have hHeld : cW.cell? ⟨aa, 0, none⟩ = some (.bool aD) ∧ cW.cell? ⟨aa, 1, none⟩ = some (.slice aJ aq.length aK) ∧ cW.cell? ⟨aa, 2, none⟩ = some (.slice aH ap.length aI) := hS_
           obtain ⟨cx, cy, cY⟩ := Kd.N_slice av.out
           (first | subst cY | (injection cY with f1_ f2_ f3_; have f4_ := f1_.symm; have f5_ := f3_.symm; clear f1_ f2_ f3_; subst f4_; subst f5_))
           refine norm_ (a' := ?_) ?_ ?_
           rotate_left
           ·
            simp only [putAll, Act.put, List.setIfInBounds_toArray, List.set_cons_zero, List.set_cons_succ]
            rfl
           refine one_ (i := 13) (N := some 32) #[true, true, true, true, true, true, true, true, true, true, true, true, true, true, false, true, false] rfl rfl (one_of HT_.out (by kernel_rfl)) (by decide) (fun K hK => ?_)
           refine goes_ Try.func145 (by kernel_rfl) rfl #[.slice cx a8.length cy] (by rfl) rfl rfl lu ?_
           with_reducible refine (nat_Mul.calls k1 _ _ a8 bE _ ?side1 ?side2 dR.out).mono ?_
           (case side1 => exact cu (Kd.N_reads' av.out).2.2)
           (case side2 => exact (Kd.N_reads' av.out).2.1)
           rintro e cZ ⟨bJ, rfl, bB, hb⟩
           refine ⟨_, rfl, ?_⟩
           replace bB := R_V_base rfl bB
           replace aC := kv aC hb
           replace aB := kv aB hb
           replace ao := kv ao hb
           replace ad := kv ad hb
           replace ae := kv ae hb
           replace ai := kv ai hb
           replace ah := kv ah hb
           replace aE := kv aE hb
           have aT := ar0 w.heap.size (ok' := fun k_ => (P0_ k_ ∨ w.heap.size ≤ k_) ∧ some k_ ≠ (aG : Value).ownBlock ∧ some k_ ≠ (.slice cx a8.length cy : Value).ownBlock ∧ k_ ≠ ab ∧ k_ ≠ aa ∧ k_ ≠ af) bB (fa (fz3 HB aj al aA) (fa (fo an) (fa (fo av) (fa (fb ag) (fa (fb ac) (fb az))))))
           replace an := kn an hb
           replace av := kn av hb
           replace ag := kb ag hb
           replace ac := kb ac hb
           replace az := kb az hb
           replace HB := be3 HB aj al aA hb
           (try clear hb)
           (try clear hb2)
           (try clear hk)
           (try clear hi)
           (try clear bB)
           refine hK.out _ _ ⟨bc ac 0, bc ac 1, bc ac 2⟩ (fun hHeld => ?_)
           clear hK K
           refine nq 32 ?_
           exact norm_ (by first | (simp only [putAll, Act.put, List.setIfInBounds_toArray, List.set_cons_zero, List.set_cons_succ]; done) | (simp only [putAll, Act.put, List.setIfInBounds_toArray, List.set_cons_zero, List.set_cons_succ]; rfl)) (hJ7_8_12_13_15 (aG, a3, .slice cx a8.length cy, bJ, af) _ ⟨hHeld, (vu ad.out), (vu ae.out), (vu ai.out), (vu ah.out), (nu an.out), (vu aE.out), (nu av.out), (vu aT.out), (vu ao.out), (vu aC.out), (vu aB.out), (ku ag.out), (ku ac.out), (ku az.out), aM.out, aA.out, au.out, ax.out, ak.out, ay.out, (bu3 HB.out aj.out al.out aA.out)⟩)
         ·
          skip
          rintro ⟨aG, a3, aF, bJ⟩ dw ⟨hS_, a9, ba, bb, bd, bf, bg, bh, bi, bj, bk, aS, aV, aZ, a0⟩
          (try dsimp -simprocs only at a9 ba bb bd bf bg bh bi bj bk aS aV aZ a0)
          clear aC aB ao ad ae ai ah ag ac HB
          have ad := Aside0.mk a9
          have ae := Aside0.mk ba
          have ai := Aside0.mk bb
          have ah := Aside0.mk bd
          have an := Aside0.mk bf
          have aE := Aside0.mk bg
          have av := Aside0.mk bh
          have aT := Aside0.mk bi
          have ao := Aside0.mk bj
          have aC := Aside0.mk bk
          have aB := Aside0.mk aS
          have ag := Aside0.mk aV
          have ac := Aside0.mk aZ
          have HB := Aside0.mk a0
          clear a9 ba bb bd bf bg bh bi bj bk aS aV aZ a0
          have hHeld : dw.cell? ⟨aa, 0, none⟩ = some (.bool aD) ∧ dw.cell? ⟨aa, 1, none⟩ = some (.slice aJ aq.length aK) ∧ dw.cell? ⟨aa, 2, none⟩ = some (.slice aH ap.length aI) := hS_
          obtain ⟨cz, cA, c2⟩ := Kd.V_slice aE.out
          (first | subst c2 | (injection c2 with f1_ f2_ f3_; have f4_ := f1_.symm; have f5_ := f3_.symm; clear f1_ f2_ f3_; subst f4_; subst f5_))
          obtain ⟨b0, b1, b8⟩ := Kd.V_slice aT.out
          (first | subst b8 | (injection b8 with f1_ f2_ f3_; have f4_ := f1_.symm; have f5_ := f3_.symm; clear f1_ f2_ f3_; subst f4_; subst f5_))
          refine norm_ (a' := ?_) ?_ ?_
          rotate_left
          ·
           simp only [putAll, Act.put, List.setIfInBounds_toArray, List.set_cons_zero, List.set_cons_succ]
           rfl
          refine two_ (i := 14) (j := 15) (Ni := some 33) (Nj := some 8) #[true, true, true, true, true, true, true, true, true, true, true, true, true, true, true, false, false] #[true, true, true, true, true, true, true, true, true, true, true, true, true, true, false, true, false] rfl rfl rfl rfl (two_of HT_.out (by kernel_rfl)) (by decide) (by decide) (fun K hK => ?_) (fun K hK => ?_)
          ·
           skip
           refine goes_ Try.func155 (by kernel_rfl) rfl #[.bool (bS != aD), .slice cz a7.length cA, .slice b0 bE.length b1] (by rfl) rfl rfl lu ?_
           with_reducible refine (rational_canonical.calls k1 (bS != aD) (fun k_ => ((P0_ k_ ∨ w.heap.size ≤ k_) ∧ (some k_ ≠ (aG : Value).ownBlock ∧ (some k_ ≠ (aF : Value).ownBlock ∧ (k_ ≠ ab ∧ k_ ≠ aa))))) _ _ a7 (fun k_ => ((P0_ k_ ∨ w.heap.size ≤ k_) ∧ (some k_ ≠ (aG : Value).ownBlock ∧ (some k_ ≠ (aF : Value).ownBlock ∧ (k_ ≠ ab ∧ k_ ≠ aa))))) _ _ bE aX aW aY _ ?side1 ?side2 dS.out).mono ?_
           (case side1 => exact vz aE.out)
           (case side2 => exact vz aT.out)
           rintro e dx ⟨bQ, bR, rfl, bB, cm, hb⟩
           refine ⟨_, rfl, ?_⟩
           replace aC := kv aC hb
           replace aB := kv aB hb
           replace ao := kv ao hb
           replace ad := kv ad hb
           replace ae := kv ae hb
           replace ai := kv ai hb
           replace ah := kv ah hb
           replace aE := kv aE hb
           replace aT := kv aT hb
           have a4 := ar w.heap.size (ok' := fun k_ => (P0_ k_ ∨ w.heap.size ≤ k_) ∧ some k_ ≠ (aG : Value).ownBlock ∧ some k_ ≠ (aF : Value).ownBlock ∧ k_ ≠ ab ∧ k_ ≠ aa) bB (fa (fz2 HB aj al) (fa (fo an) (fa (fo av) (fa (fb ag) (fb ac)))))
           have a5 := ar w.heap.size (ok' := fun k_ => (P0_ k_ ∨ w.heap.size ≤ k_) ∧ some k_ ≠ (aG : Value).ownBlock ∧ some k_ ≠ (aF : Value).ownBlock ∧ k_ ≠ ab ∧ k_ ≠ aa) cm (fa (fz2 HB aj al) (fa (fo an) (fa (fo av) (fa (fb ag) (fb ac)))))
           replace an := kn an hb
           replace av := kn av hb
           replace ag := kb ag hb
           replace ac := kb ac hb
           replace HB := be2 HB aj al hb
           (try clear hb)
           (try clear hb2)
           (try clear hk)
           (try clear hi)
           (try clear bB)
           (try clear cm)
           refine hK.out _ _ ⟨bc ac 0, bc ac 1, bc ac 2⟩ (fun hHeld => ?_)
           clear hK K
           refine nq 33 ?_
           exact norm_ (by first | (simp only [putAll, Act.put, List.setIfInBounds_toArray, List.set_cons_zero, List.set_cons_succ]; done) | (simp only [putAll, Act.put, List.setIfInBounds_toArray, List.set_cons_zero, List.set_cons_succ]; rfl)) (hJ7_8_12_13_14 (aG, .slice cz a7.length cA, aF, .slice b0 bE.length b1, bQ, bR) _ ⟨hHeld, (vu ad.out), (vu ae.out), (vu ai.out), (vu ah.out), (nu an.out), (vu aE.out), (nu av.out), (vu aT.out), (vu a4.out), (vu a5.out), (vu ao.out), (vu aC.out), (vu aB.out), (ku ag.out), (ku ac.out), (bu2 HB.out aj.out al.out)⟩)
          ·
           skip
           refine box_step ?hg (N := 8) ?hd (cs := #[.bool false, .slice none 0 0, .slice none 0 0]) (t := 67) ?hr ?_; (case hd => rfl); (case hg => rfl); (case hr => first | (go_simp; done) | (go_simp; rfl))
           intro af hg cZ hbox hb
           replace aC := ke aC hg hb
           replace aB := ke aB hg hb
           replace ao := ke ao hg hb
           replace ad := ke ad hg hb
           replace ae := ke ae hg hb
           replace ai := ke ai hg hb
           replace ah := ke ah hg hb
           replace an := am (Kd.N_below (Kd.N_elderB (nu an.out) af (Nat.le_of_eq hg.symm)) hb)
           replace aE := ke aE hg hb
           replace av := am (Kd.N_below (Kd.N_elderB (nu av.out) af (Nat.le_of_eq hg.symm)) hb)
           replace aT := ke aT hg hb
           have az := am (hbox)
           have aM := ng hg (bu2 HB.out aj.out al.out)
           have aA := ng hg (bu2 HB.out aj.out al.out)
           replace HB := be2 HB aj al hb
           have au := nl hg ag
           have ax := nr hg ag
           replace ag := kb ag hb
           have ak := nl hg ac
           have ay := nr hg ac
           replace ac := kb ac hb
           clear hb hbox hg
           refine hK.out _ _ ⟨bc ac 0, bc ac 1, bc ac 2⟩ (fun hHeld => ?_)
           clear hK K
           refine nq 8 ?_
           exact norm_ (by first | (simp only [putAll, Act.put, List.setIfInBounds_toArray, List.set_cons_zero, List.set_cons_succ]; done) | (simp only [putAll, Act.put, List.setIfInBounds_toArray, List.set_cons_zero, List.set_cons_succ]; rfl)) (hJ7_8_12_13_15 (aG, (.slice cz a7.length cA), aF, (.slice b0 bE.length b1), af) _ ⟨hHeld, (vz ad.out), (vz ae.out), (vz ai.out), (vz ah.out), (by (with_reducible repeat (first | apply Kd.N_alloc | apply Kd.N_drewN | apply Kd.N_drew)); exact Kd.N_mono an.out (fun _ hk => ⟨hk.1.1, ⟨hk.1.2.1, ⟨hk.1.2.2.1, ⟨hk.1.2.2.2, hk.2⟩⟩⟩⟩)), (vz aE.out), (by (with_reducible repeat (first | apply Kd.N_alloc | apply Kd.N_drewN | apply Kd.N_drew)); exact Kd.N_mono av.out (fun _ hk => ⟨hk.1.1, ⟨hk.1.2.1, ⟨hk.1.2.2.1, ⟨hk.1.2.2.2, hk.2⟩⟩⟩⟩)), (vz aT.out), (vz ao.out), (vz aC.out), (vz aB.out), (ku ag.out), (ku ac.out), (ku az.out), aM.out, aA.out, au.out, ax.out, ak.out, ay.out, (bu3 HB.out aj.out al.out aA.out)⟩)
        ·
         skip
         rintro ⟨aG, a3, aF, bJ, af⟩ cZ ⟨hS_, a9, ba, bb, bd, bf, bg, bh, bi, bj, bk, aS, aV, aZ, a0, a1, a2, a6, bm, bF, bP, bX⟩
         (try dsimp -simprocs only at a9 ba bb bd bf bg bh bi bj bk aS aV aZ a0 a1 a2 a6 bm bF bP bX)
         clear aC aB ao ad ae ai ah ag ac HB
         have ad := Aside0.mk a9
         have ae := Aside0.mk ba
         have ai := Aside0.mk bb
         have ah := Aside0.mk bd
         have an := Aside0.mk bf
         have aE := Aside0.mk bg
         have av := Aside0.mk bh
         have aT := Aside0.mk bi
         have ao := Aside0.mk bj
         have aC := Aside0.mk bk
         have aB := Aside0.mk aS
         have ag := Aside0.mk aV
         have ac := Aside0.mk aZ
         have az := Aside0.mk a0
         have aM := Aside0.mk a1
         have aA := Aside0.mk a2
         have au := Aside0.mk a6
         have ax := Aside0.mk bm
         have ak := Aside0.mk bF
         have ay := Aside0.mk bP
         have HB := Aside0.mk bX
         clear a9 ba bb bd bf bg bh bi bj bk aS aV aZ a0 a1 a2 a6 bm bF bP bX
         have hHeld : cZ.cell? ⟨aa, 0, none⟩ = some (.bool aD) ∧ cZ.cell? ⟨aa, 1, none⟩ = some (.slice aJ aq.length aK) ∧ cZ.cell? ⟨aa, 2, none⟩ = some (.slice aH ap.length aI) := hS_
         obtain ⟨b0, b1, b8⟩ := Kd.V_slice aE.out
         (first | subst b8 | (injection b8 with f1_ f2_ f3_; have f4_ := f1_.symm; have f5_ := f3_.symm; clear f1_ f2_ f3_; subst f4_; subst f5_))
         obtain ⟨c3, c4, c5⟩ := Kd.V_slice aT.out
         (first | subst c5 | (injection c5 with f1_ f2_ f3_; have f4_ := f1_.symm; have f5_ := f3_.symm; clear f1_ f2_ f3_; subst f4_; subst f5_))
         refine norm_ (a' := ?_) ?_ ?_
         rotate_left
         ·
          simp only [putAll, Act.put, List.setIfInBounds_toArray, List.set_cons_zero, List.set_cons_succ]
          rfl
         refine one_ (i := 14) (N := some 33) #[true, true, true, true, true, true, true, true, true, true, true, true, true, true, true, true, false] rfl rfl (one_of HT_.out (by kernel_rfl)) (by decide) (fun K hK => ?_)
         refine goes_ Try.func155 (by kernel_rfl) rfl #[.bool (bS != aD), .slice b0 a7.length b1, .slice c3 bE.length c4] (by rfl) rfl rfl lu ?_
         with_reducible refine (rational_canonical.calls k1 (bS != aD) (fun k_ => ((P0_ k_ ∨ w.heap.size ≤ k_) ∧ (some k_ ≠ (aG : Value).ownBlock ∧ (some k_ ≠ (aF : Value).ownBlock ∧ (k_ ≠ ab ∧ (k_ ≠ aa ∧ k_ ≠ af)))))) _ _ a7 (fun k_ => ((P0_ k_ ∨ w.heap.size ≤ k_) ∧ (some k_ ≠ (aG : Value).ownBlock ∧ (some k_ ≠ (aF : Value).ownBlock ∧ (k_ ≠ ab ∧ (k_ ≠ aa ∧ k_ ≠ af)))))) _ _ bE aX aW aY _ ?side1 ?side2 dS.out).mono ?_
         (case side1 => exact vz aE.out)
         (case side2 => exact vz aT.out)
         rintro e bK ⟨bQ, bR, rfl, bB, cm, hb⟩
         refine ⟨_, rfl, ?_⟩
         replace aC := kv aC hb
         replace aB := kv aB hb
         replace ao := kv ao hb
         replace ad := kv ad hb
         replace ae := kv ae hb
         replace ai := kv ai hb
         replace ah := kv ah hb
         replace aE := kv aE hb
         replace aT := kv aT hb
         have a4 := ar w.heap.size (ok' := fun k_ => (P0_ k_ ∨ w.heap.size ≤ k_) ∧ some k_ ≠ (aG : Value).ownBlock ∧ some k_ ≠ (aF : Value).ownBlock ∧ k_ ≠ ab ∧ k_ ≠ aa ∧ k_ ≠ af) bB (fa (fz3 HB aj al aA) (fa (fo an) (fa (fo av) (fa (fb ag) (fa (fb ac) (fb az))))))
         have a5 := ar w.heap.size (ok' := fun k_ => (P0_ k_ ∨ w.heap.size ≤ k_) ∧ some k_ ≠ (aG : Value).ownBlock ∧ some k_ ≠ (aF : Value).ownBlock ∧ k_ ≠ ab ∧ k_ ≠ aa ∧ k_ ≠ af) cm (fa (fz3 HB aj al aA) (fa (fo an) (fa (fo av) (fa (fb ag) (fa (fb ac) (fb az))))))
         replace an := kn an hb
         replace av := kn av hb
         replace ag := kb ag hb
         replace ac := kb ac hb
         replace az := kb az hb
         replace HB := be3 HB aj al aA hb
         (try clear hb)
         (try clear hb2)
         (try clear hk)
         (try clear hi)
         (try clear bB)
         (try clear cm)
         refine hK.out _ _ ⟨bc ac 0, bc ac 1, bc ac 2⟩ (fun hHeld => ?_)
         clear hK K
         refine nq 33 ?_
         exact norm_ (by first | (simp only [putAll, Act.put, List.setIfInBounds_toArray, List.set_cons_zero, List.set_cons_succ]; done) | (simp only [putAll, Act.put, List.setIfInBounds_toArray, List.set_cons_zero, List.set_cons_succ]; rfl)) (hJ7_8_12_13_14_15 (aG, .slice b0 a7.length b1, aF, .slice c3 bE.length c4, bQ, bR, af) _ ⟨hHeld, (vu ad.out), (vu ae.out), (vu ai.out), (vu ah.out), (nu an.out), (vu aE.out), (nu av.out), (vu aT.out), (vu a4.out), (vu a5.out), (vu ao.out), (vu aC.out), (vu aB.out), (ku ag.out), (ku ac.out), (ku az.out), aM.out, aA.out, au.out, ax.out, ak.out, ay.out, (bu3 HB.out aj.out al.out aA.out)⟩)
       ·
        skip
        rintro ⟨aG, a3, aF, bJ, bQ, bR⟩ dx ⟨hS_, a9, ba, bb, bd, bf, bg, bh, bi, bj, bk, aS, aV, aZ, a0, a1, a2⟩
        (try dsimp -simprocs only at a9 ba bb bd bf bg bh bi bj bk aS aV aZ a0 a1 a2)
        clear aC aB ao ad ae ai ah ag ac HB
        have ad := Aside0.mk a9
        have ae := Aside0.mk ba
        have ai := Aside0.mk bb
        have ah := Aside0.mk bd
        have an := Aside0.mk bf
        have aE := Aside0.mk bg
        have av := Aside0.mk bh
        have aT := Aside0.mk bi
        have a4 := Aside0.mk bj
        have a5 := Aside0.mk bk
        have ao := Aside0.mk aS
        have aC := Aside0.mk aV
        have aB := Aside0.mk aZ
        have ag := Aside0.mk a0
        have ac := Aside0.mk a1
        have HB := Aside0.mk a2
        clear a9 ba bb bd bf bg bh bi bj bk aS aV aZ a0 a1 a2
        have hHeld : dx.cell? ⟨aa, 0, none⟩ = some (.bool aD) ∧ dx.cell? ⟨aa, 1, none⟩ = some (.slice aJ aq.length aK) ∧ dx.cell? ⟨aa, 2, none⟩ = some (.slice aH ap.length aI) := hS_
        refine norm_ (a' := ?_) ?_ ?_
        rotate_left
        ·
         simp only [putAll, Act.put, List.setIfInBounds_toArray, List.set_cons_zero, List.set_cons_succ]
         rfl
        refine one_ (i := 15) (N := some 8) #[true, true, true, true, true, true, true, true, true, true, true, true, true, true, true, true, false] rfl rfl (one_of HT_.out (by kernel_rfl)) (by decide) (fun K hK => ?_)
        refine box_step ?hg (N := 8) ?hd (cs := #[.bool false, .slice none 0 0, .slice none 0 0]) (t := 67) ?hr ?_; (case hd => rfl); (case hg => rfl); (case hr => first | (go_simp; done) | (go_simp; rfl))
        intro af hg bK hbox hb
        replace aC := ke aC hg hb
        replace aB := ke aB hg hb
        replace ao := ke ao hg hb
        replace ad := ke ad hg hb
        replace ae := ke ae hg hb
        replace ai := ke ai hg hb
        replace ah := ke ah hg hb
        replace an := am (Kd.N_below (Kd.N_elderB (nu an.out) af (Nat.le_of_eq hg.symm)) hb)
        replace aE := ke aE hg hb
        replace av := am (Kd.N_below (Kd.N_elderB (nu av.out) af (Nat.le_of_eq hg.symm)) hb)
        replace aT := ke aT hg hb
        replace a4 := ke a4 hg hb
        replace a5 := ke a5 hg hb
        have az := am (hbox)
        have aM := ng hg (bu2 HB.out aj.out al.out)
        have aA := ng hg (bu2 HB.out aj.out al.out)
        replace HB := be2 HB aj al hb
        have au := nl hg ag
        have ax := nr hg ag
        replace ag := kb ag hb
        have ak := nl hg ac
        have ay := nr hg ac
        replace ac := kb ac hb
        clear hb hbox hg
        refine hK.out _ _ ⟨bc ac 0, bc ac 1, bc ac 2⟩ (fun hHeld => ?_)
        clear hK K
        refine nq 8 ?_
        exact norm_ (by first | (simp only [putAll, Act.put, List.setIfInBounds_toArray, List.set_cons_zero, List.set_cons_succ]; done) | (simp only [putAll, Act.put, List.setIfInBounds_toArray, List.set_cons_zero, List.set_cons_succ]; rfl)) (hJ7_8_12_13_14_15 (aG, a3, aF, bJ, bQ, bR, af) _ ⟨hHeld, (vz ad.out), (vz ae.out), (vz ai.out), (vz ah.out), (by (with_reducible repeat (first | apply Kd.N_alloc | apply Kd.N_drewN | apply Kd.N_drew)); exact Kd.N_mono an.out (fun _ hk => ⟨hk.1.1, ⟨hk.1.2.1, ⟨hk.1.2.2.1, ⟨hk.1.2.2.2, hk.2⟩⟩⟩⟩)), (vz aE.out), (by (with_reducible repeat (first | apply Kd.N_alloc | apply Kd.N_drewN | apply Kd.N_drew)); exact Kd.N_mono av.out (fun _ hk => ⟨hk.1.1, ⟨hk.1.2.1, ⟨hk.1.2.2.1, ⟨hk.1.2.2.2, hk.2⟩⟩⟩⟩)), (vz aT.out), (vz a4.out), (vz a5.out), (vz ao.out), (vz aC.out), (vz aB.out), (ku ag.out), (ku ac.out), (ku az.out), aM.out, aA.out, au.out, ax.out, ak.out, ay.out, (bu3 HB.out aj.out al.out aA.out)⟩)
      rintro ⟨aG, a3, aF, bJ, bQ, bR, af⟩ bK ⟨hS_, a9, ba, bb, bd, bf, bg, bh, bi, bj, bk, aS, aV, aZ, a0, a1, a2, a6, bm, bF, bP, bX, cB, cC⟩
      (try dsimp -simprocs only at a9 ba bb bd bf bg bh bi bj bk aS aV aZ a0 a1 a2 a6 bm bF bP bX cB cC)
      clear aC aB ao ad ae ai ah ag ac HB
      have ad := Aside0.mk a9
      have ae := Aside0.mk ba
      have ai := Aside0.mk bb
      have ah := Aside0.mk bd
      have an := Aside0.mk bf
      have aE := Aside0.mk bg
      have av := Aside0.mk bh
      have aT := Aside0.mk bi
      have a4 := Aside0.mk bj
      have a5 := Aside0.mk bk
      have ao := Aside0.mk aS
      have aC := Aside0.mk aV
      have aB := Aside0.mk aZ
      have ag := Aside0.mk a0
      have ac := Aside0.mk a1
      have az := Aside0.mk a2
      have aM := Aside0.mk a6
      have aA := Aside0.mk bm
      have au := Aside0.mk bF
      have ax := Aside0.mk bP
      have ak := Aside0.mk bX
      have ay := Aside0.mk cB
      have HB := Aside0.mk cC
      clear a9 ba bb bd bf bg bh bi bj bk aS aV aZ a0 a1 a2 a6 bm bF bP bX cB cC
      have hHeld : bK.cell? ⟨aa, 0, none⟩ = some (.bool aD) ∧ bK.cell? ⟨aa, 1, none⟩ = some (.slice aJ aq.length aK) ∧ bK.cell? ⟨aa, 2, none⟩ = some (.slice aH ap.length aI) := hS_
      obtain ⟨bx, bA, c6⟩ := Kd.V_slice a4.out
      (first | subst c6 | (injection c6 with f1_ f2_ f3_; have f4_ := f1_.symm; have f5_ := f3_.symm; clear f1_ f2_ f3_; subst f4_; subst f5_))
      obtain ⟨bC, bD, da⟩ := Kd.V_slice a5.out
      (first | subst da | (injection da with f1_ f2_ f3_; have f4_ := f1_.symm; have f5_ := f3_.symm; clear f1_ f2_ f3_; subst f4_; subst f5_))
      refine norm_ (a' := ?_) ?_ ?_
      rotate_left
      ·
       simp only [putAll, Act.put, List.setIfInBounds_toArray, List.set_cons_zero, List.set_cons_succ]
       rfl
      refine one_ (i := 16) (N := none) #[true, true, true, true, true, true, true, true, true, true, true, true, true, true, true, true, true] rfl rfl (one_of HT_.out (by kernel_rfl)) (by decide) (fun K hK => ?_)
      have hs40 : bK.cell? ⟨af, 0, none⟩ = some (.bool false) := bc az 0
      have hfs40 := blk_frozen az.out 0
      have hns40_0 := au.out
      have hns40_1 := ak.out
      have hms40_0 := ax.out
      have hms40_1 := ay.out
      have hs42 : bK.cell? ⟨af, 1, none⟩ = some (.slice none 0 0) := bc az 1
      have hfs42 := blk_frozen az.out 1
      have hns42_0 := au.out
      have hns42_1 := ak.out
      have hms42_0 := ax.out
      have hms42_1 := ay.out
      have hs44 : bK.cell? ⟨af, 2, none⟩ = some (.slice none 0 0) := bc az 2
      have hfs44 := blk_frozen az.out 2
      have hns44_0 := au.out
      have hns44_1 := ak.out
      have hms44_0 := ax.out
      have hms44_1 := ay.out
      refine skip_ (w1 := ?_) (by rfl) rfl ?_ ?_
      rotate_left
      ·
       go_simp
       rfl
      refine hK.out _ _ ⟨((cell_far (p := ⟨af, _, none⟩) ak.out _).trans (((cell_far (p := ⟨af, _, none⟩) ak.out _).trans (((cell_far (p := ⟨af, _, none⟩) ak.out _).trans (hHeld.1)))))), ((cell_far (p := ⟨af, _, none⟩) ak.out _).trans (((cell_far (p := ⟨af, _, none⟩) ak.out _).trans (((cell_far (p := ⟨af, _, none⟩) ak.out _).trans (hHeld.2.1)))))), ((cell_far (p := ⟨af, _, none⟩) ak.out _).trans (((cell_far (p := ⟨af, _, none⟩) ak.out _).trans (((cell_far (p := ⟨af, _, none⟩) ak.out _).trans (hHeld.2.2))))))⟩ (fun hHeld => ?_)
      clear hK K
      refine done_ (done_of HT_.out (by kernel_rfl)) ?_
      try go_wp2
      have b9 : Aside0 (Kd.V (Kd.int .u32) 48 (((bK.setCell ⟨af, 0, none⟩ (.bool aX)).setCell ⟨af, 1, none⟩ (.slice bx aW.length bA)).setCell ⟨af, 2, none⟩ (.slice bC aY.length bD)) w.heap.size (fun k_ => (P0_ k_ ∨ w.heap.size ≤ k_) ∧ some k_ ≠ (aG : Value).ownBlock ∧ some k_ ≠ (aF : Value).ownBlock ∧ k_ ≠ ab ∧ k_ ≠ aa ∧ k_ ≠ af) (.slice bv aU.length bw) aU) := ⟨by exact vf aC.out⟩
      have ca : Aside0 (Kd.V (Kd.int .u32) 48 (((bK.setCell ⟨af, 0, none⟩ (.bool aX)).setCell ⟨af, 1, none⟩ (.slice bx aW.length bA)).setCell ⟨af, 2, none⟩ (.slice bC aY.length bD)) w.heap.size (fun k_ => (P0_ k_ ∨ w.heap.size ≤ k_) ∧ some k_ ≠ (aG : Value).ownBlock ∧ some k_ ≠ (aF : Value).ownBlock ∧ k_ ≠ ab ∧ k_ ≠ aa ∧ k_ ≠ af) (.slice AoX5 aN.length coX5) aN) := ⟨by exact vf aB.out⟩
      have cb : Aside0 (Kd.V k67 67 (((bK.setCell ⟨af, 0, none⟩ (.bool aX)).setCell ⟨af, 1, none⟩ (.slice bx aW.length bA)).setCell ⟨af, 2, none⟩ (.slice bC aY.length bD)) w.heap.size (fun k_ => (P0_ k_ ∨ w.heap.size ≤ k_) ∧ some k_ ≠ (aG : Value).ownBlock ∧ some k_ ≠ (aF : Value).ownBlock ∧ k_ ≠ ab ∧ k_ ≠ aa ∧ k_ ≠ af) (.slice (some ad1358) l0.length c0) l0) := ⟨by exact vf ao.out⟩
      have cc : Aside0 (Kd.V (Kd.int .u32) 48 (((bK.setCell ⟨af, 0, none⟩ (.bool aX)).setCell ⟨af, 1, none⟩ (.slice bx aW.length bA)).setCell ⟨af, 2, none⟩ (.slice bC aY.length bD)) w.heap.size (fun k_ => (P0_ k_ ∨ w.heap.size ≤ k_) ∧ some k_ ≠ (aG : Value).ownBlock ∧ some k_ ≠ (aF : Value).ownBlock ∧ k_ ≠ ab ∧ k_ ≠ aa ∧ k_ ≠ af) (.slice aQ ((rd_T67 l0 aw).f1).length aR) ((rd_T67 l0 aw).f1)) := ⟨by exact vf ad.out⟩
      have cd : Aside0 (Kd.V (Kd.int .u32) 48 (((bK.setCell ⟨af, 0, none⟩ (.bool aX)).setCell ⟨af, 1, none⟩ (.slice bx aW.length bA)).setCell ⟨af, 2, none⟩ (.slice bC aY.length bD)) w.heap.size (fun k_ => (P0_ k_ ∨ w.heap.size ≤ k_) ∧ some k_ ≠ (aG : Value).ownBlock ∧ some k_ ≠ (aF : Value).ownBlock ∧ k_ ≠ ab ∧ k_ ≠ aa ∧ k_ ≠ af) (.slice aO ((rd_T67 l0 aw).f2).length aP) ((rd_T67 l0 aw).f2)) := ⟨by exact vf ae.out⟩
      have ce : Aside0 (Kd.V (Kd.int .u32) 48 (((bK.setCell ⟨af, 0, none⟩ (.bool aX)).setCell ⟨af, 1, none⟩ (.slice bx aW.length bA)).setCell ⟨af, 2, none⟩ (.slice bC aY.length bD)) w.heap.size (fun k_ => (P0_ k_ ∨ w.heap.size ≤ k_) ∧ some k_ ≠ (aG : Value).ownBlock ∧ some k_ ≠ (aF : Value).ownBlock ∧ k_ ≠ ab ∧ k_ ≠ aa ∧ k_ ≠ af) (.slice aJ aq.length aK) aq) := ⟨by exact vf ai.out⟩
      have cf : Aside0 (Kd.V (Kd.int .u32) 48 (((bK.setCell ⟨af, 0, none⟩ (.bool aX)).setCell ⟨af, 1, none⟩ (.slice bx aW.length bA)).setCell ⟨af, 2, none⟩ (.slice bC aY.length bD)) w.heap.size (fun k_ => (P0_ k_ ∨ w.heap.size ≤ k_) ∧ some k_ ≠ (aG : Value).ownBlock ∧ some k_ ≠ (aF : Value).ownBlock ∧ k_ ≠ ab ∧ k_ ≠ aa ∧ k_ ≠ af) (.slice aH ap.length aI) ap) := ⟨by exact vf ah.out⟩
      have cg : Aside0 (Kd.N (Kd.slice 48 (Kd.int .u32)) 42 (((bK.setCell ⟨af, 0, none⟩ (.bool aX)).setCell ⟨af, 1, none⟩ (.slice bx aW.length bA)).setCell ⟨af, 2, none⟩ (.slice bC aY.length bD)) w.heap.size (fun k_ => (P0_ k_ ∨ w.heap.size ≤ k_) ∧ some k_ ≠ (aF : Value).ownBlock ∧ k_ ≠ ab ∧ k_ ≠ aa ∧ k_ ≠ af) aG aL) := ⟨by (with_reducible repeat (first | apply Kd.N_alloc | apply Kd.N_drewN | apply Kd.N_drew)); exact Kd.N_mono (Kd.N_far (p := ⟨af, 2, none⟩) (Kd.N_far (p := ⟨af, 1, none⟩) (Kd.N_far (p := ⟨af, 0, none⟩) (Kd.N_mono an.out (fun k_ hk => (⟨hk, hk.2.2.2.2⟩ : _ ∧ k_ ≠ af))) (fun _ hk => hk.2) (.bool aX)) (fun _ hk => hk.2) (.slice bx aW.length bA)) (fun _ hk => hk.2) (.slice bC aY.length bD)) (fun _ hk => ⟨hk.1.1, ⟨hk.1.2.1, ⟨hk.1.2.2.1, ⟨hk.1.2.2.2.1, hk.1.2.2.2.2⟩⟩⟩⟩)⟩
      have cp : Aside0 (Kd.V (Kd.int .u32) 48 (((bK.setCell ⟨af, 0, none⟩ (.bool aX)).setCell ⟨af, 1, none⟩ (.slice bx aW.length bA)).setCell ⟨af, 2, none⟩ (.slice bC aY.length bD)) w.heap.size (fun k_ => (P0_ k_ ∨ w.heap.size ≤ k_) ∧ some k_ ≠ (aG : Value).ownBlock ∧ some k_ ≠ (aF : Value).ownBlock ∧ k_ ≠ ab ∧ k_ ≠ aa ∧ k_ ≠ af) a3 a7) := ⟨by exact vf aE.out⟩
      have cq : Aside0 (Kd.N (Kd.slice 48 (Kd.int .u32)) 42 (((bK.setCell ⟨af, 0, none⟩ (.bool aX)).setCell ⟨af, 1, none⟩ (.slice bx aW.length bA)).setCell ⟨af, 2, none⟩ (.slice bC aY.length bD)) w.heap.size (fun k_ => (P0_ k_ ∨ w.heap.size ≤ k_) ∧ some k_ ≠ (aG : Value).ownBlock ∧ k_ ≠ ab ∧ k_ ≠ aa ∧ k_ ≠ af) aF a8) := ⟨by (with_reducible repeat (first | apply Kd.N_alloc | apply Kd.N_drewN | apply Kd.N_drew)); exact Kd.N_mono (Kd.N_far (p := ⟨af, 2, none⟩) (Kd.N_far (p := ⟨af, 1, none⟩) (Kd.N_far (p := ⟨af, 0, none⟩) (Kd.N_mono av.out (fun k_ hk => (⟨hk, hk.2.2.2.2⟩ : _ ∧ k_ ≠ af))) (fun _ hk => hk.2) (.bool aX)) (fun _ hk => hk.2) (.slice bx aW.length bA)) (fun _ hk => hk.2) (.slice bC aY.length bD)) (fun _ hk => ⟨hk.1.1, ⟨hk.1.2.1, ⟨hk.1.2.2.1, ⟨hk.1.2.2.2.1, hk.1.2.2.2.2⟩⟩⟩⟩)⟩
      have cD : Aside0 (Kd.V (Kd.int .u32) 48 (((bK.setCell ⟨af, 0, none⟩ (.bool aX)).setCell ⟨af, 1, none⟩ (.slice bx aW.length bA)).setCell ⟨af, 2, none⟩ (.slice bC aY.length bD)) w.heap.size (fun k_ => (P0_ k_ ∨ w.heap.size ≤ k_) ∧ some k_ ≠ (aG : Value).ownBlock ∧ some k_ ≠ (aF : Value).ownBlock ∧ k_ ≠ ab ∧ k_ ≠ aa ∧ k_ ≠ af) bJ bE) := ⟨by exact vf aT.out⟩
      have cE : Aside0 (Kd.V (Kd.int .u32) 48 (((bK.setCell ⟨af, 0, none⟩ (.bool aX)).setCell ⟨af, 1, none⟩ (.slice bx aW.length bA)).setCell ⟨af, 2, none⟩ (.slice bC aY.length bD)) w.heap.size (fun k_ => (P0_ k_ ∨ w.heap.size ≤ k_) ∧ some k_ ≠ (aG : Value).ownBlock ∧ some k_ ≠ (aF : Value).ownBlock ∧ k_ ≠ ab ∧ k_ ≠ aa ∧ k_ ≠ af) (.slice bx aW.length bA) aW) := ⟨by exact vf a4.out⟩
      have cF : Aside0 (Kd.V (Kd.int .u32) 48 (((bK.setCell ⟨af, 0, none⟩ (.bool aX)).setCell ⟨af, 1, none⟩ (.slice bx aW.length bA)).setCell ⟨af, 2, none⟩ (.slice bC aY.length bD)) w.heap.size (fun k_ => (P0_ k_ ∨ w.heap.size ≤ k_) ∧ some k_ ≠ (aG : Value).ownBlock ∧ some k_ ≠ (aF : Value).ownBlock ∧ k_ ≠ ab ∧ k_ ≠ aa ∧ k_ ≠ af) (.slice bC aY.length bD) aY) := ⟨by exact vf a5.out⟩
      have cG : Aside0 ((((bK.setCell ⟨af, 0, none⟩ (.bool aX)).setCell ⟨af, 1, none⟩ (.slice bx aW.length bA)).setCell ⟨af, 2, none⟩ (.slice bC aY.length bD)).heap[ab]? = some (.cells #[.bool false, .slice none 0 0, .slice none 0 0] 67 (0, 0))) := ⟨by (with_reducible repeat (first | refine blk_drewN ?_ _ | refine blk_drew ?_ | refine blk_alloc ?_ _)); refine blk_far ?_ au.out _; (with_reducible repeat (first | refine blk_drewN ?_ _ | refine blk_drew ?_ | refine blk_alloc ?_ _)); refine blk_far ?_ au.out _; (with_reducible repeat (first | refine blk_drewN ?_ _ | refine blk_drew ?_ | refine blk_alloc ?_ _)); refine blk_far ?_ au.out _; (with_reducible repeat (first | refine blk_drewN ?_ _ | refine blk_drew ?_ | refine blk_alloc ?_ _)); exact ag.out⟩
      have cH : Aside0 ((((bK.setCell ⟨af, 0, none⟩ (.bool aX)).setCell ⟨af, 1, none⟩ (.slice bx aW.length bA)).setCell ⟨af, 2, none⟩ (.slice bC aY.length bD)).heap[aa]? = some (.cells #[.bool aD, .slice aJ aq.length aK, .slice aH ap.length aI] 67 (0, 0))) := ⟨by (with_reducible repeat (first | refine blk_drewN ?_ _ | refine blk_drew ?_ | refine blk_alloc ?_ _)); refine blk_far ?_ ak.out _; (with_reducible repeat (first | refine blk_drewN ?_ _ | refine blk_drew ?_ | refine blk_alloc ?_ _)); refine blk_far ?_ ak.out _; (with_reducible repeat (first | refine blk_drewN ?_ _ | refine blk_drew ?_ | refine blk_alloc ?_ _)); refine blk_far ?_ ak.out _; (with_reducible repeat (first | refine blk_drewN ?_ _ | refine blk_drew ?_ | refine blk_alloc ?_ _)); exact ac.out⟩
      have cI : Aside0 ((((bK.setCell ⟨af, 0, none⟩ (.bool aX)).setCell ⟨af, 1, none⟩ (.slice bx aW.length bA)).setCell ⟨af, 2, none⟩ (.slice bC aY.length bD)).heap[af]? = some (.cells #[.bool aX, .slice bx aW.length bA, .slice bC aY.length bD] 67 (0, 0))) := ⟨by (with_reducible repeat (first | refine blk_drewN ?_ _ | refine blk_drew ?_ | refine blk_alloc ?_ _)); refine blk_put (cs := #[.bool aX, .slice bx aW.length bA, .slice none 0 0]) ?_ 2 _ rfl; (with_reducible repeat (first | refine blk_drewN ?_ _ | refine blk_drew ?_ | refine blk_alloc ?_ _)); refine blk_put (cs := #[.bool aX, .slice none 0 0, .slice none 0 0]) ?_ 1 _ rfl; (with_reducible repeat (first | refine blk_drewN ?_ _ | refine blk_drew ?_ | refine blk_alloc ?_ _)); refine blk_put (cs := #[.bool false, .slice none 0 0, .slice none 0 0]) ?_ 0 _ rfl; (with_reducible repeat (first | refine blk_drewN ?_ _ | refine blk_drew ?_ | refine blk_alloc ?_ _)); exact az.out⟩
      have cJ : Aside0 (Below w.heap.size w (((bK.setCell ⟨af, 0, none⟩ (.bool aX)).setCell ⟨af, 1, none⟩ (.slice bx aW.length bA)).setCell ⟨af, 2, none⟩ (.slice bC aY.length bD))) := ⟨by repeat (first | (with_reducible first | exact HB.out | apply below_alloc | apply pw_below_drewN | apply below_drew1 | refine below_set ?_ aj.out | refine below_set ?_ al.out | refine below_set ?_ aA.out) | exact HB.out)⟩
      (try clear aC)
      (try clear aB)
      (try clear ao)
      (try clear ad)
      (try clear ae)
      (try clear ai)
      (try clear ah)
      (try clear an)
      (try clear aE)
      (try clear av)
      (try clear aT)
      (try clear a4)
      (try clear a5)
      (try clear ag)
      (try clear ac)
      (try clear az)
      (try clear HB)
      generalize (((bK.setCell ⟨af, 0, none⟩ (.bool aX)).setCell ⟨af, 1, none⟩ (.slice bx aW.length bA)).setCell ⟨af, 2, none⟩ (.slice bC aY.length bD)) = d5 at b9 ca cb cc cd ce cf cg cp cq cD cE cF cG cH cI cJ ⊢
      have aC := b9
      have aB := ca
      have ao := cb
      have ad := cc
      have ae := cd
      have ai := ce
      have ah := cf
      have an := cg
      have aE := cp
      have av := cq
      have aT := cD
      have a4 := cE
      have a5 := cF
      have ag := cG
      have ac := cH
      have az := cI
      have HB := cJ
      clear b9 ca cb cc cd ce cf cg cp cq cD cE cF cG cH cI cJ
      replace aC := am (Kd.V_drew aC.out)
      replace aB := am (Kd.V_drew aB.out)
      replace ao := am (Kd.V_drew ao.out)
      replace ad := am (Kd.V_drew ad.out)
      replace ae := am (Kd.V_drew ae.out)
      replace ai := am (Kd.V_drew ai.out)
      replace ah := am (Kd.V_drew ah.out)
      replace an := am (Kd.N_drew an.out)
      replace aE := am (Kd.V_drew aE.out)
      replace av := am (Kd.N_drew av.out)
      replace aT := am (Kd.V_drew aT.out)
      replace a4 := am (Kd.V_drew a4.out)
      replace a5 := am (Kd.V_drew a5.out)
      replace ag := am (blk_drew ag.out)
      replace ac := am (blk_drew ac.out)
      replace az := am (blk_drew az.out)
      replace HB := am (below_drew1 HB.out)
      refine start_ (n := 9) (S := fun w' => w'.cell? ⟨af, 0, none⟩ = some (.bool aX) ∧ w'.cell? ⟨af, 1, none⟩ = some (.slice bx aW.length bA) ∧ w'.cell? ⟨af, 2, none⟩ = some (.slice bC aY.length bD)) (ds := []) #[false, false, false, false, false, false, false, false, false] (by kernel_rfl) rfl rfl ⟨bc az 0, bc az 1, bc az 2⟩ (fun hHeld => ?_); refine with_tabW rational_Mul.tab7 rational_Mul.bits7 (fun HT_ HW_ => ?_)
      generalize d5.drew = d7 at aC aB ao ad ae ai ah an aE av aT a4 a5 ag ac az HB hHeld ⊢
      refine pq 0 (some 34) #[true, false, false, false, false, false, false, false, false] HT_ ?_
      refine pq 2 (some 36) #[true, false, true, false, false, false, false, false, false] HT_ ?_
      refine pq 4 (some 38) #[true, false, true, false, true, false, false, false, false] HT_ ?_
      refine tq 1 (some 35) #[true, true, true, false, true, false, false, false, false] HT_ HW_ hHeld ?_
      refine pq 6 (some 3) #[true, true, true, false, true, false, true, false, false] HT_ ?_
      refine tq 3 (some 37) #[true, true, true, true, true, false, true, false, false] HT_ HW_ hHeld ?_
      refine pq 7 (some 4) #[true, true, true, true, true, false, true, true, false] HT_ ?_
      refine tq 5 (some 39) #[true, true, true, true, true, true, true, true, false] HT_ HW_ hHeld ?_
      refine pq 8 (some 5) #[true, true, true, true, true, true, true, true, true] HT_ ?_
      refine done_ (done_of HT_.out (by kernel_rfl)) ?_
      try go_wp2
      go_roundg k1
      case measure => have := HK1.out; omega
      case rel => exact ⟨(aX), (aW), (aY), (wrap64 (aw + 1)), (by first | rfl | (simp; done) | (simp [*]; done)), (by first | rfl | (simp; done) | (simp [*]; done)), H', ⟨by have := HK1.out; omega⟩, ⟨by exact vz a4.out⟩, ⟨by exact vz a5.out⟩, ⟨by exact vz ao.out⟩, ⟨by (with_reducible repeat (first | refine blk_drewN ?_ _ | refine blk_drew ?_ | refine blk_alloc ?_ _)); exact ag.out⟩, ⟨by repeat (first | (with_reducible first | exact HB.out | apply below_alloc | apply pw_below_drewN | apply below_drew1 | refine below_set ?_ aj.out | refine below_set ?_ al.out | refine below_set ?_ aA.out) | exact HB.out)⟩⟩
     ·
      rw [if_neg c9] at H
      exact absurd H (by simp)
    ·
     rw [if_neg c8] at H
     exact absurd H (by simp)
   ·
    rw [if_neg c7] at H
    have dF : decide (aw < (l0.length : Int)) = false := decide_eq_false c7
    clear c7
    simp only [Option.some.injEq, Prod.mk.injEq] at H
    obtain ⟨rfl, rfl, rfl⟩ := H
    obtain ⟨dJ, dK, dL⟩ := Kd.V_slice aB.out
    subst dL
    obtain ⟨dM, dN, dO⟩ := Kd.V_slice aC.out
    subst dO
    obtain ⟨dy, dz, dA, dB, dC, dD⟩ := bz ag
    go_wp2
    refine bodyPost_ret (results_cell_row rfl _ _ ab 67 #[.bool bS, .slice dM aU.length dN, .slice dJ aN.length dK] (0, 0) _ rfl (kp ag.out) Try.underlying67 rfl (by kernel_rfl)) rfl ?_
    exact ⟨_, _, by first | rfl | (simp [errW_none, errW_some] <;> rfl) | (simp [*, errW_none, errW_some] <;> rfl), by exact vf aC.out, by exact vf aB.out, by repeat (first | (with_reducible first | exact HB.out | apply below_alloc | apply pw_below_drewN | apply below_drew1 | refine below_set ?_ aj.out) | exact HB.out)⟩
def rational_plus.f (k : Nat) (a0_0 : Bool) (l0_1 : List Int) (l0_2 : List Int) (a1_0 : Bool) (l1_1 : List Int) (l1_2 : List Int) : Option (Bool × List Int × List Int) := (nat_Mul.f k (([l0_1, l1_2] : List (List Int)))).bind fun t1633 => ((nat_Mul.f k (([l1_1, l0_2] : List (List Int)))).bind fun t1639 => ((nat_Mul.f k (([l0_2, l1_2] : List (List Int)))).bind fun t1645 => (if (a0_0 == a1_0) = true then ((nat_Add.f k (([t1633, t1639] : List (List Int)))).bind fun t1651 => ((rational_canonical.f k a0_0 t1651 t1645).bind fun bt1654 => (some (bt1654.1, bt1654.2.1, bt1654.2.2)))) else ((nat_Cmp.f k t1633 t1639).bind fun t1661 => (if t1661 < 0 then ((nat_Sub.f k t1639 t1633).bind fun bt1662 => ((rational_canonical.f k a1_0 bt1662.1 t1645).bind fun bt1666 => (some (bt1666.1, bt1666.2.1, bt1666.2.2)))) else ((nat_Sub.f k t1633 t1639).bind fun bt1673 => ((rational_canonical.f k a0_0 bt1673.1 t1645).bind fun bt1677 => (some (bt1677.1, bt1677.2.1, bt1677.2.2)))))))))
def rational_plus.T1 : Bool × List (List Nat × List Nat) := (true, [([], []), ([0], [0]), ([], []), ([2], [2]), ([1, 3], [1, 3]), ([4], [4]), ([], []), ([6], [6]), ([], []), ([8], [8]), ([7, 9], [7, 9]), ([10, 5], [10]), ([5, 11, 0, 1, 2, 3, 4, 5], [5]), ([11, 12, 0, 1, 2, 3, 4, 5, 6, 7, 8, 9, 10, 11, 12], [11])])
def rational_plus.B1 : List Nat := [0, 1, 0, 4, 15, 31, 0, 64, 0, 256, 960, 2047, 4095, 8191]
theorem rational_plus.tab1 : rtab .any (opsOf Try.f165 1) = rational_plus.T1 := by kernel_rfl
theorem rational_plus.bits1 : waitsOk rational_plus.T1.2 rational_plus.B1 = true := by kernel_rfl
def rational_plus.T4 : Bool × List (List Nat × List Nat) := (true, [([], []), ([0], [0]), ([], []), ([], []), ([2, 3], [2, 3]), ([4], [4]), ([], []), ([1, 5, 6, 5], [1, 5, 6]), ([7, 7, 0, 1, 2, 3, 4, 5, 6, 7], [7])])
def rational_plus.B4 : List Nat := [0, 1, 0, 0, 12, 28, 0, 127, 255]
theorem rational_plus.tab4 : rtab .any (opsOf Try.f165 4) = rational_plus.T4 := by kernel_rfl
theorem rational_plus.bits4 : waitsOk rational_plus.T4.2 rational_plus.B4 = true := by kernel_rfl
theorem rational_plus.calls (k : Nat) (a0_0 : Bool) (P0_1_ : Nat → Prop) (A0_1 : Option Addr) (c0_1 : Nat) (l0_1 : List Int) (P0_2_ : Nat → Prop) (A0_2 : Option Addr) (c0_2 : Nat) (l0_2 : List Int) (a1_0 : Bool) (P1_1_ : Nat → Prop) (A1_1 : Option Addr) (c1_1 : Nat) (l1_1 : List Int) (P1_2_ : Nat → Prop) (A1_2 : Option Addr) (c1_2 : Nat) (l1_2 : List Int) (r1 : Bool) (r2 : List Int) (r3 : List Int) (w : World) (hs0_1 : Kd.V (Kd.int .u32) 48 w w.heap.size (fun k_ => P0_1_ k_) (.slice A0_1 l0_1.length c0_1) l0_1) (hs0_2 : Kd.V (Kd.int .u32) 48 w w.heap.size (fun k_ => P0_2_ k_) (.slice A0_2 l0_2.length c0_2) l0_2) (hs1_1 : Kd.V (Kd.int .u32) 48 w w.heap.size (fun k_ => P1_1_ k_) (.slice A1_1 l1_1.length c1_1) l1_1) (hs1_2 : Kd.V (Kd.int .u32) 48 w w.heap.size (fun k_ => P1_2_ k_) (.slice A1_2 l1_2.length c1_2) l1_2) (h : rational_plus.f k a0_0 l0_1 l0_2 a1_0 l1_1 l1_2 = some (r1, r2, r3)) :
 Calls Try.prog 165 #[.agg #[.bool a0_0, .slice A0_1 l0_1.length c0_1, .slice A0_2 l0_2.length c0_2], .agg #[.bool a1_0, .slice A1_1 l1_1.length c1_1, .slice A1_2 l1_2.length c1_2]] w fun e w' => ∃ v1_ v2_ : Value, e = .returned (.agg #[.bool r1, v1_, v2_]) ∧ Kd.V (Kd.int .u32) 48 w' w.heap.size (fun k_ => ((P0_1_ k_ ∨ P0_2_ k_ ∨ P1_1_ k_ ∨ P1_2_ k_) ∨ w.heap.size ≤ k_)) v1_ r2 ∧ Kd.V (Kd.int .u32) 48 w' w.heap.size (fun k_ => ((P0_1_ k_ ∨ P0_2_ k_ ∨ P1_1_ k_ ∨ P1_2_ k_) ∨ w.heap.size ≤ k_)) v2_ r3 ∧ Below w.heap.size w w' := by
 have e3 := Try.underlying67
 have ak := am (show Kd.V (Kd.int .u32) 48 w w.heap.size (fun k_ => ((P0_1_ k_ ∨ P0_2_ k_ ∨ P1_1_ k_ ∨ P1_2_ k_) ∨ w.heap.size ≤ k_)) (.slice A0_1 l0_1.length c0_1) l0_1 from Kd.V_mono hs0_1 (fun k_ hk => .inl (.inl hk)))
 have ag := am (show Kd.V (Kd.int .u32) 48 w w.heap.size (fun k_ => ((P0_1_ k_ ∨ P0_2_ k_ ∨ P1_1_ k_ ∨ P1_2_ k_) ∨ w.heap.size ≤ k_)) (.slice A0_2 l0_2.length c0_2) l0_2 from Kd.V_mono hs0_2 (fun k_ hk => .inl (.inr (.inl hk))))
 have al := am (show Kd.V (Kd.int .u32) 48 w w.heap.size (fun k_ => ((P0_1_ k_ ∨ P0_2_ k_ ∨ P1_1_ k_ ∨ P1_2_ k_) ∨ w.heap.size ≤ k_)) (.slice A1_1 l1_1.length c1_1) l1_1 from Kd.V_mono hs1_1 (fun k_ hk => .inl (.inr (.inr (.inl hk)))))
 have ah := am (show Kd.V (Kd.int .u32) 48 w w.heap.size (fun k_ => ((P0_1_ k_ ∨ P0_2_ k_ ∨ P1_1_ k_ ∨ P1_2_ k_) ∨ w.heap.size ≤ k_)) (.slice A1_2 l1_2.length c1_2) l1_2 from Kd.V_mono hs1_2 (fun k_ hk => .inl (.inr (.inr (.inr hk)))))
 have HB := am (Below.refl w.heap.size w)
 have H : ((nat_Mul.f k (([l0_1, l1_2] : List (List Int)))).bind fun aR => ((nat_Mul.f k (([l1_1, l0_2] : List (List Int)))).bind fun aS => ((nat_Mul.f k (([l0_2, l1_2] : List (List Int)))).bind fun aU => (if (a0_0 == a1_0) = true then ((nat_Add.f k (([aR, aS] : List (List Int)))).bind fun a9 => ((rational_canonical.f k a0_0 a9 aU).bind fun a1 => (some (a1.1, a1.2.1, a1.2.2)))) else ((nat_Cmp.f k aR aS).bind fun ba => (if ba < 0 then ((nat_Sub.f k aS aR).bind fun cd => ((rational_canonical.f k a1_0 cd.1 aU).bind fun bm => (some (bm.1, bm.2.1, bm.2.2)))) else ((nat_Sub.f k aR aS).bind fun ce => ((rational_canonical.f k a0_0 ce.1 aU).bind fun bn => (some (bn.1, bn.2.1, bn.2.2)))))))))) = some (r1, r2, r3) := h
 clear h
 obtain ⟨bi, bo⟩ : ∃ y_ : List (List Int), y_ = (([l0_1, l1_2] : List (List Int))) := ⟨_, rfl⟩
 rw [← bo] at H
 have bB := am bo
 clear bo
 obtain ⟨aR, A3, H⟩ := bs H
 (try dsimp -simprocs only at H)
 obtain ⟨bb, bp⟩ : ∃ y_ : List (List Int), y_ = (([l1_1, l0_2] : List (List Int))) := ⟨_, rfl⟩
 rw [← bp] at H
 have bC := am bp
 clear bp
 obtain ⟨aS, A4, H⟩ := bs H
 (try dsimp -simprocs only at H)
 obtain ⟨aK, bq⟩ : ∃ y_ : List (List Int), y_ = (([l0_2, l1_2] : List (List Int))) := ⟨_, rfl⟩
 rw [← bq] at H
 have a5 := am bq
 clear bq
 obtain ⟨aU, A5, H⟩ := bs H
 (try dsimp -simprocs only at H)
 go_enter Try.func165, Try.ntmps165
 try go_wp2_with (first | ((with_reducible refine gate_dst (N := 2) rfl ?_); refine box_event ?hg (N := 2) ?hd (cs := #[.bool a0_0, .slice A0_1 l0_1.length c0_1, .slice A0_2 l0_2.length c0_2]) (t := 67) ?hr ?_; (case hd => rfl); (case hg => rfl); (case hr => first | (go_simp; done) | (go_simp; rfl)); intro ac hg w9 hbox hb; replace ak := ke ak hg hb; replace ag := ke ag hg hb; replace al := ke al hg hb; replace ah := ke ah hg hb; have aa := am (hbox); have ed := ng hg (bu HB.out); have ai := ng hg (bu HB.out); replace HB := be HB hb; clear hb hbox hg) | ((with_reducible refine gate_dst (N := 3) rfl ?_); refine box_event ?hg (N := 3) ?hd (cs := #[.bool a1_0, .slice A1_1 l1_1.length c1_1, .slice A1_2 l1_2.length c1_2]) (t := 67) ?hr ?_; (case hd => rfl); (case hg => rfl); (case hr => first | (go_simp; done) | (go_simp; rfl)); intro af hg fl hbox hb; replace ak := ke ak hg hb; replace ag := ke ag hg hb; replace al := ke al hg hb; replace ah := ke ah hg hb; have ab := am (hbox); have ee := ng hg (bu1 HB.out ai.out); have an := ng hg (bu1 HB.out ai.out); replace HB := be1 HB ai hb; have aV := nl hg aa; have aG := nr hg aa; replace aa := kb aa hb; clear hb hbox hg) | ((with_reducible refine gate_dst (N := 4) rfl ?_); refine box_event ?hg (N := 4) ?hd (cs := #[.bool false, .slice none 0 0, .slice none 0 0]) (t := 67) ?hr ?_; (case hd => rfl); (case hg => rfl); (case hr => first | (go_simp; done) | (go_simp; rfl)); intro ae hg e4 hbox hb; replace ak := ke ak hg hb; replace ag := ke ag hg hb; replace al := ke al hg hb; replace ah := ke ah hg hb; have ad := am (hbox); have ef := ng hg (bu2 HB.out ai.out an.out); have au := ng hg (bu2 HB.out ai.out an.out); replace HB := be2 HB ai an hb; have az := nl hg aa; have aP := nr hg aa; replace aa := kb aa hb; have aW := nl hg ab; have aX := nr hg ab; replace ab := kb ab hb; clear hb hbox hg))
 replace ak := am (Kd.V_drew ak.out)
 replace ag := am (Kd.V_drew ag.out)
 replace al := am (Kd.V_drew al.out)
 replace ah := am (Kd.V_drew ah.out)
 replace aa := am (blk_drew aa.out)
 replace ab := am (blk_drew ab.out)
 replace ad := am (blk_drew ad.out)
 replace HB := am (below_drew1 HB.out)
 refine start_ (n := 14) (S := fun w' => True) (ds := []) #[false, false, false, false, false, false, false, false, false, false, false, false, false, false] (by kernel_rfl) rfl rfl trivial (fun hHeld => ?_); refine with_tabW rational_plus.tab1 rational_plus.bits1 (fun HT_ HW_ => ?_)
 generalize e4.drew = fm at ak ag al ah aa ab ad HB hHeld ⊢
 refine pq 0 (some 10) #[true, false, false, false, false, false, false, false, false, false, false, false, false, false] HT_ ?_
 refine pq 2 (some 12) #[true, false, true, false, false, false, false, false, false, false, false, false, false, false] HT_ ?_
 refine pq 6 (some 16) #[true, false, true, false, false, false, true, false, false, false, false, false, false, false] HT_ ?_
 refine pq 8 (some 18) #[true, false, true, false, false, false, true, false, true, false, false, false, false, false] HT_ ?_
 refine inv_at [1, 3, 4, 5, 7, 9, 10, 11, 12, 13] (fun a0_ b a w' => ∃ (aN : Value) (aL : Value) (aO : Value) (aM : Value) (m12_ : Value) (m13_ : Value), a = putSel a0_ b [(1, 11, .slice A0_1 l0_1.length c0_1), (3, 13, .slice A1_2 l1_2.length c1_2), (4, 14, aN), (5, 15, aL), (7, 17, .slice A1_1 l1_1.length c1_1), (9, 19, .slice A0_2 l0_2.length c0_2), (10, 20, aO), (11, 21, aM), (12, 5, m12_), (13, 6, m13_)] ∧ (Kd.V (Kd.int .u32) 48 w' w.heap.size (fun k_ => ((P0_1_ k_ ∨ P0_2_ k_ ∨ P1_1_ k_ ∨ P1_2_ k_) ∨ w.heap.size ≤ k_) ∧ k_ ≠ ac ∧ k_ ≠ af ∧ k_ ≠ ae) (.slice A0_1 l0_1.length c0_1) l0_1) ∧ (Kd.V (Kd.int .u32) 48 w' w.heap.size (fun k_ => ((P0_1_ k_ ∨ P0_2_ k_ ∨ P1_1_ k_ ∨ P1_2_ k_) ∨ w.heap.size ≤ k_) ∧ k_ ≠ ac ∧ k_ ≠ af ∧ k_ ≠ ae) (.slice A0_2 l0_2.length c0_2) l0_2) ∧ (Kd.V (Kd.int .u32) 48 w' w.heap.size (fun k_ => ((P0_1_ k_ ∨ P0_2_ k_ ∨ P1_1_ k_ ∨ P1_2_ k_) ∨ w.heap.size ≤ k_) ∧ k_ ≠ ac ∧ k_ ≠ af ∧ k_ ≠ ae) (.slice A1_1 l1_1.length c1_1) l1_1) ∧ (Kd.V (Kd.int .u32) 48 w' w.heap.size (fun k_ => ((P0_1_ k_ ∨ P0_2_ k_ ∨ P1_1_ k_ ∨ P1_2_ k_) ∨ w.heap.size ≤ k_) ∧ k_ ≠ ac ∧ k_ ≠ af ∧ k_ ≠ ae) (.slice A1_2 l1_2.length c1_2) l1_2) ∧ (w'.heap[ac]? = some (.cells #[.bool a0_0, .slice A0_1 l0_1.length c0_1, .slice A0_2 l0_2.length c0_2] 67 (0, 0))) ∧ (w'.heap[af]? = some (.cells #[.bool a1_0, .slice A1_1 l1_1.length c1_1, .slice A1_2 l1_2.length c1_2] 67 (0, 0))) ∧ (w'.heap[ae]? = some (.cells #[.bool false, .slice none 0 0, .slice none 0 0] 67 (0, 0))) ∧ (Below w.heap.size w w') ∧ (b 4 = true → Kd.N (Kd.slice 48 (Kd.int .u32)) 42 w' w.heap.size (fun k_ => ((P0_1_ k_ ∨ P0_2_ k_ ∨ P1_1_ k_ ∨ P1_2_ k_) ∨ w.heap.size ≤ k_) ∧ k_ ≠ ac ∧ k_ ≠ af ∧ k_ ≠ ae) aN bi) ∧ (b 5 = true → Kd.V (Kd.int .u32) 48 w' w.heap.size (fun k_ => ((P0_1_ k_ ∨ P0_2_ k_ ∨ P1_1_ k_ ∨ P1_2_ k_) ∨ w.heap.size ≤ k_) ∧ k_ ≠ ac ∧ k_ ≠ af ∧ k_ ≠ ae) aL aR) ∧ (b 10 = true → Kd.N (Kd.slice 48 (Kd.int .u32)) 42 w' w.heap.size (fun k_ => ((P0_1_ k_ ∨ P0_2_ k_ ∨ P1_1_ k_ ∨ P1_2_ k_) ∨ w.heap.size ≤ k_) ∧ k_ ≠ ac ∧ k_ ≠ af ∧ k_ ≠ ae) aO bb) ∧ (b 11 = true → Kd.V (Kd.int .u32) 48 w' w.heap.size (fun k_ => ((P0_1_ k_ ∨ P0_2_ k_ ∨ P1_1_ k_ ∨ P1_2_ k_) ∨ w.heap.size ≤ k_) ∧ k_ ≠ ac ∧ k_ ≠ af ∧ k_ ≠ ae) aM aS) ∧ (b 12 = true → (m12_ : Value) = aL) ∧ (b 13 = true → (m13_ : Value) = aM)) HT_.out HW_.out (by kernel_rfl) (by kernel_rfl) ?_ ?_ ?_
 ·
  exact ⟨.bool false, .bool false, .bool false, .bool false, .bool false, .bool false, by simp only [putSel, Bool.false_eq_true, if_false], (vz ak.out), (vz ag.out), (vz al.out), (vz ah.out), aa.out, ab.out, ad.out, HB.out, fun h_ => absurd h_ (by decide), fun h_ => absurd h_ (by decide), fun h_ => absurd h_ (by decide), fun h_ => absurd h_ (by decide), fun h_ => absurd h_ (by decide), fun h_ => absurd h_ (by decide)⟩
 ·
  skip
  clear aa ab ad HB ak ag al ah
  refine steps_cons ?_ ?_
  ·
   rintro b a w' ⟨aN, aL, aO, aM, m12_, m13_, ha, aA, aB, aC, aD, aw, ax, ay, Q_HB, aF, aH, aE, aJ, Q_X12_, Q_X13_⟩ hb_ hon hoff
   refine ⟨_, rfl, fun K hK => ?_⟩
   have e10 : a.tmps[10]? = some (.pointer (some ⟨ac, 1, none⟩)) := by rw [ha]; exact (putSel_off rfl).trans rfl
   replace ha := am ha
   have ak := am aA
   have ag := am aB
   have al := am aC
   have ah := am aD
   have aa := am aw
   have ab := am ax
   have ad := am ay
   have HB := am Q_HB
   obtain ⟨cf, cg, ch⟩ := bx aa
   refine value_ (w1 := w') (v := .slice A0_1 l0_1.length c0_1) (by rfl) rfl ?_ ?_
   ·
    go_simp
    (try simp only [i64_w])
    try rfl
   refine hK.out _ _ ⟨aN, aL, aO, aM, m12_, m13_, (by rw [ha.out]; exact putSel_upk 0 hb_ rfl rfl rfl), aA, aB, aC, aD, aw, ax, ay, Q_HB, fun aQ => absurd ((hoff 4 (by kernel_rfl)).symm.trans aQ) (by decide), fun aQ => absurd ((hoff 5 (by kernel_rfl)).symm.trans aQ) (by decide), aE, fun aQ => absurd ((hoff 11 (by kernel_rfl)).symm.trans aQ) (by decide), fun aQ => absurd ((hoff 12 (by kernel_rfl)).symm.trans aQ) (by decide), fun aQ => absurd ((hoff 13 (by kernel_rfl)).symm.trans aQ) (by decide)⟩
  refine steps_cons ?_ ?_
  ·
   rintro b a w' ⟨aN, aL, aO, aM, m12_, m13_, ha, aA, aB, aC, aD, aw, ax, ay, Q_HB, aF, aH, aE, aJ, Q_X12_, Q_X13_⟩ hb_ hon hoff
   refine ⟨_, rfl, fun K hK => ?_⟩
   have e12 : a.tmps[12]? = some (.pointer (some ⟨af, 2, none⟩)) := by rw [ha]; exact (putSel_off rfl).trans rfl
   replace ha := am ha
   have ak := am aA
   have ag := am aB
   have al := am aC
   have ah := am aD
   have aa := am aw
   have ab := am ax
   have ad := am ay
   have HB := am Q_HB
   obtain ⟨cf, cg, ch⟩ := bx ab
   refine value_ (w1 := w') (v := .slice A1_2 l1_2.length c1_2) (by rfl) rfl ?_ ?_
   ·
    go_simp
    (try simp only [i64_w])
    try rfl
   refine hK.out _ _ ⟨aN, aL, aO, aM, m12_, m13_, (by rw [ha.out]; exact putSel_upk 1 hb_ rfl rfl rfl), aA, aB, aC, aD, aw, ax, ay, Q_HB, fun aQ => absurd ((hoff 4 (by kernel_rfl)).symm.trans aQ) (by decide), fun aQ => absurd ((hoff 5 (by kernel_rfl)).symm.trans aQ) (by decide), aE, fun aQ => absurd ((hoff 11 (by kernel_rfl)).symm.trans aQ) (by decide), fun aQ => absurd ((hoff 12 (by kernel_rfl)).symm.trans aQ) (by decide), fun aQ => absurd ((hoff 13 (by kernel_rfl)).symm.trans aQ) (by decide)⟩
  refine steps_cons ?_ ?_
  ·
   rintro b a w' ⟨aN, aL, aO, aM, m12_, m13_, ha, aA, aB, aC, aD, aw, ax, ay, Q_HB, aF, aH, aE, aJ, Q_X12_, Q_X13_⟩ hb_ hon hoff
   refine ⟨_, rfl, fun K hK => ?_⟩
   have e11 : a.tmps[11]? = some (.slice A0_1 l0_1.length c0_1) := by rw [ha]; exact putSel_on (e := (1, 11, .slice A0_1 l0_1.length c0_1)) 0 rfl rfl (hon 1 (by kernel_rfl)) rfl
   have e13 : a.tmps[13]? = some (.slice A1_2 l1_2.length c1_2) := by rw [ha]; exact putSel_on (e := (3, 13, .slice A1_2 l1_2.length c1_2)) 1 rfl rfl (hon 3 (by kernel_rfl)) rfl
   replace ha := am ha
   have ak := am aA
   have ag := am aB
   have al := am aC
   have ah := am aD
   have aa := am aw
   have ab := am ax
   have ad := am ay
   have HB := am Q_HB
   refine Kd.N_lit_step (Kd.slice 48 (Kd.int .u32)) _ 42 ?hg (N' := 14) ?hd (xs := ([l0_1, l1_2] : List (List Int))) (inner := [.slice A0_1 l0_1.length c0_1, .slice A1_2 l1_2.length c1_2]) (ok := (fun k_ => ((P0_1_ k_ ∨ P0_2_ k_ ∨ P1_1_ k_ ∨ P1_2_ k_) ∨ w.heap.size ≤ k_) ∧ k_ ≠ ac ∧ k_ ≠ af ∧ k_ ≠ ae)) (okp := (fun k_ => ((P0_1_ k_ ∨ P0_2_ k_ ∨ P1_1_ k_ ∨ P1_2_ k_) ∨ w.heap.size ≤ k_) ∧ k_ ≠ ac ∧ k_ ≠ af ∧ k_ ≠ ae)) ?hr ?hp (fun _ hk => hk) ((show ∀ k_, w'.heap.size ≤ k_ → (fun k_ => ((P0_1_ k_ ∨ P0_2_ k_ ∨ P1_1_ k_ ∨ P1_2_ k_) ∨ w.heap.size ≤ k_) ∧ k_ ≠ ac ∧ k_ ≠ af ∧ k_ ≠ ae) k_ from fun k_ hk => ⟨(.inr (Nat.le_trans (below_size (bu3 HB.out ai.out an.out au.out)) hk)), Kd.freshB (g := ac) (o := .cells #[.bool a0_0, .slice A0_1 l0_1.length c0_1, .slice A0_2 l0_2.length c0_2] 67 (0, 0)) (ku aa.out) k_ hk, Kd.freshB (g := af) (o := .cells #[.bool a1_0, .slice A1_1 l1_1.length c1_1, .slice A1_2 l1_2.length c1_2] 67 (0, 0)) (ku ab.out) k_ hk, Kd.freshB (g := ae) (o := .cells #[.bool false, .slice none 0 0, .slice none 0 0] 67 (0, 0)) (ku ad.out) k_ hk⟩) _ (Nat.le_refl _)) (Below.refl _ _) (Nat.le_refl _) (by simp) ?_; (case hd => rfl); (case hg => rfl); (case hr => first | (go_simp; done) | (go_simp; rfl)); (case hp => exact (Reps.one (show Kd.FK (Kd.slice 48 (Kd.int .u32)) _ _ l0_1 [.slice A0_1 l0_1.length c0_1] from (Kd.FK_slice_mk (Kd.V_reads' (vy ((fun k_ => ((P0_1_ k_ ∨ P0_2_ k_ ∨ P1_1_ k_ ∨ P1_2_ k_) ∨ w.heap.size ≤ k_) ∧ k_ ≠ ac ∧ k_ ≠ af ∧ k_ ≠ ae)) ak.out)).2.1 (Kd.V_F (vy ((fun k_ => ((P0_1_ k_ ∨ P0_2_ k_ ∨ P1_1_ k_ ∨ P1_2_ k_) ∨ w.heap.size ≤ k_) ∧ k_ ≠ ac ∧ k_ ≠ af ∧ k_ ≠ ae)) ak.out)))) (Reps.one (show Kd.FK (Kd.slice 48 (Kd.int .u32)) _ _ l1_2 [.slice A1_2 l1_2.length c1_2] from (Kd.FK_slice_mk (Kd.V_reads' (vy ((fun k_ => ((P0_1_ k_ ∨ P0_2_ k_ ∨ P1_1_ k_ ∨ P1_2_ k_) ∨ w.heap.size ≤ k_) ∧ k_ ≠ ac ∧ k_ ≠ af ∧ k_ ≠ ae)) ah.out)).2.1 (Kd.V_F (vy ((fun k_ => ((P0_1_ k_ ∨ P0_2_ k_ ∨ P1_1_ k_ ∨ P1_2_ k_) ∨ w.heap.size ≤ k_) ∧ k_ ≠ ac ∧ k_ ≠ af ∧ k_ ≠ ae)) ah.out)))) (Reps.none _ _))))
   intro aN dn aT hb hg_ hnew_
   clear hg_ hnew_
   (first | rw [← bB.out] at aT | (simp only [Int.reduceToNat] at aT; rw [← bB.out] at aT))
   have bO := el ak aT hb
   have bP := el ag aT hb
   have bQ := el al aT hb
   have bR := el ah aT hb
   have bS := am (Kd.N_lower aT (below_size (bu3 HB.out ai.out an.out au.out)))
   have bT := kb aa hb
   have bU := kb ab hb
   have bV := kb ad hb
   have bW := be3 HB ai an au hb
   have bd := fun (aQ : b 10 = true) => (show Kd.N (Kd.slice 48 (Kd.int .u32)) 42 dn w.heap.size (fun k_ => ((P0_1_ k_ ∨ P0_2_ k_ ∨ P1_1_ k_ ∨ P1_2_ k_) ∨ w.heap.size ≤ k_) ∧ k_ ≠ ac ∧ k_ ≠ af ∧ k_ ≠ ae) aO bb from by first | exact (Kd.N_elder' (by (with_reducible repeat (first | apply Kd.N_alloc | apply Kd.N_drewN | apply Kd.N_drew)); exact (aE aQ)) (Kd.N_base aT) hb) | exact Kd.N_mono (Kd.N_elder' (by (with_reducible repeat (first | apply Kd.N_alloc | apply Kd.N_drewN | apply Kd.N_drew)); exact (aE aQ)) (Kd.N_base aT) hb) (fun _ h_ => by first | trivial | exact h_ | exact h_.1))
   clear ak ag al ah aa ab ad HB
   have ak := bO
   have ag := bP
   have al := bQ
   have ah := bR
   have ao := bS
   have aa := bT
   have ab := bU
   have ad := bV
   have HB := bW
   clear bO bP bQ bR bS bT bU bV bW hb aT
   refine hK.out _ _ ⟨aN, aL, aO, aM, m12_, m13_, (by rw [ha.out]; exact putSel_upk 2 hb_ rfl rfl rfl), (vz ak.out), (vz ag.out), (vz al.out), (vz ah.out), (ku aa.out), (ku ab.out), (ku ad.out), (bu3 HB.out ai.out an.out au.out), fun _ => (nu ao.out), fun aQ => absurd ((hoff 5 (by kernel_rfl)).symm.trans aQ) (by decide), bd, fun aQ => absurd ((hoff 11 (by kernel_rfl)).symm.trans aQ) (by decide), fun aQ => absurd ((hoff 12 (by kernel_rfl)).symm.trans aQ) (by decide), fun aQ => absurd ((hoff 13 (by kernel_rfl)).symm.trans aQ) (by decide)⟩
  refine steps_cons ?_ ?_
  ·
   rintro b a w' ⟨aN, aL, aO, aM, m12_, m13_, ha, aA, aB, aC, aD, aw, ax, ay, Q_HB, aF, aH, aE, aJ, Q_X12_, Q_X13_⟩ hb_ hon hoff
   refine ⟨_, rfl, fun K hK => ?_⟩
   have e14 : a.tmps[14]? = some (aN) := by rw [ha]; exact putSel_on (e := (4, 14, aN)) 2 rfl rfl (hon 4 (by kernel_rfl)) rfl
   replace ha := am ha
   have ak := am aA
   have ag := am aB
   have al := am aC
   have ah := am aD
   have aa := am aw
   have ab := am ax
   have ad := am ay
   have HB := am Q_HB
   have ao := am (aF (hon 4 (by kernel_rfl)))
   obtain ⟨ci, cj, cn⟩ := Kd.N_slice ao.out
   (first | subst cn | (injection cn with f1_ f2_ f3_; have f4_ := f1_.symm; have f5_ := f3_.symm; clear f1_ f2_ f3_; subst f4_; subst f5_))
   refine goes_ Try.func145 (by kernel_rfl) rfl #[.slice ci bi.length cj] (by rfl) rfl rfl (by first | (simp only [List.map_toArray, List.map_cons, List.map_nil, Act.eval, Array.getD_eq_getD_getElem?, Option.getD_some, e14]; done) | (simp only [List.map_toArray, List.map_cons, List.map_nil, Act.eval, Array.getD_eq_getD_getElem?, Option.getD_some, e14]; rfl)) ?_
   with_reducible refine (nat_Mul.calls k _ _ bi aR _ ?side1 ?side2 A3.out).mono ?_
   (case side1 => exact cu (Kd.N_reads' ao.out).2.2)
   (case side2 => exact (Kd.N_reads' ao.out).2.1)
   rintro e e5 ⟨aL, rfl, aY, hb⟩
   refine ⟨_, rfl, ?_⟩
   replace aY := R_V_base rfl aY
   have bO := kv ak hb
   have bP := kv ag hb
   have bQ := kv al hb
   have bR := kv ah hb
   have bS := kn ao hb
   have bT := ar0 w.heap.size (ok' := fun k_ => ((P0_1_ k_ ∨ P0_2_ k_ ∨ P1_1_ k_ ∨ P1_2_ k_) ∨ w.heap.size ≤ k_) ∧ some k_ ≠ (.slice ci bi.length cj : Value).ownBlock ∧ k_ ≠ ac ∧ k_ ≠ af ∧ k_ ≠ ae) aY (fa (fz3 HB ai an au) (fa (fo ao) (fa (fb aa) (fa (fb ab) (fb ad)))))
   have bU := kb aa hb
   have bV := kb ab hb
   have bW := kb ad hb
   have eL := be3 HB ai an au hb
   have bd := fun (aQ : b 10 = true) => (show Kd.N (Kd.slice 48 (Kd.int .u32)) 42 e5 w.heap.size (fun k_ => ((P0_1_ k_ ∨ P0_2_ k_ ∨ P1_1_ k_ ∨ P1_2_ k_) ∨ w.heap.size ≤ k_) ∧ k_ ≠ ac ∧ k_ ≠ af ∧ k_ ≠ ae) aO bb from by first | exact (Kd.N_below (by (with_reducible repeat (first | apply Kd.N_alloc | apply Kd.N_drewN | apply Kd.N_drew)); exact (aE aQ)) hb) | exact Kd.N_mono (Kd.N_below (by (with_reducible repeat (first | apply Kd.N_alloc | apply Kd.N_drewN | apply Kd.N_drew)); exact (aE aQ)) hb) (fun _ h_ => by first | trivial | exact h_ | exact h_.1))
   clear ak ag al ah ao aa ab ad HB
   have ak := bO
   have ag := bP
   have al := bQ
   have ah := bR
   have ao := bS
   have aj := bT
   have aa := bU
   have ab := bV
   have ad := bW
   have HB := eL
   clear bO bP bQ bR bS bT bU bV bW eL
   (try clear hb)
   (try clear hb2)
   (try clear hk)
   (try clear hi)
   (try clear aY)
   refine hK.out _ _ ⟨.slice ci bi.length cj, aL, aO, aM, m12_, m13_, (by rw [ha.out]; exact putSel_upk 3 hb_ rfl rfl rfl), (vz ak.out), (vz ag.out), (vz al.out), (vz ah.out), (ku aa.out), (ku ab.out), (ku ad.out), (bu3 HB.out ai.out an.out au.out), fun _ => (nu ao.out), fun _ => (vz aj.out), bd, fun aQ => absurd ((hoff 11 (by kernel_rfl)).symm.trans aQ) (by decide), fun aQ => absurd ((hoff 12 (by kernel_rfl)).symm.trans aQ) (by decide), fun aQ => absurd ((hoff 13 (by kernel_rfl)).symm.trans aQ) (by decide)⟩
  refine steps_cons ?_ ?_
  ·
   rintro b a w' ⟨aN, aL, aO, aM, m12_, m13_, ha, aA, aB, aC, aD, aw, ax, ay, Q_HB, aF, aH, aE, aJ, Q_X12_, Q_X13_⟩ hb_ hon hoff
   refine ⟨_, rfl, fun K hK => ?_⟩
   have e16 : a.tmps[16]? = some (.pointer (some ⟨af, 1, none⟩)) := by rw [ha]; exact (putSel_off rfl).trans rfl
   replace ha := am ha
   have ak := am aA
   have ag := am aB
   have al := am aC
   have ah := am aD
   have aa := am aw
   have ab := am ax
   have ad := am ay
   have HB := am Q_HB
   obtain ⟨cf, cg, ch⟩ := bx ab
   refine value_ (w1 := w') (v := .slice A1_1 l1_1.length c1_1) (by rfl) rfl ?_ ?_
   ·
    go_simp
    (try simp only [i64_w])
    try rfl
   refine hK.out _ _ ⟨aN, aL, aO, aM, m12_, m13_, (by rw [ha.out]; exact putSel_upk 4 hb_ rfl rfl rfl), aA, aB, aC, aD, aw, ax, ay, Q_HB, aF, aH, fun aQ => absurd ((hoff 10 (by kernel_rfl)).symm.trans aQ) (by decide), fun aQ => absurd ((hoff 11 (by kernel_rfl)).symm.trans aQ) (by decide), fun aQ => absurd ((hoff 12 (by kernel_rfl)).symm.trans aQ) (by decide), fun aQ => absurd ((hoff 13 (by kernel_rfl)).symm.trans aQ) (by decide)⟩
  refine steps_cons ?_ ?_
  ·
   rintro b a w' ⟨aN, aL, aO, aM, m12_, m13_, ha, aA, aB, aC, aD, aw, ax, ay, Q_HB, aF, aH, aE, aJ, Q_X12_, Q_X13_⟩ hb_ hon hoff
   refine ⟨_, rfl, fun K hK => ?_⟩
   have e18 : a.tmps[18]? = some (.pointer (some ⟨ac, 2, none⟩)) := by rw [ha]; exact (putSel_off rfl).trans rfl
   replace ha := am ha
   have ak := am aA
   have ag := am aB
   have al := am aC
   have ah := am aD
   have aa := am aw
   have ab := am ax
   have ad := am ay
   have HB := am Q_HB
   obtain ⟨cf, cg, ch⟩ := bx aa
   refine value_ (w1 := w') (v := .slice A0_2 l0_2.length c0_2) (by rfl) rfl ?_ ?_
   ·
    go_simp
    (try simp only [i64_w])
    try rfl
   refine hK.out _ _ ⟨aN, aL, aO, aM, m12_, m13_, (by rw [ha.out]; exact putSel_upk 5 hb_ rfl rfl rfl), aA, aB, aC, aD, aw, ax, ay, Q_HB, aF, aH, fun aQ => absurd ((hoff 10 (by kernel_rfl)).symm.trans aQ) (by decide), fun aQ => absurd ((hoff 11 (by kernel_rfl)).symm.trans aQ) (by decide), fun aQ => absurd ((hoff 12 (by kernel_rfl)).symm.trans aQ) (by decide), fun aQ => absurd ((hoff 13 (by kernel_rfl)).symm.trans aQ) (by decide)⟩
  refine steps_cons ?_ ?_
  ·
   rintro b a w' ⟨aN, aL, aO, aM, m12_, m13_, ha, aA, aB, aC, aD, aw, ax, ay, Q_HB, aF, aH, aE, aJ, Q_X12_, Q_X13_⟩ hb_ hon hoff
   refine ⟨_, rfl, fun K hK => ?_⟩
   have e17 : a.tmps[17]? = some (.slice A1_1 l1_1.length c1_1) := by rw [ha]; exact putSel_on (e := (7, 17, .slice A1_1 l1_1.length c1_1)) 4 rfl rfl (hon 7 (by kernel_rfl)) rfl
   have e19 : a.tmps[19]? = some (.slice A0_2 l0_2.length c0_2) := by rw [ha]; exact putSel_on (e := (9, 19, .slice A0_2 l0_2.length c0_2)) 5 rfl rfl (hon 9 (by kernel_rfl)) rfl
   replace ha := am ha
   have ak := am aA
   have ag := am aB
   have al := am aC
   have ah := am aD
   have aa := am aw
   have ab := am ax
   have ad := am ay
   have HB := am Q_HB
   refine Kd.N_lit_step (Kd.slice 48 (Kd.int .u32)) _ 42 ?hg (N' := 20) ?hd (xs := ([l1_1, l0_2] : List (List Int))) (inner := [.slice A1_1 l1_1.length c1_1, .slice A0_2 l0_2.length c0_2]) (ok := (fun k_ => ((P0_1_ k_ ∨ P0_2_ k_ ∨ P1_1_ k_ ∨ P1_2_ k_) ∨ w.heap.size ≤ k_) ∧ k_ ≠ ac ∧ k_ ≠ af ∧ k_ ≠ ae)) (okp := (fun k_ => ((P0_1_ k_ ∨ P0_2_ k_ ∨ P1_1_ k_ ∨ P1_2_ k_) ∨ w.heap.size ≤ k_) ∧ k_ ≠ ac ∧ k_ ≠ af ∧ k_ ≠ ae)) ?hr ?hp (fun _ hk => hk) ((show ∀ k_, w'.heap.size ≤ k_ → (fun k_ => ((P0_1_ k_ ∨ P0_2_ k_ ∨ P1_1_ k_ ∨ P1_2_ k_) ∨ w.heap.size ≤ k_) ∧ k_ ≠ ac ∧ k_ ≠ af ∧ k_ ≠ ae) k_ from fun k_ hk => ⟨(.inr (Nat.le_trans (below_size (bu3 HB.out ai.out an.out au.out)) hk)), Kd.freshB (g := ac) (o := .cells #[.bool a0_0, .slice A0_1 l0_1.length c0_1, .slice A0_2 l0_2.length c0_2] 67 (0, 0)) (ku aa.out) k_ hk, Kd.freshB (g := af) (o := .cells #[.bool a1_0, .slice A1_1 l1_1.length c1_1, .slice A1_2 l1_2.length c1_2] 67 (0, 0)) (ku ab.out) k_ hk, Kd.freshB (g := ae) (o := .cells #[.bool false, .slice none 0 0, .slice none 0 0] 67 (0, 0)) (ku ad.out) k_ hk⟩) _ (Nat.le_refl _)) (Below.refl _ _) (Nat.le_refl _) (by simp) ?_; (case hd => rfl); (case hg => rfl); (case hr => first | (go_simp; done) | (go_simp; rfl)); (case hp => exact (Reps.one (show Kd.FK (Kd.slice 48 (Kd.int .u32)) _ _ l1_1 [.slice A1_1 l1_1.length c1_1] from (Kd.FK_slice_mk (Kd.V_reads' (vy ((fun k_ => ((P0_1_ k_ ∨ P0_2_ k_ ∨ P1_1_ k_ ∨ P1_2_ k_) ∨ w.heap.size ≤ k_) ∧ k_ ≠ ac ∧ k_ ≠ af ∧ k_ ≠ ae)) al.out)).2.1 (Kd.V_F (vy ((fun k_ => ((P0_1_ k_ ∨ P0_2_ k_ ∨ P1_1_ k_ ∨ P1_2_ k_) ∨ w.heap.size ≤ k_) ∧ k_ ≠ ac ∧ k_ ≠ af ∧ k_ ≠ ae)) al.out)))) (Reps.one (show Kd.FK (Kd.slice 48 (Kd.int .u32)) _ _ l0_2 [.slice A0_2 l0_2.length c0_2] from (Kd.FK_slice_mk (Kd.V_reads' (vy ((fun k_ => ((P0_1_ k_ ∨ P0_2_ k_ ∨ P1_1_ k_ ∨ P1_2_ k_) ∨ w.heap.size ≤ k_) ∧ k_ ≠ ac ∧ k_ ≠ af ∧ k_ ≠ ae)) ag.out)).2.1 (Kd.V_F (vy ((fun k_ => ((P0_1_ k_ ∨ P0_2_ k_ ∨ P1_1_ k_ ∨ P1_2_ k_) ∨ w.heap.size ≤ k_) ∧ k_ ≠ ac ∧ k_ ≠ af ∧ k_ ≠ ae)) ag.out)))) (Reps.none _ _))))
   intro aO dn aT hb hg_ hnew_
   clear hg_ hnew_
   (first | rw [← bC.out] at aT | (simp only [Int.reduceToNat] at aT; rw [← bC.out] at aT))
   have bO := el ak aT hb
   have bP := el ag aT hb
   have bQ := el al aT hb
   have bR := el ah aT hb
   have bS := am (Kd.N_lower aT (below_size (bu3 HB.out ai.out an.out au.out)))
   have bT := kb aa hb
   have bU := kb ab hb
   have bV := kb ad hb
   have bW := be3 HB ai an au hb
   have bD := fun (aQ : b 4 = true) => (show Kd.N (Kd.slice 48 (Kd.int .u32)) 42 dn w.heap.size (fun k_ => ((P0_1_ k_ ∨ P0_2_ k_ ∨ P1_1_ k_ ∨ P1_2_ k_) ∨ w.heap.size ≤ k_) ∧ k_ ≠ ac ∧ k_ ≠ af ∧ k_ ≠ ae) aN bi from by first | exact (Kd.N_elder' (by (with_reducible repeat (first | apply Kd.N_alloc | apply Kd.N_drewN | apply Kd.N_drew)); exact (aF aQ)) (Kd.N_base aT) hb) | exact Kd.N_mono (Kd.N_elder' (by (with_reducible repeat (first | apply Kd.N_alloc | apply Kd.N_drewN | apply Kd.N_drew)); exact (aF aQ)) (Kd.N_base aT) hb) (fun _ h_ => by first | trivial | exact h_ | exact h_.1))
   have bE := fun (aQ : b 5 = true) => (show Kd.V (Kd.int .u32) 48 dn w.heap.size (fun k_ => ((P0_1_ k_ ∨ P0_2_ k_ ∨ P1_1_ k_ ∨ P1_2_ k_) ∨ w.heap.size ≤ k_) ∧ k_ ≠ ac ∧ k_ ≠ af ∧ k_ ≠ ae) aL aR from by first | exact (Kd.V_elder' (by (with_reducible repeat (first | apply Kd.V_alloc | apply Kd.V_drewN | apply Kd.V_drew)); exact (aH aQ)) (Kd.N_base aT) hb) | exact Kd.V_mono (Kd.V_elder' (by (with_reducible repeat (first | apply Kd.V_alloc | apply Kd.V_drewN | apply Kd.V_drew)); exact (aH aQ)) (Kd.N_base aT) hb) (fun _ h_ => by first | trivial | exact h_ | exact h_.1))
   clear ak ag al ah aa ab ad HB
   have ak := bO
   have ag := bP
   have al := bQ
   have ah := bR
   have av := bS
   have aa := bT
   have ab := bU
   have ad := bV
   have HB := bW
   clear bO bP bQ bR bS bT bU bV bW hb aT
   refine hK.out _ _ ⟨aN, aL, aO, aM, m12_, m13_, (by rw [ha.out]; exact putSel_upk 6 hb_ rfl rfl rfl), (vz ak.out), (vz ag.out), (vz al.out), (vz ah.out), (ku aa.out), (ku ab.out), (ku ad.out), (bu3 HB.out ai.out an.out au.out), bD, bE, fun _ => (nu av.out), fun aQ => absurd ((hoff 11 (by kernel_rfl)).symm.trans aQ) (by decide), fun aQ => absurd ((hoff 12 (by kernel_rfl)).symm.trans aQ) (by decide), fun aQ => absurd ((hoff 13 (by kernel_rfl)).symm.trans aQ) (by decide)⟩
  refine steps_cons ?_ ?_
  ·
   rintro b a w' ⟨aN, aL, aO, aM, m12_, m13_, ha, aA, aB, aC, aD, aw, ax, ay, Q_HB, aF, aH, aE, aJ, Q_X12_, Q_X13_⟩ hb_ hon hoff
   refine ⟨_, rfl, fun K hK => ?_⟩
   have e20 : a.tmps[20]? = some (aO) := by rw [ha]; exact putSel_on (e := (10, 20, aO)) 6 rfl rfl (hon 10 (by kernel_rfl)) rfl
   replace ha := am ha
   have ak := am aA
   have ag := am aB
   have al := am aC
   have ah := am aD
   have aa := am aw
   have ab := am ax
   have ad := am ay
   have HB := am Q_HB
   have ao := am (aF (hon 4 (by kernel_rfl)))
   have aj := am (aH (hon 5 (by kernel_rfl)))
   have av := am (aE (hon 10 (by kernel_rfl)))
   obtain ⟨ck, cl, co⟩ := Kd.N_slice av.out
   (first | subst co | (injection co with f1_ f2_ f3_; have f4_ := f1_.symm; have f5_ := f3_.symm; clear f1_ f2_ f3_; subst f4_; subst f5_))
   refine goes_ Try.func145 (by kernel_rfl) rfl #[.slice ck bb.length cl] (by rfl) rfl rfl (by first | (simp only [List.map_toArray, List.map_cons, List.map_nil, Act.eval, Array.getD_eq_getD_getElem?, Option.getD_some, e20]; done) | (simp only [List.map_toArray, List.map_cons, List.map_nil, Act.eval, Array.getD_eq_getD_getElem?, Option.getD_some, e20]; rfl)) ?_
   with_reducible refine (nat_Mul.calls k _ _ bb aS _ ?side1 ?side2 A4.out).mono ?_
   (case side1 => exact cu (Kd.N_reads' av.out).2.2)
   (case side2 => exact (Kd.N_reads' av.out).2.1)
   rintro e dp ⟨aM, rfl, aY, hb⟩
   refine ⟨_, rfl, ?_⟩
   replace aY := R_V_base rfl aY
   replace ak := kv ak hb
   replace ag := kv ag hb
   replace al := kv al hb
   replace ah := kv ah hb
   replace aj := kv aj hb
   have aq := ar0 w.heap.size (ok' := fun k_ => ((P0_1_ k_ ∨ P0_2_ k_ ∨ P1_1_ k_ ∨ P1_2_ k_) ∨ w.heap.size ≤ k_) ∧ some k_ ≠ (aN : Value).ownBlock ∧ some k_ ≠ (.slice ck bb.length cl : Value).ownBlock ∧ k_ ≠ ac ∧ k_ ≠ af ∧ k_ ≠ ae) aY (fa (fz3 HB ai an au) (fa (fo ao) (fa (fo av) (fa (fb aa) (fa (fb ab) (fb ad))))))
   replace ao := kn ao hb
   replace av := kn av hb
   replace aa := kb aa hb
   replace ab := kb ab hb
   replace ad := kb ad hb
   replace HB := be3 HB ai an au hb
   (try clear hb)
   (try clear hb2)
   (try clear hk)
   (try clear hi)
   (try clear aY)
   refine hK.out _ _ ⟨aN, aL, .slice ck bb.length cl, aM, m12_, m13_, (by rw [ha.out]; exact putSel_upk 7 hb_ rfl rfl rfl), (vz ak.out), (vz ag.out), (vz al.out), (vz ah.out), (ku aa.out), (ku ab.out), (ku ad.out), (bu3 HB.out ai.out an.out au.out), fun _ => (nu ao.out), fun _ => (vz aj.out), fun _ => (nu av.out), fun _ => (vz aq.out), fun aQ => absurd ((hoff 12 (by kernel_rfl)).symm.trans aQ) (by decide), fun aQ => absurd ((hoff 13 (by kernel_rfl)).symm.trans aQ) (by decide)⟩
  refine steps_cons ?_ ?_
  ·
   rintro b a w' ⟨aN, aL, aO, aM, m12_, m13_, ha, aA, aB, aC, aD, aw, ax, ay, Q_HB, aF, aH, aE, aJ, Q_X12_, Q_X13_⟩ hb_ hon hoff
   refine ⟨_, rfl, fun K hK => ?_⟩
   have e15 : a.tmps[15]? = some (aL) := by rw [ha]; exact putSel_on (e := (5, 15, aL)) 3 rfl rfl (hon 5 (by kernel_rfl)) rfl
   replace ha := am ha
   have ak := am aA
   have ag := am aB
   have al := am aC
   have ah := am aD
   have aa := am aw
   have ab := am ax
   have ad := am ay
   have HB := am Q_HB
   have ao := am (aF (hon 4 (by kernel_rfl)))
   have aj := am (aH (hon 5 (by kernel_rfl)))
   have av := am (aE (hon 10 (by kernel_rfl)))
   have aq := am (aJ (hon 11 (by kernel_rfl)))
   refine value_ (w1 := w') (v := aL) (by rfl) rfl ?_ ?_
   ·
    go_simp
    (try simp only [i64_w])
    try rfl
   refine hK.out _ _ ⟨aN, aL, aO, aM, (aL), m13_, (by rw [ha.out]; exact putSel_upk 8 hb_ rfl rfl rfl), aA, aB, aC, aD, aw, ax, ay, Q_HB, aF, aH, aE, aJ, fun _ => rfl, fun aQ => absurd ((hoff 13 (by kernel_rfl)).symm.trans aQ) (by decide)⟩
  refine steps_cons ?_ ?_
  ·
   rintro b a w' ⟨aN, aL, aO, aM, m12_, m13_, ha, aA, aB, aC, aD, aw, ax, ay, Q_HB, aF, aH, aE, aJ, Q_X12_, Q_X13_⟩ hb_ hon hoff
   refine ⟨_, rfl, fun K hK => ?_⟩
   have e21 : a.tmps[21]? = some (aM) := by rw [ha]; exact putSel_on (e := (11, 21, aM)) 7 rfl rfl (hon 11 (by kernel_rfl)) rfl
   replace ha := am ha
   have ak := am aA
   have ag := am aB
   have al := am aC
   have ah := am aD
   have aa := am aw
   have ab := am ax
   have ad := am ay
   have HB := am Q_HB
   have ao := am (aF (hon 4 (by kernel_rfl)))
   have aj := am (aH (hon 5 (by kernel_rfl)))
   have av := am (aE (hon 10 (by kernel_rfl)))
   have aq := am (aJ (hon 11 (by kernel_rfl)))
   refine value_ (w1 := w') (v := aM) (by rfl) rfl ?_ ?_
   ·
    go_simp
    (try simp only [i64_w])
    try rfl
   refine hK.out _ _ ⟨aN, aL, aO, aM, m12_, (aM), (by rw [ha.out]; exact putSel_upk 9 hb_ rfl rfl rfl), aA, aB, aC, aD, aw, ax, ay, Q_HB, aF, aH, aE, aJ, Q_X12_, fun _ => rfl⟩
  exact steps_nil
 rintro b a dp hall ⟨aN, aL, aO, aM, m12_, m13_, ha, aA, aB, aC, aD, aw, ax, ay, Q_HB, aF, aH, aE, aJ, Q_X12_, Q_X13_⟩
 clear aa ab ad HB ak ag al ah
 have hb1_ := hall 1 (by kernel_rfl)
 have hb3_ := hall 3 (by kernel_rfl)
 have hb4_ := hall 4 (by kernel_rfl)
 have hb5_ := hall 5 (by kernel_rfl)
 have hb7_ := hall 7 (by kernel_rfl)
 have hb9_ := hall 9 (by kernel_rfl)
 have hb10_ := hall 10 (by kernel_rfl)
 have hb11_ := hall 11 (by kernel_rfl)
 have hb12_ := hall 12 (by kernel_rfl)
 have hb13_ := hall 13 (by kernel_rfl)
 subst ha
 obtain rfl := Q_X12_ hb12_
 obtain rfl := Q_X13_ hb13_
 simp only [putSel, hb1_, hb3_, hb4_, hb5_, hb7_, hb9_, hb10_, hb11_, hb12_, hb13_, if_true, Act.put, List.setIfInBounds_toArray, List.set_cons_zero, List.set_cons_succ]
 have ak := am aA
 clear aA
 have ag := am aB
 clear aB
 have al := am aC
 clear aC
 have ah := am aD
 clear aD
 have aa := am aw
 clear aw
 have ab := am ax
 clear ax
 have ad := am ay
 clear ay
 have HB := am Q_HB
 clear Q_HB
 have ao := am (aF hb4_)
 clear aF
 have aj := am (aH hb5_)
 clear aH
 have av := am (aE hb10_)
 clear aE
 have aq := am (aJ hb11_)
 clear aJ
 clear hall hb1_ hb3_ hb4_ hb5_ hb7_ hb9_ hb10_ hb11_ hb12_ hb13_
 have eM := aV.out
 have eN := aG.out
 have eO := az.out
 have eP := aP.out
 obtain ⟨dq, dr, dt, du, dv, dw⟩ := bz aa
 have eQ := aW.out
 have eR := aX.out
 obtain ⟨dx, dy, dz, dA, dB, dC⟩ := bz ab
 by_cases c6 : (a0_0 == a1_0) = true
 ·
  rw [if_pos c6] at H
  have eg : (a0_0 == a1_0) = true := c6
  (try (have eh : decide (a0_0 = a1_0) = true := by simpa using c6))
  (try (have ei : (a0_0 == a1_0) = true := by simpa using c6))
  clear c6
  obtain ⟨a8, bf⟩ : ∃ y_ : List (List Int), y_ = (([aR, aS] : List (List Int))) := ⟨_, rfl⟩
  replace H : ((nat_Add.f k a8).bind fun a9 => ((rational_canonical.f k a0_0 a9 aU).bind fun a1 => (some (a1.1, a1.2.1, a1.2.2)))) = some (r1, r2, r3) := by first | (rw [bf]; with_reducible exact H) | (have H2_ := (Option.bind_some _ _).symm.trans H; rw [bf]; with_reducible exact H2_) | (have H2_ := (Option.bind_some _ _).symm.trans H; with_reducible exact H2_) | with_reducible exact H | (rw [bf]; exact H) | exact H
  have bF := am bf
  clear bf
  obtain ⟨a9, A7, H⟩ := bs H
  (try dsimp -simprocs only at H)
  obtain ⟨⟨bX, bY, bZ⟩, A8, H⟩ := bs H
  (try dsimp -simprocs only at H)
  simp only [Option.some.injEq, Prod.mk.injEq] at H
  obtain ⟨rfl, rfl, rfl⟩ := H
  try go_wp2_with (first | ((with_reducible refine gate_dst (N := 26) rfl ?_); refine Kd.N_lit (Kd.slice 48 (Kd.int .u32)) _ 42 ?hg (N' := 26) ?hd (xs := ([l0_2, l1_2] : List (List Int))) (inner := [.slice A0_2 l0_2.length c0_2, .slice A1_2 l1_2.length c1_2]) (ok := (fun k_ => ((P0_1_ k_ ∨ P0_2_ k_ ∨ P1_1_ k_ ∨ P1_2_ k_) ∨ w.heap.size ≤ k_) ∧ k_ ≠ ac ∧ k_ ≠ af ∧ k_ ≠ ae)) (okp := (fun k_ => ((P0_1_ k_ ∨ P0_2_ k_ ∨ P1_1_ k_ ∨ P1_2_ k_) ∨ w.heap.size ≤ k_) ∧ k_ ≠ ac ∧ k_ ≠ af ∧ k_ ≠ ae)) ?hr ?hp (fun _ hk => hk) ((show ∀ k_, dp.heap.size ≤ k_ → (fun k_ => ((P0_1_ k_ ∨ P0_2_ k_ ∨ P1_1_ k_ ∨ P1_2_ k_) ∨ w.heap.size ≤ k_) ∧ k_ ≠ ac ∧ k_ ≠ af ∧ k_ ≠ ae) k_ from fun k_ hk => ⟨(.inr (Nat.le_trans (below_size (bu3 HB.out ai.out an.out au.out)) hk)), Kd.freshB (g := ac) (o := .cells #[.bool a0_0, .slice A0_1 l0_1.length c0_1, .slice A0_2 l0_2.length c0_2] 67 (0, 0)) (ku aa.out) k_ hk, Kd.freshB (g := af) (o := .cells #[.bool a1_0, .slice A1_1 l1_1.length c1_1, .slice A1_2 l1_2.length c1_2] 67 (0, 0)) (ku ab.out) k_ hk, Kd.freshB (g := ae) (o := .cells #[.bool false, .slice none 0 0, .slice none 0 0] 67 (0, 0)) (ku ad.out) k_ hk⟩) _ (Nat.le_refl _)) (Below.refl _ _) (Nat.le_refl _) (by simp) ?_; (case hd => rfl); (case hg => rfl); (case hr => first | (go_simp; done) | (go_simp; rfl)); (case hp => exact (Reps.one (show Kd.FK (Kd.slice 48 (Kd.int .u32)) _ _ l0_2 [.slice A0_2 l0_2.length c0_2] from (Kd.FK_slice_mk (Kd.V_reads' (vy ((fun k_ => ((P0_1_ k_ ∨ P0_2_ k_ ∨ P1_1_ k_ ∨ P1_2_ k_) ∨ w.heap.size ≤ k_) ∧ k_ ≠ ac ∧ k_ ≠ af ∧ k_ ≠ ae)) ag.out)).2.1 (Kd.V_F (vy ((fun k_ => ((P0_1_ k_ ∨ P0_2_ k_ ∨ P1_1_ k_ ∨ P1_2_ k_) ∨ w.heap.size ≤ k_) ∧ k_ ≠ ac ∧ k_ ≠ af ∧ k_ ≠ ae)) ag.out)))) (Reps.one (show Kd.FK (Kd.slice 48 (Kd.int .u32)) _ _ l1_2 [.slice A1_2 l1_2.length c1_2] from (Kd.FK_slice_mk (Kd.V_reads' (vy ((fun k_ => ((P0_1_ k_ ∨ P0_2_ k_ ∨ P1_1_ k_ ∨ P1_2_ k_) ∨ w.heap.size ≤ k_) ∧ k_ ≠ ac ∧ k_ ≠ af ∧ k_ ≠ ae)) ah.out)).2.1 (Kd.V_F (vy ((fun k_ => ((P0_1_ k_ ∨ P0_2_ k_ ∨ P1_1_ k_ ∨ P1_2_ k_) ∨ w.heap.size ≤ k_) ∧ k_ ≠ ac ∧ k_ ≠ af ∧ k_ ≠ ae)) ah.out)))) (Reps.none _ _)))); intro b0 fn a6 hb hg_ hnew_; clear hg_ hnew_; (first | rw [← a5.out] at a6 | (simp only [Int.reduceToNat] at a6; rw [← a5.out] at a6)); replace ak := el ak a6 hb; replace ag := el ag a6 hb; replace al := el al a6 hb; replace ah := el ah a6 hb; replace ao := en ao a6 hb; replace aj := el aj a6 hb; replace av := en av a6 hb; replace aq := el aq a6 hb; have ap := am (Kd.N_lower a6 (below_size (bu3 HB.out ai.out an.out au.out))); replace aa := kb aa hb; replace ab := kb ab hb; replace ad := kb ad hb; replace HB := be3 HB ai an au hb; clear hb a6; obtain ⟨a3, a4, ej⟩ := Kd.N_slice ap.out; subst ej) | ((with_reducible refine gate_callee (f := 145) rfl ?_); refine goesL_ (some 27) rfl rfl Try.func145 (by kernel_rfl) rfl #[.slice a3 aK.length a4] rfl lu ?_; (with_reducible refine (nat_Mul.calls k _ _ aK aU _ ?side1 ?side2 A5.out).mono ?_); (case side1 => exact cu (Kd.N_reads' ap.out).2.2); (case side2 => exact (Kd.N_reads' ap.out).2.1); rintro e e6 ⟨b1, rfl, aY, hb⟩; refine ⟨_, rfl, ?_⟩; replace aY := R_V_base rfl aY; replace ak := kv ak hb; replace ag := kv ag hb; replace al := kv al hb; replace ah := kv ah hb; replace aj := kv aj hb; replace aq := kv aq hb; have aI := ar0 w.heap.size (ok' := fun k_ => ((P0_1_ k_ ∨ P0_2_ k_ ∨ P1_1_ k_ ∨ P1_2_ k_) ∨ w.heap.size ≤ k_) ∧ some k_ ≠ (.slice a3 aK.length a4 : Value).ownBlock ∧ k_ ≠ ac ∧ k_ ≠ af ∧ k_ ≠ ae) aY (fa (fz3 HB ai an au) (fa (fo ap) (fa (fb aa) (fa (fb ab) (fb ad))))); replace ao := kn ao hb; replace av := kn av hb; replace ap := kn ap hb; replace aa := kb aa hb; replace ab := kb ab hb; replace ad := kb ad hb; replace HB := be3 HB ai an au hb; (try clear hb); (try clear hk); (try clear aY); obtain ⟨dD, dE, dF, dG, dH, dI⟩ := bz aa; obtain ⟨dJ, dK, dL, dM, dN, dO⟩ := bz ab))
  replace ak := am (Kd.V_drew ak.out)
  replace ag := am (Kd.V_drew ag.out)
  replace al := am (Kd.V_drew al.out)
  replace ah := am (Kd.V_drew ah.out)
  replace ao := am (Kd.N_drew ao.out)
  replace aj := am (Kd.V_drew aj.out)
  replace av := am (Kd.N_drew av.out)
  replace aq := am (Kd.V_drew aq.out)
  replace ap := am (Kd.N_drew ap.out)
  replace aI := am (Kd.V_drew aI.out)
  replace aa := am (blk_drew aa.out)
  replace ab := am (blk_drew ab.out)
  replace ad := am (blk_drew ad.out)
  replace HB := am (below_drew1 HB.out)
  obtain ⟨cp, cq, cr⟩ := Kd.V_slice aj.out
  (first | subst cr | (injection cr with f1_ f2_ f3_; have f4_ := f1_.symm; have f5_ := f3_.symm; clear f1_ f2_ f3_; subst f4_; subst f5_))
  obtain ⟨ct, cv, cw⟩ := Kd.V_slice aq.out
  (first | subst cw | (injection cw with f1_ f2_ f3_; have f4_ := f1_.symm; have f5_ := f3_.symm; clear f1_ f2_ f3_; subst f4_; subst f5_))
  refine start_ (n := 9) (S := fun w' => w'.cell? ⟨ac, 0, none⟩ = some (.bool a0_0) ∧ w'.cell? ⟨ac, 1, none⟩ = some (.slice A0_1 l0_1.length c0_1) ∧ w'.cell? ⟨ac, 2, none⟩ = some (.slice A0_2 l0_2.length c0_2)) (ds := []) #[false, false, false, false, false, false, false, false, false] (by kernel_rfl) rfl rfl ⟨bc aa 0, bc aa 1, bc aa 2⟩ (fun hHeld => ?_); refine with_tabW rational_plus.tab4 rational_plus.bits4 (fun HT_ HW_ => ?_)
  generalize e6.drew = e7 at ak ag al ah ao aj av aq ap aI aa ab ad HB hHeld ⊢
  refine pq 0 (some 33) #[true, false, false, false, false, false, false, false, false] HT_ ?_
  refine pq 2 (some 35) #[true, false, true, false, false, false, false, false, false] HT_ ?_
  refine pq 3 (some 36) #[true, false, true, true, false, false, false, false, false] HT_ ?_
  refine pq 6 (some 39) #[true, false, true, true, false, false, true, false, false] HT_ ?_
  refine tq 1 (some 34) #[true, true, true, true, false, false, true, false, false] HT_ HW_ hHeld ?_
  refine one_ (i := 4) (N := some 37) #[true, true, true, true, true, false, true, false, false] rfl rfl (one_of HT_.out (by kernel_rfl)) (by decide) (fun K hK => ?_)
  refine Kd.N_lit_step (Kd.slice 48 (Kd.int .u32)) _ 42 ?hg (N' := 37) ?hd (xs := ([aR, aS] : List (List Int))) (inner := [.slice cp aR.length cq, .slice ct aS.length cv]) (ok := (fun k_ => ((P0_1_ k_ ∨ P0_2_ k_ ∨ P1_1_ k_ ∨ P1_2_ k_) ∨ w.heap.size ≤ k_) ∧ some k_ ≠ (.slice a3 aK.length a4 : Value).ownBlock ∧ k_ ≠ ac ∧ k_ ≠ af ∧ k_ ≠ ae)) (okp := (fun k_ => ((P0_1_ k_ ∨ P0_2_ k_ ∨ P1_1_ k_ ∨ P1_2_ k_) ∨ w.heap.size ≤ k_) ∧ some k_ ≠ (.slice a3 aK.length a4 : Value).ownBlock ∧ k_ ≠ ac ∧ k_ ≠ af ∧ k_ ≠ ae)) ?hr ?hp (fun _ hk => hk) ((show ∀ k_, e7.heap.size ≤ k_ → (fun k_ => ((P0_1_ k_ ∨ P0_2_ k_ ∨ P1_1_ k_ ∨ P1_2_ k_) ∨ w.heap.size ≤ k_) ∧ some k_ ≠ (.slice a3 aK.length a4 : Value).ownBlock ∧ k_ ≠ ac ∧ k_ ≠ af ∧ k_ ≠ ae) k_ from fun k_ hk => ⟨(.inr (Nat.le_trans (below_size (bu3 HB.out ai.out an.out au.out)) hk)), Kd.fresh' (Kd.N_lt (nu ap.out)) k_ hk, Kd.freshB (g := ac) (o := .cells #[.bool a0_0, .slice A0_1 l0_1.length c0_1, .slice A0_2 l0_2.length c0_2] 67 (0, 0)) (ku aa.out) k_ hk, Kd.freshB (g := af) (o := .cells #[.bool a1_0, .slice A1_1 l1_1.length c1_1, .slice A1_2 l1_2.length c1_2] 67 (0, 0)) (ku ab.out) k_ hk, Kd.freshB (g := ae) (o := .cells #[.bool false, .slice none 0 0, .slice none 0 0] 67 (0, 0)) (ku ad.out) k_ hk⟩) _ (Nat.le_refl _)) (Below.refl _ _) (Nat.le_refl _) (by simp) ?_; (case hd => rfl); (case hg => rfl); (case hr => first | (go_simp; done) | (go_simp; rfl)); (case hp => exact (Reps.one (show Kd.FK (Kd.slice 48 (Kd.int .u32)) _ _ aR [.slice cp aR.length cq] from (Kd.FK_slice_mk (Kd.V_reads' (vy ((fun k_ => ((P0_1_ k_ ∨ P0_2_ k_ ∨ P1_1_ k_ ∨ P1_2_ k_) ∨ w.heap.size ≤ k_) ∧ some k_ ≠ (.slice a3 aK.length a4 : Value).ownBlock ∧ k_ ≠ ac ∧ k_ ≠ af ∧ k_ ≠ ae)) aj.out)).2.1 (Kd.V_F (vy ((fun k_ => ((P0_1_ k_ ∨ P0_2_ k_ ∨ P1_1_ k_ ∨ P1_2_ k_) ∨ w.heap.size ≤ k_) ∧ some k_ ≠ (.slice a3 aK.length a4 : Value).ownBlock ∧ k_ ≠ ac ∧ k_ ≠ af ∧ k_ ≠ ae)) aj.out)))) (Reps.one (show Kd.FK (Kd.slice 48 (Kd.int .u32)) _ _ aS [.slice ct aS.length cv] from (Kd.FK_slice_mk (Kd.V_reads' (vy ((fun k_ => ((P0_1_ k_ ∨ P0_2_ k_ ∨ P1_1_ k_ ∨ P1_2_ k_) ∨ w.heap.size ≤ k_) ∧ some k_ ≠ (.slice a3 aK.length a4 : Value).ownBlock ∧ k_ ≠ ac ∧ k_ ≠ af ∧ k_ ≠ ae)) aq.out)).2.1 (Kd.V_F (vy ((fun k_ => ((P0_1_ k_ ∨ P0_2_ k_ ∨ P1_1_ k_ ∨ P1_2_ k_) ∨ w.heap.size ≤ k_) ∧ some k_ ≠ (.slice a3 aK.length a4 : Value).ownBlock ∧ k_ ≠ ac ∧ k_ ≠ af ∧ k_ ≠ ae)) aq.out)))) (Reps.none _ _))))
  intro eS fp a2 hb hg_ hnew_
  clear hg_ hnew_
  (first | rw [← bF.out] at a2 | (simp only [Int.reduceToNat] at a2; rw [← bF.out] at a2))
  replace ak := el ak a2 hb
  replace ag := el ag a2 hb
  replace al := el al a2 hb
  replace ah := el ah a2 hb
  replace ao := en ao a2 hb
  replace aj := el aj a2 hb
  replace av := en av a2 hb
  replace aq := el aq a2 hb
  replace ap := en ap a2 hb
  replace aI := el aI a2 hb
  have aZ := am (Kd.N_lower a2 (below_size (bu3 HB.out ai.out an.out au.out)))
  replace aa := kb aa hb
  replace ab := kb ab hb
  replace ad := kb ad hb
  replace HB := be3 HB ai an au hb
  clear hb a2
  obtain ⟨bw, bA, cx⟩ := Kd.N_slice aZ.out
  (first | subst cx | (injection cx with f1_ f2_ f3_; have f4_ := f1_.symm; have f5_ := f3_.symm; clear f1_ f2_ f3_; subst f4_; subst f5_))
  refine hK.out _ _ ⟨bc aa 0, bc aa 1, bc aa 2⟩ (fun hHeld => ?_)
  clear hK K
  refine nq 37 ?_
  refine one_ (i := 5) (N := some 38) #[true, true, true, true, true, true, true, false, false] rfl rfl (one_of HT_.out (by kernel_rfl)) (by decide) (fun K hK => ?_)
  refine goes_ Try.func142 (by kernel_rfl) rfl #[.slice bw a8.length bA] (by rfl) rfl rfl lu ?_
  with_reducible refine (nat_Add.calls k _ _ a8 a9 _ ?side1 ?side2 A7.out).mono ?_
  (case side1 => exact cu (Kd.N_reads' aZ.out).2.2)
  (case side2 => exact (Kd.N_reads' aZ.out).2.1)
  rintro e fq ⟨eT, rfl, aY, hb⟩
  refine ⟨_, rfl, ?_⟩
  replace aY := R_V_base rfl aY
  replace ak := kv ak hb
  replace ag := kv ag hb
  replace al := kv al hb
  replace ah := kv ah hb
  replace aj := kv aj hb
  replace aq := kv aq hb
  replace aI := kv aI hb
  have bj := ar0 w.heap.size (ok' := fun k_ => ((P0_1_ k_ ∨ P0_2_ k_ ∨ P1_1_ k_ ∨ P1_2_ k_) ∨ w.heap.size ≤ k_) ∧ some k_ ≠ (.slice a3 aK.length a4 : Value).ownBlock ∧ some k_ ≠ (.slice bw a8.length bA : Value).ownBlock ∧ k_ ≠ ac ∧ k_ ≠ af ∧ k_ ≠ ae) aY (fa (fz3 HB ai an au) (fa (fo ap) (fa (fo aZ) (fa (fb aa) (fa (fb ab) (fb ad))))))
  replace ao := kn ao hb
  replace av := kn av hb
  replace ap := kn ap hb
  replace aZ := kn aZ hb
  replace aa := kb aa hb
  replace ab := kb ab hb
  replace ad := kb ad hb
  replace HB := be3 HB ai an au hb
  (try clear hb)
  (try clear hb2)
  (try clear hk)
  (try clear hi)
  (try clear aY)
  obtain ⟨ek, em, cy⟩ := Kd.V_slice bj.out
  (first | subst cy | (injection cy with f1_ f2_ f3_; have f4_ := f1_.symm; have f5_ := f3_.symm; clear f1_ f2_ f3_; subst f4_; subst f5_))
  obtain ⟨eo, ep, cz⟩ := Kd.V_slice aI.out
  (first | subst cz | (injection cz with f1_ f2_ f3_; have f4_ := f1_.symm; have f5_ := f3_.symm; clear f1_ f2_ f3_; subst f4_; subst f5_))
  refine hK.out _ _ ⟨bc aa 0, bc aa 1, bc aa 2⟩ (fun hHeld => ?_)
  clear hK K
  refine nq 38 ?_
  refine one_ (i := 7) (N := some 40) #[true, true, true, true, true, true, true, true, false] rfl rfl (one_of HT_.out (by kernel_rfl)) (by decide) (fun K hK => ?_)
  refine goes_ Try.func155 (by kernel_rfl) rfl #[.bool a0_0, .slice ek a9.length em, .slice eo aU.length ep] (by rfl) rfl rfl lu ?_
  with_reducible refine (rational_canonical.calls k a0_0 (fun k_ => (((P0_1_ k_ ∨ P0_2_ k_ ∨ P1_1_ k_ ∨ P1_2_ k_) ∨ w.heap.size ≤ k_) ∧ (((some k_ ≠ (.slice a3 aK.length a4 : Value).ownBlock ∧ (some k_ ≠ (.slice bw a8.length bA : Value).ownBlock ∧ (k_ ≠ ac ∧ (k_ ≠ af ∧ k_ ≠ ae)))))))) _ _ a9 (fun k_ => ((((P0_1_ k_ ∨ P0_2_ k_ ∨ P1_1_ k_ ∨ P1_2_ k_) ∨ w.heap.size ≤ k_) ∧ (((some k_ ≠ (.slice a3 aK.length a4 : Value).ownBlock ∧ (k_ ≠ ac ∧ (k_ ≠ af ∧ k_ ≠ ae)))))) ∧ some k_ ≠ (.slice bw a8.length bA : Value).ownBlock)) _ _ aU bX bY bZ _ ?side1 ?side2 A8.out).mono ?_
  (case side1 => exact vz bj.out)
  (case side2 => exact vz aI.out)
  rintro e eq ⟨eU, eV, rfl, aY, b2, hb⟩
  refine ⟨_, rfl, ?_⟩
  replace ak := kv ak hb
  replace ag := kv ag hb
  replace al := kv al hb
  replace ah := kv ah hb
  replace aj := kv aj hb
  replace aq := kv aq hb
  replace aI := kv aI hb
  replace bj := kv bj hb
  have bG := ar w.heap.size (ok' := fun k_ => ((P0_1_ k_ ∨ P0_2_ k_ ∨ P1_1_ k_ ∨ P1_2_ k_) ∨ w.heap.size ≤ k_) ∧ some k_ ≠ (.slice a3 aK.length a4 : Value).ownBlock ∧ some k_ ≠ (.slice bw a8.length bA : Value).ownBlock ∧ k_ ≠ ac ∧ k_ ≠ af ∧ k_ ≠ ae) aY (fa (fz3 HB ai an au) (fa (fo ap) (fa (fo aZ) (fa (fb aa) (fa (fb ab) (fb ad))))))
  have bH := ar w.heap.size (ok' := fun k_ => ((P0_1_ k_ ∨ P0_2_ k_ ∨ P1_1_ k_ ∨ P1_2_ k_) ∨ w.heap.size ≤ k_) ∧ some k_ ≠ (.slice a3 aK.length a4 : Value).ownBlock ∧ some k_ ≠ (.slice bw a8.length bA : Value).ownBlock ∧ k_ ≠ ac ∧ k_ ≠ af ∧ k_ ≠ ae) b2 (fa (fz3 HB ai an au) (fa (fo ap) (fa (fo aZ) (fa (fb aa) (fa (fb ab) (fb ad))))))
  replace ao := kn ao hb
  replace av := kn av hb
  replace ap := kn ap hb
  replace aZ := kn aZ hb
  replace aa := kb aa hb
  replace ab := kb ab hb
  replace ad := kb ad hb
  replace HB := be3 HB ai an au hb
  (try clear hb)
  (try clear hb2)
  (try clear hk)
  (try clear hi)
  (try clear aY)
  (try clear b2)
  obtain ⟨er, es, cA⟩ := Kd.V_slice bG.out
  (first | subst cA | (injection cA with f1_ f2_ f3_; have f4_ := f1_.symm; have f5_ := f3_.symm; clear f1_ f2_ f3_; subst f4_; subst f5_))
  obtain ⟨et, eu, cB⟩ := Kd.V_slice bH.out
  (first | subst cB | (injection cB with f1_ f2_ f3_; have f4_ := f1_.symm; have f5_ := f3_.symm; clear f1_ f2_ f3_; subst f4_; subst f5_))
  refine hK.out _ _ ⟨bc aa 0, bc aa 1, bc aa 2⟩ (fun hHeld => ?_)
  clear hK K
  refine nq 40 ?_
  refine one_ (i := 8) (N := none) #[true, true, true, true, true, true, true, true, true] rfl rfl (one_of HT_.out (by kernel_rfl)) (by decide) (fun K hK => ?_)
  have hs43 : eq.cell? ⟨ae, 0, none⟩ = some (.bool false) := bc ad 0
  have hfs43 := blk_frozen ad.out 0
  have hns43_0 := az.out
  have hns43_1 := aW.out
  have hms43_0 := aP.out
  have hms43_1 := aX.out
  have hs45 : eq.cell? ⟨ae, 1, none⟩ = some (.slice none 0 0) := bc ad 1
  have hfs45 := blk_frozen ad.out 1
  have hns45_0 := az.out
  have hns45_1 := aW.out
  have hms45_0 := aP.out
  have hms45_1 := aX.out
  have hs47 : eq.cell? ⟨ae, 2, none⟩ = some (.slice none 0 0) := bc ad 2
  have hfs47 := blk_frozen ad.out 2
  have hns47_0 := az.out
  have hns47_1 := aW.out
  have hms47_0 := aP.out
  have hms47_1 := aX.out
  refine skip_ (w1 := ?_) (by rfl) rfl ?_ ?_
  rotate_left
  ·
   go_simp
   rfl
  refine hK.out _ _ ⟨((cell_far (p := ⟨ae, _, none⟩) az.out _).trans (((cell_far (p := ⟨ae, _, none⟩) az.out _).trans (((cell_far (p := ⟨ae, _, none⟩) az.out _).trans (hHeld.1)))))), ((cell_far (p := ⟨ae, _, none⟩) az.out _).trans (((cell_far (p := ⟨ae, _, none⟩) az.out _).trans (((cell_far (p := ⟨ae, _, none⟩) az.out _).trans (hHeld.2.1)))))), ((cell_far (p := ⟨ae, _, none⟩) az.out _).trans (((cell_far (p := ⟨ae, _, none⟩) az.out _).trans (((cell_far (p := ⟨ae, _, none⟩) az.out _).trans (hHeld.2.2))))))⟩ (fun hHeld => ?_)
  clear hK K
  refine done_ (done_of HT_.out (by kernel_rfl)) ?_
  try go_wp2
  refine bodyPost_ret (results_cell_row rfl _ _ ae 67 #[.bool bX, .slice er bY.length es, .slice et bZ.length eu] (0, 0) _ rfl (kp ad.out) Try.underlying67 rfl (by kernel_rfl)) rfl ?_
  exact ⟨_, _, by first | rfl | (simp [errW_none, errW_some] <;> rfl) | (simp [*, errW_none, errW_some] <;> rfl), by exact vf bG.out, by exact vf bH.out, by repeat (first | (with_reducible first | exact HB.out | apply below_alloc | apply pw_below_drewN | apply below_drew1 | refine below_set ?_ ai.out | refine below_set ?_ an.out | refine below_set ?_ au.out) | exact HB.out)⟩
 ·
  rw [if_neg c6] at H
  have eg : (a0_0 == a1_0) = false := by simpa using c6
  (try (have eh : decide (a0_0 = a1_0) = false := by simpa using c6))
  (try (have ei : (a0_0 == a1_0) = false := by simpa using c6))
  (try (have e8 : ¬ (a0_0 = a1_0) := by simpa using c6))
  clear c6
  obtain ⟨ba, eW, H⟩ := bs H
  (try dsimp -simprocs only at H)
  by_cases cm : ba < 0
  ·
   rw [if_pos cm] at H
   have cC : decide (ba < 0) = true := decide_eq_true cm
   clear cm
   obtain ⟨⟨bI, cD⟩, e9, H⟩ := bs H
   (try dsimp -simprocs only at H)
   obtain ⟨⟨b3, b4, b5⟩, fc, H⟩ := bs H
   (try dsimp -simprocs only at H)
   simp only [Option.some.injEq, Prod.mk.injEq] at H
   obtain ⟨rfl, rfl, rfl⟩ := H
   try go_wp2_with (first | ((with_reducible refine gate_dst (N := 26) rfl ?_); refine Kd.N_lit (Kd.slice 48 (Kd.int .u32)) _ 42 ?hg (N' := 26) ?hd (xs := ([l0_2, l1_2] : List (List Int))) (inner := [.slice A0_2 l0_2.length c0_2, .slice A1_2 l1_2.length c1_2]) (ok := (fun k_ => ((P0_1_ k_ ∨ P0_2_ k_ ∨ P1_1_ k_ ∨ P1_2_ k_) ∨ w.heap.size ≤ k_) ∧ k_ ≠ ac ∧ k_ ≠ af ∧ k_ ≠ ae)) (okp := (fun k_ => ((P0_1_ k_ ∨ P0_2_ k_ ∨ P1_1_ k_ ∨ P1_2_ k_) ∨ w.heap.size ≤ k_) ∧ k_ ≠ ac ∧ k_ ≠ af ∧ k_ ≠ ae)) ?hr ?hp (fun _ hk => hk) ((show ∀ k_, dp.heap.size ≤ k_ → (fun k_ => ((P0_1_ k_ ∨ P0_2_ k_ ∨ P1_1_ k_ ∨ P1_2_ k_) ∨ w.heap.size ≤ k_) ∧ k_ ≠ ac ∧ k_ ≠ af ∧ k_ ≠ ae) k_ from fun k_ hk => ⟨(.inr (Nat.le_trans (below_size (bu3 HB.out ai.out an.out au.out)) hk)), Kd.freshB (g := ac) (o := .cells #[.bool a0_0, .slice A0_1 l0_1.length c0_1, .slice A0_2 l0_2.length c0_2] 67 (0, 0)) (ku aa.out) k_ hk, Kd.freshB (g := af) (o := .cells #[.bool a1_0, .slice A1_1 l1_1.length c1_1, .slice A1_2 l1_2.length c1_2] 67 (0, 0)) (ku ab.out) k_ hk, Kd.freshB (g := ae) (o := .cells #[.bool false, .slice none 0 0, .slice none 0 0] 67 (0, 0)) (ku ad.out) k_ hk⟩) _ (Nat.le_refl _)) (Below.refl _ _) (Nat.le_refl _) (by simp) ?_; (case hd => rfl); (case hg => rfl); (case hr => first | (go_simp; done) | (go_simp; rfl)); (case hp => exact (Reps.one (show Kd.FK (Kd.slice 48 (Kd.int .u32)) _ _ l0_2 [.slice A0_2 l0_2.length c0_2] from (Kd.FK_slice_mk (Kd.V_reads' (vy ((fun k_ => ((P0_1_ k_ ∨ P0_2_ k_ ∨ P1_1_ k_ ∨ P1_2_ k_) ∨ w.heap.size ≤ k_) ∧ k_ ≠ ac ∧ k_ ≠ af ∧ k_ ≠ ae)) ag.out)).2.1 (Kd.V_F (vy ((fun k_ => ((P0_1_ k_ ∨ P0_2_ k_ ∨ P1_1_ k_ ∨ P1_2_ k_) ∨ w.heap.size ≤ k_) ∧ k_ ≠ ac ∧ k_ ≠ af ∧ k_ ≠ ae)) ag.out)))) (Reps.one (show Kd.FK (Kd.slice 48 (Kd.int .u32)) _ _ l1_2 [.slice A1_2 l1_2.length c1_2] from (Kd.FK_slice_mk (Kd.V_reads' (vy ((fun k_ => ((P0_1_ k_ ∨ P0_2_ k_ ∨ P1_1_ k_ ∨ P1_2_ k_) ∨ w.heap.size ≤ k_) ∧ k_ ≠ ac ∧ k_ ≠ af ∧ k_ ≠ ae)) ah.out)).2.1 (Kd.V_F (vy ((fun k_ => ((P0_1_ k_ ∨ P0_2_ k_ ∨ P1_1_ k_ ∨ P1_2_ k_) ∨ w.heap.size ≤ k_) ∧ k_ ≠ ac ∧ k_ ≠ af ∧ k_ ≠ ae)) ah.out)))) (Reps.none _ _)))); intro b0 fr a7 hb hg_ hnew_; clear hg_ hnew_; (first | rw [← a5.out] at a7 | (simp only [Int.reduceToNat] at a7; rw [← a5.out] at a7)); replace ak := el ak a7 hb; replace ag := el ag a7 hb; replace al := el al a7 hb; replace ah := el ah a7 hb; replace ao := en ao a7 hb; replace aj := el aj a7 hb; replace av := en av a7 hb; replace aq := el aq a7 hb; have ap := am (Kd.N_lower a7 (below_size (bu3 HB.out ai.out an.out au.out))); replace aa := kb aa hb; replace ab := kb ab hb; replace ad := kb ad hb; replace HB := be3 HB ai an au hb; clear hb a7; obtain ⟨br, bv, ev⟩ := Kd.N_slice ap.out; subst ev) | ((with_reducible refine gate_callee (f := 145) rfl ?_); refine goesL_ (some 27) rfl rfl Try.func145 (by kernel_rfl) rfl #[.slice br aK.length bv] rfl lu ?_; (with_reducible refine (nat_Mul.calls k _ _ aK aU _ ?side1 ?side2 A5.out).mono ?_); (case side1 => exact cu (Kd.N_reads' ap.out).2.2); (case side2 => exact (Kd.N_reads' ap.out).2.1); rintro e ft ⟨b1, rfl, aY, hb⟩; refine ⟨_, rfl, ?_⟩; replace aY := R_V_base rfl aY; replace ak := kv ak hb; replace ag := kv ag hb; replace al := kv al hb; replace ah := kv ah hb; replace aj := kv aj hb; replace aq := kv aq hb; have aI := ar0 w.heap.size (ok' := fun k_ => ((P0_1_ k_ ∨ P0_2_ k_ ∨ P1_1_ k_ ∨ P1_2_ k_) ∨ w.heap.size ≤ k_) ∧ some k_ ≠ (.slice br aK.length bv : Value).ownBlock ∧ k_ ≠ ac ∧ k_ ≠ af ∧ k_ ≠ ae) aY (fa (fz3 HB ai an au) (fa (fo ap) (fa (fb aa) (fa (fb ab) (fb ad))))); replace ao := kn ao hb; replace av := kn av hb; replace ap := kn ap hb; replace aa := kb aa hb; replace ab := kb ab hb; replace ad := kb ad hb; replace HB := be3 HB ai an au hb; (try clear hb); (try clear hk); (try clear aY); obtain ⟨dP, dQ, dR, dS, dT, dU⟩ := bz aa; obtain ⟨dV, dW, dX, dY, dZ, d0⟩ := bz ab; obtain ⟨cE, cF, ew⟩ := Kd.V_slice aj.out; subst ew; obtain ⟨cG, cH, ex⟩ := Kd.V_slice aq.out; subst ex) | ((with_reducible refine gate_callee (f := 146) rfl ?_); refine goesL_ (some 43) rfl rfl Try.func146 (by kernel_rfl) rfl #[.slice cE aR.length cF, .slice cG aS.length cH] rfl lu ?_; (with_reducible refine (nat_Cmp.calls k _ _ aR _ _ aS ba _ ?side1 ?side2 ?side3 ?side4 eW.out).mono ?_); (case side1 => exact cu (Kd.V_reads' aj.out).2.2); (case side2 => exact (Kd.V_reads' aj.out).2.1); (case side3 => exact cu (Kd.V_reads' aq.out).2.2); (case side4 => exact (Kd.V_reads' aq.out).2.1); rintro e fd ⟨rfl, hb⟩; refine ⟨_, rfl, ?_⟩; replace ak := kv ak hb; replace ag := kv ag hb; replace al := kv al hb; replace ah := kv ah hb; replace ao := kn ao hb; replace aj := kv aj hb; replace av := kn av hb; replace aq := kv aq hb; replace ap := kn ap hb; replace aI := kv aI hb; replace aa := kb aa hb; replace ab := kb ab hb; replace ad := kb ad hb; replace HB := be3 HB ai an au hb; (try clear hb); (try clear hk)))
   replace ak := am (Kd.V_drew ak.out)
   replace ag := am (Kd.V_drew ag.out)
   replace al := am (Kd.V_drew al.out)
   replace ah := am (Kd.V_drew ah.out)
   replace ao := am (Kd.N_drew ao.out)
   replace aj := am (Kd.V_drew aj.out)
   replace av := am (Kd.N_drew av.out)
   replace aq := am (Kd.V_drew aq.out)
   replace ap := am (Kd.N_drew ap.out)
   replace aI := am (Kd.V_drew aI.out)
   replace aa := am (blk_drew aa.out)
   replace ab := am (blk_drew ab.out)
   replace ad := am (blk_drew ad.out)
   replace HB := am (below_drew1 HB.out)
   refine start_ (n := 6) (S := fun w' => w'.cell? ⟨af, 0, none⟩ = some (.bool a1_0) ∧ w'.cell? ⟨af, 1, none⟩ = some (.slice A1_1 l1_1.length c1_1) ∧ w'.cell? ⟨af, 2, none⟩ = some (.slice A1_2 l1_2.length c1_2)) (ds := []) #[false, false, false, false, false, false] (by kernel_rfl) rfl rfl ⟨bc ab 0, bc ab 1, bc ab 2⟩ (fun hHeld => ?_)
   generalize fd.drew = ey at ak ag al ah ao aj av aq ap aI aa ab ad HB hHeld ⊢
   refine pure_ (i := 0) (N := some 45) (v := ?_) (a' := ?_) #[true, false, false, false, false, false] rfl rfl (by kernel_rfl) (fun _ _ _ h => h) (Or.inl ⟨by rfl, ?_⟩) ?_ ?_
   rotate_left
   ·
    intro w'
    go_simp
    with_reducible rfl
   rotate_left
   ·
    simp only [Act.put, List.setIfInBounds_toArray, List.set_cons_zero, List.set_cons_succ, i64_w, i32_w]
    rfl
   refine pure_ (i := 1) (N := some 46) (v := ?_) (a' := ?_) #[true, true, false, false, false, false] rfl rfl (by kernel_rfl) (fun _ _ _ h => h) (Or.inl ⟨by rfl, ?_⟩) ?_ ?_
   rotate_left
   ·
    intro w'
    go_simp
    with_reducible rfl
   rotate_left
   ·
    simp only [Act.put, List.setIfInBounds_toArray, List.set_cons_zero, List.set_cons_succ, i64_w, i32_w]
    rfl
   refine pure_ (i := 3) (N := some 5) (v := ?_) (a' := ?_) #[true, true, false, true, false, false] rfl rfl (by kernel_rfl) (fun _ _ _ h => h) (Or.inl ⟨by rfl, ?_⟩) ?_ ?_
   rotate_left
   ·
    intro w'
    go_simp
    with_reducible rfl
   rotate_left
   ·
    simp only [Act.put, List.setIfInBounds_toArray, List.set_cons_zero, List.set_cons_succ, i64_w, i32_w]
    rfl
   refine pure_ (i := 4) (N := some 6) (v := ?_) (a' := ?_) #[true, true, false, true, true, false] rfl rfl (by kernel_rfl) (fun _ _ _ h => h) (Or.inl ⟨by rfl, ?_⟩) ?_ ?_
   rotate_left
   ·
    intro w'
    go_simp
    with_reducible rfl
   rotate_left
   ·
    simp only [Act.put, List.setIfInBounds_toArray, List.set_cons_zero, List.set_cons_succ, i64_w, i32_w]
    rfl
   refine take_ (i := 2) (N := some 47) (v := ?_) (a' := ?_) #[true, true, true, true, true, false] rfl rfl (by kernel_rfl) (fun _ _ _ h => h) (Or.inl ⟨by rfl, ?_⟩) hHeld ?_ ?_
   rotate_left
   ·
    rintro w' ⟨s0, s1, s2⟩
    go_simp
    with_reducible rfl
   rotate_left
   ·
    simp only [Act.put, List.setIfInBounds_toArray, List.set_cons_zero, List.set_cons_succ, i64_w, i32_w]
    rfl
   refine one_ (i := 5) (N := none) #[true, true, true, true, true, true] rfl rfl (by kernel_rfl) (by decide) (fun K hK => ?_)
   have hs80 : ey.cell? ⟨ac, 0, none⟩ = some (.bool a0_0) := bc aa 0
   have hfs80 := blk_frozen aa.out 0
   have hns80_1 := aG.out
   have hns80_2 := aP.out
   have hms80_1 := aV.out
   have hms80_2 := az.out
   have hs81 : ey.cell? ⟨ac, 1, none⟩ = some (.slice A0_1 l0_1.length c0_1) := bc aa 1
   have hfs81 := blk_frozen aa.out 1
   have hns81_1 := aG.out
   have hns81_2 := aP.out
   have hms81_1 := aV.out
   have hms81_2 := az.out
   have hs82 : ey.cell? ⟨ac, 2, none⟩ = some (.slice A0_2 l0_2.length c0_2) := bc aa 2
   have hfs82 := blk_frozen aa.out 2
   have hns82_1 := aG.out
   have hns82_2 := aP.out
   have hms82_1 := aV.out
   have hms82_2 := az.out
   refine skip_ (w1 := ?_) (by rfl) rfl ?_ ?_
   rotate_left
   ·
    go_simp
    rfl
   refine hK.out _ _ ⟨((cell_far (p := ⟨ac, _, none⟩) aG.out _).trans (((cell_far (p := ⟨ac, _, none⟩) aG.out _).trans (((cell_far (p := ⟨ac, _, none⟩) aG.out _).trans (hHeld.1)))))), ((cell_far (p := ⟨ac, _, none⟩) aG.out _).trans (((cell_far (p := ⟨ac, _, none⟩) aG.out _).trans (((cell_far (p := ⟨ac, _, none⟩) aG.out _).trans (hHeld.2.1)))))), ((cell_far (p := ⟨ac, _, none⟩) aG.out _).trans (((cell_far (p := ⟨ac, _, none⟩) aG.out _).trans (((cell_far (p := ⟨ac, _, none⟩) aG.out _).trans (hHeld.2.2))))))⟩ (fun hHeld => ?_)
   clear hK K
   refine done_ (by kernel_rfl) ?_
   try go_wp2_with (first | ((with_reducible refine gate_callee (f := 185) rfl ?_); refine goesL_ (some 51) rfl rfl Try.func185 (by kernel_rfl) rfl #[.slice cG aS.length cH, .slice cE aR.length cF] rfl lu ?_; (with_reducible refine (nat_Sub.calls k _ _ aS _ _ aR bI cD _ ?side1 ?side2 ?side3 ?side4 e9.out).mono ?_); (case side1 => exact vr aq.out); (case side2 => exact (Kd.V_reads' aq.out).2.1); (case side3 => exact vr aj.out); (case side4 => exact (Kd.V_reads' aj.out).2.1); rintro e fu ⟨eX, rfl, aY, hb⟩; refine ⟨_, rfl, ?_⟩; replace ak := kx ak hb; replace ag := kx ag hb; replace al := kx al hb; replace ah := kx ah hb; replace aj := kx aj hb; replace aq := kx aq hb; replace aI := kx aI hb; have bk := ar0 w.heap.size (ok' := fun k_ => ((P0_1_ k_ ∨ P0_2_ k_ ∨ P1_1_ k_ ∨ P1_2_ k_) ∨ w.heap.size ≤ k_) ∧ some k_ ≠ (.slice br aK.length bv : Value).ownBlock ∧ k_ ≠ ac ∧ k_ ≠ af ∧ k_ ≠ ae) aY (fa (fz3 HB ai an au) (fa (fo ap) (fa (fs aa) (fa (fs ab) (fs ad))))); replace ao := kn ao hb; replace av := kn av hb; replace ap := kn ap hb; replace aa := am (blk_below (g := ac) (o := .cells #[.bool a1_0, .slice A1_1 l1_1.length c1_1, .slice A1_2 l1_2.length c1_2] 67 (0, 0)) (kp aa.out) hb); replace ab := am (blk_below (g := af) (o := .cells #[.bool a1_0, .slice A1_1 l1_1.length c1_1, .slice A1_2 l1_2.length c1_2] 67 (0, 0)) (kf aG.out ab.out) hb); replace ad := am (blk_below (g := ae) (o := .cells #[.bool false, .slice none 0 0, .slice none 0 0] 67 (0, 0)) (kf aP.out ad.out) hb); replace HB := be3 HB ai an au hb; (try clear hb); (try clear aY); obtain ⟨d1, d2, d3, d4, d5, d6⟩ := bz aa; obtain ⟨ez, eA, eB⟩ := Kd.V_slice bk.out; subst eB; obtain ⟨eC, eD, eE⟩ := Kd.V_slice aI.out; subst eE) | ((with_reducible refine gate_callee (f := 155) rfl ?_); refine goesL_ (some 58) rfl rfl Try.func155 (by kernel_rfl) rfl #[.bool a1_0, .slice ez bI.length eA, .slice eC aU.length eD] rfl lu ?_; (with_reducible refine (rational_canonical.calls k a1_0 (fun k_ => (((P0_1_ k_ ∨ P0_2_ k_ ∨ P1_1_ k_ ∨ P1_2_ k_) ∨ w.heap.size ≤ k_) ∧ (((some k_ ≠ (.slice br aK.length bv : Value).ownBlock ∧ (k_ ≠ ac ∧ (k_ ≠ af ∧ k_ ≠ ae))))))) _ _ bI (fun k_ => (((P0_1_ k_ ∨ P0_2_ k_ ∨ P1_1_ k_ ∨ P1_2_ k_) ∨ w.heap.size ≤ k_) ∧ (((some k_ ≠ (.slice br aK.length bv : Value).ownBlock ∧ (k_ ≠ ac ∧ (k_ ≠ af ∧ k_ ≠ ae))))))) _ _ aU b3 b4 b5 _ ?side1 ?side2 fc.out).mono ?_); (case side1 => exact vz bk.out); (case side2 => exact vz aI.out); rintro e fv ⟨eY, eZ, rfl, aY, b2, hb⟩; refine ⟨_, rfl, ?_⟩; replace ak := kv ak hb; replace ag := kv ag hb; replace al := kv al hb; replace ah := kv ah hb; replace aj := kv aj hb; replace aq := kv aq hb; replace aI := kv aI hb; replace bk := kv bk hb; have bJ := ar w.heap.size (ok' := fun k_ => ((P0_1_ k_ ∨ P0_2_ k_ ∨ P1_1_ k_ ∨ P1_2_ k_) ∨ w.heap.size ≤ k_) ∧ some k_ ≠ (.slice br aK.length bv : Value).ownBlock ∧ k_ ≠ ac ∧ k_ ≠ af ∧ k_ ≠ ae) aY (fa (fz3 HB ai an au) (fa (fo ap) (fa (fb aa) (fa (fb ab) (fb ad))))); have bK := ar w.heap.size (ok' := fun k_ => ((P0_1_ k_ ∨ P0_2_ k_ ∨ P1_1_ k_ ∨ P1_2_ k_) ∨ w.heap.size ≤ k_) ∧ some k_ ≠ (.slice br aK.length bv : Value).ownBlock ∧ k_ ≠ ac ∧ k_ ≠ af ∧ k_ ≠ ae) b2 (fa (fz3 HB ai an au) (fa (fo ap) (fa (fb aa) (fa (fb ab) (fb ad))))); replace ao := kn ao hb; replace av := kn av hb; replace ap := kn ap hb; replace aa := kb aa hb; replace ab := kb ab hb; replace ad := kb ad hb; replace HB := be3 HB ai an au hb; (try clear hb); (try clear aY); (try clear b2); obtain ⟨d7, d8, d9, ea, eb, ec⟩ := bz ad; obtain ⟨eF, eG, eH⟩ := Kd.V_slice bJ.out; subst eH; obtain ⟨eI, eJ, eK⟩ := Kd.V_slice bK.out; subst eK))
   refine bodyPost_ret (results_cell_row rfl _ _ ae 67 #[.bool b3, .slice eF b4.length eG, .slice eI b5.length eJ] (0, 0) _ rfl (kp ad.out) Try.underlying67 rfl (by kernel_rfl)) rfl ?_
   exact ⟨_, _, by first | rfl | (simp [errW_none, errW_some] <;> rfl) | (simp [*, errW_none, errW_some] <;> rfl), by exact vf bJ.out, by exact vf bK.out, by repeat (first | (with_reducible first | exact HB.out | apply below_alloc | apply pw_below_drewN | apply below_drew1 | refine below_set ?_ ai.out | refine below_set ?_ an.out | refine below_set ?_ au.out) | exact HB.out)⟩
  ·
   rw [if_neg cm] at H
   have cC : decide (ba < 0) = false := decide_eq_false cm
   clear cm
   obtain ⟨⟨bL, cI⟩, fe, H⟩ := bs H
   (try dsimp -simprocs only at H)
   obtain ⟨⟨b6, b7, b8⟩, ff, H⟩ := bs H
   (try dsimp -simprocs only at H)
   simp only [Option.some.injEq, Prod.mk.injEq] at H
   obtain ⟨rfl, rfl, rfl⟩ := H
   try go_wp2_with (first | ((with_reducible refine gate_dst (N := 26) rfl ?_); refine Kd.N_lit (Kd.slice 48 (Kd.int .u32)) _ 42 ?hg (N' := 26) ?hd (xs := ([l0_2, l1_2] : List (List Int))) (inner := [.slice A0_2 l0_2.length c0_2, .slice A1_2 l1_2.length c1_2]) (ok := (fun k_ => ((P0_1_ k_ ∨ P0_2_ k_ ∨ P1_1_ k_ ∨ P1_2_ k_) ∨ w.heap.size ≤ k_) ∧ k_ ≠ ac ∧ k_ ≠ af ∧ k_ ≠ ae)) (okp := (fun k_ => ((P0_1_ k_ ∨ P0_2_ k_ ∨ P1_1_ k_ ∨ P1_2_ k_) ∨ w.heap.size ≤ k_) ∧ k_ ≠ ac ∧ k_ ≠ af ∧ k_ ≠ ae)) ?hr ?hp (fun _ hk => hk) ((show ∀ k_, dp.heap.size ≤ k_ → (fun k_ => ((P0_1_ k_ ∨ P0_2_ k_ ∨ P1_1_ k_ ∨ P1_2_ k_) ∨ w.heap.size ≤ k_) ∧ k_ ≠ ac ∧ k_ ≠ af ∧ k_ ≠ ae) k_ from fun k_ hk => ⟨(.inr (Nat.le_trans (below_size (bu3 HB.out ai.out an.out au.out)) hk)), Kd.freshB (g := ac) (o := .cells #[.bool a0_0, .slice A0_1 l0_1.length c0_1, .slice A0_2 l0_2.length c0_2] 67 (0, 0)) (ku aa.out) k_ hk, Kd.freshB (g := af) (o := .cells #[.bool a1_0, .slice A1_1 l1_1.length c1_1, .slice A1_2 l1_2.length c1_2] 67 (0, 0)) (ku ab.out) k_ hk, Kd.freshB (g := ae) (o := .cells #[.bool false, .slice none 0 0, .slice none 0 0] 67 (0, 0)) (ku ad.out) k_ hk⟩) _ (Nat.le_refl _)) (Below.refl _ _) (Nat.le_refl _) (by simp) ?_; (case hd => rfl); (case hg => rfl); (case hr => first | (go_simp; done) | (go_simp; rfl)); (case hp => exact (Reps.one (show Kd.FK (Kd.slice 48 (Kd.int .u32)) _ _ l0_2 [.slice A0_2 l0_2.length c0_2] from (Kd.FK_slice_mk (Kd.V_reads' (vy ((fun k_ => ((P0_1_ k_ ∨ P0_2_ k_ ∨ P1_1_ k_ ∨ P1_2_ k_) ∨ w.heap.size ≤ k_) ∧ k_ ≠ ac ∧ k_ ≠ af ∧ k_ ≠ ae)) ag.out)).2.1 (Kd.V_F (vy ((fun k_ => ((P0_1_ k_ ∨ P0_2_ k_ ∨ P1_1_ k_ ∨ P1_2_ k_) ∨ w.heap.size ≤ k_) ∧ k_ ≠ ac ∧ k_ ≠ af ∧ k_ ≠ ae)) ag.out)))) (Reps.one (show Kd.FK (Kd.slice 48 (Kd.int .u32)) _ _ l1_2 [.slice A1_2 l1_2.length c1_2] from (Kd.FK_slice_mk (Kd.V_reads' (vy ((fun k_ => ((P0_1_ k_ ∨ P0_2_ k_ ∨ P1_1_ k_ ∨ P1_2_ k_) ∨ w.heap.size ≤ k_) ∧ k_ ≠ ac ∧ k_ ≠ af ∧ k_ ≠ ae)) ah.out)).2.1 (Kd.V_F (vy ((fun k_ => ((P0_1_ k_ ∨ P0_2_ k_ ∨ P1_1_ k_ ∨ P1_2_ k_) ∨ w.heap.size ≤ k_) ∧ k_ ≠ ac ∧ k_ ≠ af ∧ k_ ≠ ae)) ah.out)))) (Reps.none _ _)))); intro b0 fg a0 hb hg_ hnew_; clear hg_ hnew_; (first | rw [← a5.out] at a0 | (simp only [Int.reduceToNat] at a0; rw [← a5.out] at a0)); replace ak := el ak a0 hb; replace ag := el ag a0 hb; replace al := el al a0 hb; replace ah := el ah a0 hb; replace ao := en ao a0 hb; replace aj := el aj a0 hb; replace av := en av a0 hb; replace aq := el aq a0 hb; have ap := am (Kd.N_lower a0 (below_size (bu3 HB.out ai.out an.out au.out))); replace aa := kb aa hb; replace ab := kb ab hb; replace ad := kb ad hb; replace HB := be3 HB ai an au hb; clear hb a0; obtain ⟨bg, bh, cJ⟩ := Kd.N_slice ap.out; subst cJ) | ((with_reducible refine gate_callee (f := 145) rfl ?_); refine goesL_ (some 27) rfl rfl Try.func145 (by kernel_rfl) rfl #[.slice bg aK.length bh] rfl lu ?_; (with_reducible refine (nat_Mul.calls k _ _ aK aU _ ?side1 ?side2 A5.out).mono ?_); (case side1 => exact cu (Kd.N_reads' ap.out).2.2); (case side2 => exact (Kd.N_reads' ap.out).2.1); rintro e fh ⟨b1, rfl, aY, hb⟩; refine ⟨_, rfl, ?_⟩; replace aY := R_V_base rfl aY; replace ak := kv ak hb; replace ag := kv ag hb; replace al := kv al hb; replace ah := kv ah hb; replace aj := kv aj hb; replace aq := kv aq hb; have aI := ar0 w.heap.size (ok' := fun k_ => ((P0_1_ k_ ∨ P0_2_ k_ ∨ P1_1_ k_ ∨ P1_2_ k_) ∨ w.heap.size ≤ k_) ∧ some k_ ≠ (.slice bg aK.length bh : Value).ownBlock ∧ k_ ≠ ac ∧ k_ ≠ af ∧ k_ ≠ ae) aY (fa (fz3 HB ai an au) (fa (fo ap) (fa (fb aa) (fa (fb ab) (fb ad))))); replace ao := kn ao hb; replace av := kn av hb; replace ap := kn ap hb; replace aa := kb aa hb; replace ab := kb ab hb; replace ad := kb ad hb; replace HB := be3 HB ai an au hb; (try clear hb); (try clear hk); (try clear aY); obtain ⟨cK, cL, cM, cN, cO, cP⟩ := bz aa; obtain ⟨cQ, cR, cS, cT, cU, cV⟩ := bz ab; obtain ⟨b9, ca, cW⟩ := Kd.V_slice aj.out; subst cW; obtain ⟨cb, cc, cX⟩ := Kd.V_slice aq.out; subst cX) | ((with_reducible refine gate_callee (f := 146) rfl ?_); refine goesL_ (some 43) rfl rfl Try.func146 (by kernel_rfl) rfl #[.slice b9 aR.length ca, .slice cb aS.length cc] rfl lu ?_; (with_reducible refine (nat_Cmp.calls k _ _ aR _ _ aS ba _ ?side1 ?side2 ?side3 ?side4 eW.out).mono ?_); (case side1 => exact cu (Kd.V_reads' aj.out).2.2); (case side2 => exact (Kd.V_reads' aj.out).2.1); (case side3 => exact cu (Kd.V_reads' aq.out).2.2); (case side4 => exact (Kd.V_reads' aq.out).2.1); rintro e fi ⟨rfl, hb⟩; refine ⟨_, rfl, ?_⟩; replace ak := kv ak hb; replace ag := kv ag hb; replace al := kv al hb; replace ah := kv ah hb; replace ao := kn ao hb; replace aj := kv aj hb; replace av := kn av hb; replace aq := kv aq hb; replace ap := kn ap hb; replace aI := kv aI hb; replace aa := kb aa hb; replace ab := kb ab hb; replace ad := kb ad hb; replace HB := be3 HB ai an au hb; (try clear hb); (try clear hk)) | ((with_reducible refine gate_callee (f := 185) rfl ?_); refine goesL_ (some 51) rfl rfl Try.func185 (by kernel_rfl) rfl #[.slice b9 aR.length ca, .slice cb aS.length cc] rfl lu ?_; (with_reducible refine (nat_Sub.calls k _ _ aR _ _ aS bL cI _ ?side1 ?side2 ?side3 ?side4 fe.out).mono ?_); (case side1 => exact cu (Kd.V_reads' aj.out).2.2); (case side2 => exact (Kd.V_reads' aj.out).2.1); (case side3 => exact cu (Kd.V_reads' aq.out).2.2); (case side4 => exact (Kd.V_reads' aq.out).2.1); rintro e fj ⟨e0, rfl, aY, hb⟩; refine ⟨_, rfl, ?_⟩; replace ak := kv ak hb; replace ag := kv ag hb; replace al := kv al hb; replace ah := kv ah hb; replace aj := kv aj hb; replace aq := kv aq hb; replace aI := kv aI hb; have bl := ar0 w.heap.size (ok' := fun k_ => ((P0_1_ k_ ∨ P0_2_ k_ ∨ P1_1_ k_ ∨ P1_2_ k_) ∨ w.heap.size ≤ k_) ∧ some k_ ≠ (.slice bg aK.length bh : Value).ownBlock ∧ k_ ≠ ac ∧ k_ ≠ af ∧ k_ ≠ ae) aY (fa (fz3 HB ai an au) (fa (fo ap) (fa (fb aa) (fa (fb ab) (fb ad))))); replace ao := kn ao hb; replace av := kn av hb; replace ap := kn ap hb; replace aa := kb aa hb; replace ab := kb ab hb; replace ad := kb ad hb; replace HB := be3 HB ai an au hb; (try clear hb); (try clear hk); (try clear aY); obtain ⟨cY, cZ, c0, c1, c2, c3⟩ := bz aa; obtain ⟨c4, c5, c7⟩ := Kd.V_slice bl.out; subst c7; obtain ⟨c8, c9, da⟩ := Kd.V_slice aI.out; subst da) | ((with_reducible refine gate_callee (f := 155) rfl ?_); refine goesL_ (some 58) rfl rfl Try.func155 (by kernel_rfl) rfl #[.bool a0_0, .slice c4 bL.length c5, .slice c8 aU.length c9] rfl lu ?_; (with_reducible refine (rational_canonical.calls k a0_0 (fun k_ => (((P0_1_ k_ ∨ P0_2_ k_ ∨ P1_1_ k_ ∨ P1_2_ k_) ∨ w.heap.size ≤ k_) ∧ (((some k_ ≠ (.slice bg aK.length bh : Value).ownBlock ∧ (k_ ≠ ac ∧ (k_ ≠ af ∧ k_ ≠ ae))))))) _ _ bL (fun k_ => (((P0_1_ k_ ∨ P0_2_ k_ ∨ P1_1_ k_ ∨ P1_2_ k_) ∨ w.heap.size ≤ k_) ∧ (((some k_ ≠ (.slice bg aK.length bh : Value).ownBlock ∧ (k_ ≠ ac ∧ (k_ ≠ af ∧ k_ ≠ ae))))))) _ _ aU b6 b7 b8 _ ?side1 ?side2 ff.out).mono ?_); (case side1 => exact vz bl.out); (case side2 => exact vz aI.out); rintro e fk ⟨e1, e2, rfl, aY, b2, hb⟩; refine ⟨_, rfl, ?_⟩; replace ak := kv ak hb; replace ag := kv ag hb; replace al := kv al hb; replace ah := kv ah hb; replace aj := kv aj hb; replace aq := kv aq hb; replace aI := kv aI hb; replace bl := kv bl hb; have bM := ar w.heap.size (ok' := fun k_ => ((P0_1_ k_ ∨ P0_2_ k_ ∨ P1_1_ k_ ∨ P1_2_ k_) ∨ w.heap.size ≤ k_) ∧ some k_ ≠ (.slice bg aK.length bh : Value).ownBlock ∧ k_ ≠ ac ∧ k_ ≠ af ∧ k_ ≠ ae) aY (fa (fz3 HB ai an au) (fa (fo ap) (fa (fb aa) (fa (fb ab) (fb ad))))); have bN := ar w.heap.size (ok' := fun k_ => ((P0_1_ k_ ∨ P0_2_ k_ ∨ P1_1_ k_ ∨ P1_2_ k_) ∨ w.heap.size ≤ k_) ∧ some k_ ≠ (.slice bg aK.length bh : Value).ownBlock ∧ k_ ≠ ac ∧ k_ ≠ af ∧ k_ ≠ ae) b2 (fa (fz3 HB ai an au) (fa (fo ap) (fa (fb aa) (fa (fb ab) (fb ad))))); replace ao := kn ao hb; replace av := kn av hb; replace ap := kn ap hb; replace aa := kb aa hb; replace ab := kb ab hb; replace ad := kb ad hb; replace HB := be3 HB ai an au hb; (try clear hb); (try clear hk); (try clear aY); (try clear b2); obtain ⟨db, dc, dd, de, df, dg⟩ := bz ad; obtain ⟨dh, di, dj⟩ := Kd.V_slice bM.out; subst dj; obtain ⟨dk, dl, dm⟩ := Kd.V_slice bN.out; subst dm))
   refine bodyPost_ret (results_cell_row rfl _ _ ae 67 #[.bool b6, .slice dh b7.length di, .slice dk b8.length dl] (0, 0) _ rfl (kp ad.out) Try.underlying67 rfl (by kernel_rfl)) rfl ?_
   exact ⟨_, _, by first | rfl | (simp [errW_none, errW_some] <;> rfl) | (simp [*, errW_none, errW_some] <;> rfl), by exact vf bM.out, by exact vf bN.out, by repeat (first | (with_reducible first | exact HB.out | apply below_alloc | apply pw_below_drewN | apply below_drew1 | refine below_set ?_ ai.out | refine below_set ?_ an.out | refine below_set ?_ au.out) | exact HB.out)⟩
end Go.Proofs.Ytecfdemglbfnoaa.PT
end
