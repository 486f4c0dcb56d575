/- Walks and plain facts for the law RationalDivides, several texts in one: each theorem says what it shows; no condition beyond those that it names. -/
import Derived.Test.YtecfdemglbfnoaaMRationalDividesH
section
namespace Go.Proofs.Ytecfdemglbfnoaa.PT
open Go.RowKit Go.Proofs.YtecfdemglbfnoaaW.PrintWords Go.Proofs.YtecfdemglbfnoaaW.PrintLast Go.Proofs.YtecfdemglbfnoaaW.PrintMore
attribute [local go_sem] max2_int min2_int max_two min_two max_three min_three max_four min_four   -- for this text's walks alone
set_option linter.unusedVariables false
set_option linter.unusedSimpArgs false
def rational_canonical.j0 : Nat → Bool → List Int → List Int → Bool → Option (Bool × List Int × List Int)
 | 0, _, _, _, _ => none
 | k + 1, x0, x1, x2, x15 => if x15 = true then ((rational_one.f).bind fun t1015 => (some (false, ([] : List Int), t1015))) else ((nat_Gcd.f k x1 x2).bind fun t1018 => ((nat_DivMod.f k x1 t1018).bind fun bt1021 => ((nat_DivMod.f k x2 t1018).bind fun bt1028 => (some (x0, bt1021.1, bt1028.1)))))
def rational_canonical.f (k : Nat) (a0 : Bool) (l1 : List Int) (l2 : List Int) : Option (Bool × List Int × List Int) := (nat_Bits.f k l1).bind fun t1013 => (if t1013 = 0 then (rational_canonical.j0 k a0 l1 l2 true) else ((nat_Bits.f k l2).bind fun t1014 => (rational_canonical.j0 k a0 l1 l2 (t1014 == 0))))
set_option maxHeartbeats 8000000 in
set_option maxRecDepth 100000 in
theorem rational_canonical.calls (k : Nat) (a0 : Bool) (P1_ : Nat → Prop) (A1 : Option Addr) (c1 : Nat) (l1 : List Int) (P2_ : Nat → Prop) (A2 : Option Addr) (c2 : Nat) (l2 : List Int) (r1 : Bool) (r2 : List Int) (r3 : List Int) (w : World) (hs1 : Kd.V (Kd.int .u32) 48 w w.heap.size (fun k_ => P1_ k_) (.slice A1 l1.length c1) l1) (hs2 : Kd.V (Kd.int .u32) 48 w w.heap.size (fun k_ => P2_ k_) (.slice A2 l2.length c2) l2) (h : rational_canonical.f k a0 l1 l2 = some (r1, r2, r3)) :
 Calls Try.prog 155 #[.bool a0, .slice A1 l1.length c1, .slice A2 l2.length c2] w fun e w' => ∃ v1_ v2_ : Value, e = .returned (.agg #[.bool r1, v1_, v2_]) ∧ Kd.V (Kd.int .u32) 48 w' w.heap.size (fun k_ => ((P1_ k_ ∨ P2_ k_) ∨ w.heap.size ≤ k_)) v1_ r2 ∧ Kd.V (Kd.int .u32) 48 w' w.heap.size (fun k_ => ((P1_ k_ ∨ P2_ k_) ∨ w.heap.size ≤ k_)) v2_ r3 ∧ Below w.heap.size w w' := by
 have hu67 := Try.underlying67
 have HO1 := Aside0.mk (show Kd.V (Kd.int .u32) 48 w w.heap.size (fun k_ => ((P1_ k_ ∨ P2_ k_) ∨ w.heap.size ≤ k_)) (.slice A1 l1.length c1) l1 from Kd.V_mono hs1 (fun k_ hk => .inl (.inl hk)))
 have HO2 := Aside0.mk (show Kd.V (Kd.int .u32) 48 w w.heap.size (fun k_ => ((P1_ k_ ∨ P2_ k_) ∨ w.heap.size ≤ k_)) (.slice A2 l2.length c2) l2 from Kd.V_mono hs2 (fun k_ hk => .inl (.inr hk)))
 have HB := Aside0.mk (Below.refl w.heap.size w)
 have H : ((nat_Bits.f k l1).bind fun t1013 => (if t1013 = 0 then (rational_canonical.j0 k a0 l1 l2 true) else ((nat_Bits.f k l2).bind fun t1014 => (rational_canonical.j0 k a0 l1 l2 (t1014 == 0))))) = some (r1, r2, r3) := h
 clear h
 have HC4 := Aside0.mk H
 clear H
 go_enter Try.func155, Try.ntmps155
 go_upto_region 1 with (first | ((with_reducible refine gate_dst (N := 6) rfl ?_); refine box_event ?hg (N := 6) ?hd (cs := #[.bool false, .slice none 0 0, .slice none 0 0]) (t := 67) ?hr ?_; (case hd => rfl); (case hg => rfl); (case hr => first | (go_simp; done) | (go_simp; rfl)); intro gb1012 hg w5 hbox hb; replace HO1 := Aside0.mk (Kd.V_below (Kd.V_elderB (vu HO1.out) gb1012 (Nat.le_of_eq hg.symm)) hb); replace HO2 := Aside0.mk (Kd.V_below (Kd.V_elderB (vu HO2.out) gb1012 (Nat.le_of_eq hg.symm)) hb); have BK1012 := Aside0.mk (hbox); have GW1012 := Aside0.mk ((by rw [hg]; exact (below_size (bu HB.out)) : w.heap.size ≤ gb1012)); have GE1012 := Aside0.mk ((by rw [hg]; exact (below_size (bu HB.out)) : w.heap.size ≤ gb1012)); replace HB := Aside0.mk (below_step (bu HB.out) hb); clear hb hbox hg))
 (try simp only [Act.put, List.setIfInBounds_toArray, List.set_cons_zero, List.set_cons_succ])
 go_cut [15] (fun v15 wc => ∃ (kq : Nat) (x15_3 : Bool), v15 = .bool x15_3 ∧ Aside0 (rational_canonical.j0 kq a0 l1 l2 x15_3 = some (r1, r2, r3)) ∧ Aside0 (kq ≤ k) ∧ Aside0 (Kd.V (Kd.int .u32) 48 wc w.heap.size (fun k_ => ((P1_ k_ ∨ P2_ k_) ∨ w.heap.size ≤ k_) ∧ k_ ≠ gb1012) (.slice A1 l1.length c1) l1) ∧ Aside0 (Kd.V (Kd.int .u32) 48 wc w.heap.size (fun k_ => ((P1_ k_ ∨ P2_ k_) ∨ w.heap.size ≤ k_) ∧ k_ ≠ gb1012) (.slice A2 l2.length c2) l2) ∧ Aside0 (wc.heap[gb1012]? = some (.cells #[.bool false, (.slice none 0 0), (.slice none 0 0)] 67 (0, 0))) ∧ Aside0 (Below w.heap.size w wc))
 case first =>
  have H := HC4.out
  clear HC4
  replace H := Option.bind_eq_some_iff.mp H
  obtain ⟨t1013, A60, H⟩ := H
  replace H : (if t1013 = 0 then (rational_canonical.j0 k a0 l1 l2 true) else ((nat_Bits.f k l2).bind fun t1014 => (rational_canonical.j0 k a0 l1 l2 (t1014 == 0)))) = some (r1, r2, r3) := H
  have A6 := Aside0.mk A60
  clear A60
  by_cases c7 : t1013 = 0
  ·
   rw [if_pos c7] at H
   have c7b0 : (t1013 == 0) = true := beq_iff_eq.mpr c7
   have c7b1 : (t1013 != 0) = false := bne_eq_false_iff_eq.mpr c7
   clear c7
   (first | rw [c7b0] | rw [c7b1] | (simp only [i64_w, i32_w]; rw [c7b0]) | skip)
   have H' := Aside0.mk H
   clear H
   go_wp2_with (first | ((with_reducible refine gate_callee (f := 154) rfl ?_); refine goesL_ (some 9) rfl rfl Try.func154 (by kernel_rfl) rfl #[.slice A1 l1.length c1] rfl lu ?_; (with_reducible refine (nat_Bits.calls k _ _ l1 t1013 _ ?side1 ?side2 A6.out).mono ?_); (case side1 => repeat (first | exact (Kd.V_reads' HO1.out).2.2 | (with_reducible refine Kd.C_alloc ?_ _) | (with_reducible refine Kd.C_drewN ?_ _) | (with_reducible refine Kd.C_drew ?_))); (case side2 => exact (Kd.V_reads' HO1.out).2.1); rintro e w8 ⟨rfl, hb⟩; refine ⟨_, rfl, ?_⟩; replace HO1 := Aside0.mk (Kd.V_below (vu HO1.out) hb); replace HO2 := Aside0.mk (Kd.V_below (vu HO2.out) hb); replace BK1012 := Aside0.mk (blk_below (g := gb1012) (o := .cells #[.bool false, .slice none 0 0, .slice none 0 0] 67 (0, 0)) (ku BK1012.out) hb); replace HB := Aside0.mk (below_step (bu1 HB.out GE1012.out) hb); (try clear hb); (try clear hb2); (try clear hk); (try clear hi)))
   go_meet
   case rel => exact ⟨_, (true), (by first | rfl | (simp; done) | (simp [*]; done)), H', ⟨by first | omega | exact Nat.le_refl _⟩, ⟨by (with_reducible repeat (first | apply Kd.V_alloc | apply Kd.V_drewN | apply Kd.V_drew)); exact HO1.out⟩, ⟨by (with_reducible repeat (first | apply Kd.V_alloc | apply Kd.V_drewN | apply Kd.V_drew)); exact HO2.out⟩, ⟨by (with_reducible repeat (first | refine blk_drewN ?_ _ | refine blk_drew ?_ | refine blk_alloc ?_ _)); exact BK1012.out⟩, ⟨by repeat (first | (with_reducible first | exact HB.out | apply below_alloc | apply pw_below_drewN | apply below_drew1 | refine below_set ?_ GE1012.out) | exact HB.out)⟩⟩
  ·
   rw [if_neg c7] at H
   have c7b0 : (t1013 == 0) = false := beq_eq_false_iff_ne.mpr c7
   have c7b1 : (t1013 != 0) = true := bne_iff_ne.mpr c7
   (first | rw [c7b0] | rw [c7b1] | (simp only [i64_w, i32_w]; rw [c7b0]) | skip)
   replace H := Option.bind_eq_some_iff.mp H
   obtain ⟨t1014, A90, H⟩ := H
   replace H : (rational_canonical.j0 k a0 l1 l2 (t1014 == 0)) = some (r1, r2, r3) := H
   have A9 := Aside0.mk A90
   clear A90
   have H' := Aside0.mk H
   clear H
   go_wp2_with (first | ((with_reducible refine gate_callee (f := 154) rfl ?_); refine goesL_ (some 9) rfl rfl Try.func154 (by kernel_rfl) rfl #[.slice A1 l1.length c1] rfl lu ?_; (with_reducible refine (nat_Bits.calls k _ _ l1 t1013 _ ?side1 ?side2 A6.out).mono ?_); (case side1 => repeat (first | exact (Kd.V_reads' HO1.out).2.2 | (with_reducible refine Kd.C_alloc ?_ _) | (with_reducible refine Kd.C_drewN ?_ _) | (with_reducible refine Kd.C_drew ?_))); (case side2 => exact (Kd.V_reads' HO1.out).2.1); rintro e w10 ⟨rfl, hb⟩; refine ⟨_, rfl, ?_⟩; replace HO1 := Aside0.mk (Kd.V_below (vu HO1.out) hb); replace HO2 := Aside0.mk (Kd.V_below (vu HO2.out) hb); replace BK1012 := Aside0.mk (blk_below (g := gb1012) (o := .cells #[.bool false, .slice none 0 0, .slice none 0 0] 67 (0, 0)) (ku BK1012.out) hb); replace HB := Aside0.mk (below_step (bu1 HB.out GE1012.out) hb); (try clear hb); (try clear hb2); (try clear hk); (try clear hi)) | (go_at_call 154; (with_reducible refine (nat_Bits.calls k _ _ l2 t1014 _ ?side1 ?side2 A9.out).mono ?_); (case side1 => repeat (first | exact (Kd.V_reads' HO2.out).2.2 | (with_reducible refine Kd.C_alloc ?_ _) | (with_reducible refine Kd.C_drewN ?_ _) | (with_reducible refine Kd.C_drew ?_))); (case side2 => exact (Kd.V_reads' HO2.out).2.1); rintro e w11 ⟨rfl, hb⟩; replace HO1 := Aside0.mk (Kd.V_below (vu HO1.out) hb); replace HO2 := Aside0.mk (Kd.V_below (vu HO2.out) hb); replace BK1012 := Aside0.mk (blk_below (g := gb1012) (o := .cells #[.bool false, .slice none 0 0, .slice none 0 0] 67 (0, 0)) (ku BK1012.out) hb); replace HB := Aside0.mk (below_step (bu1 HB.out GE1012.out) hb); (try clear hb); (try clear hb2); (try clear hk); (try clear hi)))
   go_meet
   case rel => exact ⟨_, ((t1014 == 0)), (by first | rfl | (simp; done) | (simp [*]; done) | (cases t1014 <;> first | rfl | (simp; done))), H', ⟨by first | omega | exact Nat.le_refl _⟩, ⟨by (with_reducible repeat (first | apply Kd.V_alloc | apply Kd.V_drewN | apply Kd.V_drew)); exact HO1.out⟩, ⟨by (with_reducible repeat (first | apply Kd.V_alloc | apply Kd.V_drewN | apply Kd.V_drew)); exact HO2.out⟩, ⟨by (with_reducible repeat (first | refine blk_drewN ?_ _ | refine blk_drew ?_ | refine blk_alloc ?_ _)); exact BK1012.out⟩, ⟨by repeat (first | (with_reducible first | exact HB.out | apply below_alloc | apply pw_below_drewN | apply below_drew1 | refine below_set ?_ GE1012.out) | exact HB.out)⟩⟩
 case rest =>
  clear HC4
  try clear c1
  try clear c2
  try clear p2
  try clear c7
  try clear c7b0
  try clear c7b1
  obtain ⟨kq, x15_3, rfl, HA, HJ3, HO_1, HO_2, BK1012, HB⟩ := hcut
  cases kq with
  | zero => exact absurd HA.out (by simp [rational_canonical.j0])
  | succ kj3 =>
   have H := HA.out
   clear HA
   simp only [rational_canonical.j0] at H
   by_cases c12 : x15_3 = true
   ·
    subst c12
    have H1 : ((rational_one.f).bind fun t1015 => (some (false, ([] : List Int), t1015))) = some (r1, r2, r3) := by rw [if_pos rfl] at H; exact H
    clear H
    have H := H1
    clear H1
    replace H := Option.bind_eq_some_iff.mp H
    obtain ⟨t1015, A130, H⟩ := H
    replace H : (some (false, ([] : List Int), t1015)) = some (r1, r2, r3) := H
    have A13 := Aside0.mk A130
    clear A130
    simp only [Option.some.injEq, Prod.mk.injEq] at H
    obtain ⟨rfl, rfl, rfl⟩ := H
    go_wp2_with (first | ((with_reducible refine gate_callee (f := 161) rfl ?_); refine goesL_ (some 16) rfl rfl Try.func161 (by kernel_rfl) rfl #[] rfl lu ?_; (with_reducible refine (rational_one.calls  t1015 _ A13.out).mono ?_); rintro e w14 ⟨v1016, rfl, ho0, hb⟩; refine ⟨_, rfl, ?_⟩; replace ho0 := R_V_base rfl ho0; replace HO_1 := Aside0.mk (Kd.V_below (vu HO_1.out) hb); replace HO_2 := Aside0.mk (Kd.V_below (vu HO_2.out) hb); have HO1017 := Aside0.mk (Kd.V_lower (Kd.V_mono (ok' := fun k_ => ((P1_ k_ ∨ P2_ k_) ∨ w.heap.size ≤ k_) ∧ k_ ≠ gb1012) ho0 (fun k_ hk_ => ⟨(.inr (Nat.le_trans (below_size (bu1 HB.out GE1012.out)) hk_)), (Kd.freshB (g := gb1012) (o := .cells #[.bool false, .slice none 0 0, .slice none 0 0] 67 (0, 0)) (ku BK1012.out) k_ hk_)⟩)) (below_size (bu1 HB.out GE1012.out))); replace BK1012 := Aside0.mk (blk_below (g := gb1012) (o := .cells #[.bool false, .slice none 0 0, .slice none 0 0] 67 (0, 0)) (ku BK1012.out) hb); replace HB := Aside0.mk (below_step (bu1 HB.out GE1012.out) hb); (try clear hb); (try clear hb2); (try clear hk); (try clear hi); (try clear ho0); obtain ⟨Ao15, co15, eo15⟩ := Kd.V_slice HO1017.out; subst eo15; have hcz16_0 : w14.cell? ⟨gb1012, 0, none⟩ = some (.bool false) := (blk_cell BK1012.out 0).trans rfl; have hcz16_1 : w14.cell? ⟨gb1012, 1, none⟩ = some (.slice none 0 0) := (blk_cell BK1012.out 1).trans rfl; have hcz16_2 : w14.cell? ⟨gb1012, 2, none⟩ = some (.slice none 0 0) := (blk_cell BK1012.out 2).trans rfl; have hfz16_0 := blk_frozen BK1012.out 0; have hfz16_1 := blk_frozen BK1012.out 1; have hfz16_2 := blk_frozen BK1012.out 2))
    refine bodyPost_ret (results_cell_row rfl _ _ gb1012 67 #[.bool false, .slice none 0 0, .slice Ao15 t1015.length co15] (0, 0) _ rfl (by (with_reducible repeat (first | refine blk_drewN ?_ _ | refine blk_drew ?_ | refine blk_alloc ?_ _)); refine blk_put (cs := #[.bool false, .slice none 0 0, .slice none 0 0]) ?_ 2 _ rfl; (with_reducible repeat (first | refine blk_drewN ?_ _ | refine blk_drew ?_ | refine blk_alloc ?_ _)); refine blk_put (cs := #[.bool false, .slice none 0 0, .slice none 0 0]) ?_ 1 _ rfl; (with_reducible repeat (first | refine blk_drewN ?_ _ | refine blk_drew ?_ | refine blk_alloc ?_ _)); refine blk_put (cs := #[.bool false, .slice none 0 0, .slice none 0 0]) ?_ 0 _ rfl; (with_reducible repeat (first | refine blk_drewN ?_ _ | refine blk_drew ?_ | refine blk_alloc ?_ _)); exact BK1012.out) Try.underlying67 rfl (by kernel_rfl)) rfl ?_
    exact ⟨_, _, by first | rfl | (simp [errW_none, errW_some] <;> rfl) | (simp [*, errW_none, errW_some] <;> rfl), Kd.V_nil _ _ _ _ _, by (with_reducible repeat (first | apply Kd.V_alloc | apply Kd.V_drewN | apply Kd.V_drew)); exact Kd.V_mono (Kd.V_far (p := ⟨gb1012, 2, none⟩) (Kd.V_far (p := ⟨gb1012, 1, none⟩) (Kd.V_far (p := ⟨gb1012, 0, none⟩) (Kd.V_mono HO1017.out (fun k_ hk => (⟨hk, hk.2⟩ : _ ∧ k_ ≠ gb1012))) (fun _ hk => hk.2) (.bool false)) (fun _ hk => hk.2) (.slice none 0 0)) (fun _ hk => hk.2) (.slice Ao15 t1015.length co15)) (fun _ hk => hk.1.1), by repeat (first | (with_reducible first | exact HB.out | apply below_alloc | apply pw_below_drewN | apply below_drew1 | refine below_set ?_ GE1012.out) | exact HB.out)⟩
   ·
    replace c12 := Bool.eq_false_iff.mpr c12
    subst c12
    have H1 : ((nat_Gcd.f kj3 l1 l2).bind fun t1018 => ((nat_DivMod.f kj3 l1 t1018).bind fun bt1021 => ((nat_DivMod.f kj3 l2 t1018).bind fun bt1028 => (some (a0, bt1021.1, bt1028.1))))) = some (r1, r2, r3) := by rw [if_neg (show ¬ (false = true) by decide)] at H; exact H
    clear H
    have H := H1
    clear H1
    replace H := Option.bind_eq_some_iff.mp H
    obtain ⟨t1018, A170, H⟩ := H
    replace H : ((nat_DivMod.f kj3 l1 t1018).bind fun bt1021 => ((nat_DivMod.f kj3 l2 t1018).bind fun bt1028 => (some (a0, bt1021.1, bt1028.1)))) = some (r1, r2, r3) := H
    have A17 := Aside0.mk A170
    clear A170
    replace H := Option.bind_eq_some_iff.mp H
    obtain ⟨⟨t1021, t1024, t1027⟩, A180, H⟩ := H
    replace H : ((nat_DivMod.f kj3 l2 t1018).bind fun bt1028 => (some (a0, t1021, bt1028.1))) = some (r1, r2, r3) := H
    have A18 := Aside0.mk A180
    clear A180
    replace H := Option.bind_eq_some_iff.mp H
    obtain ⟨⟨t1028, t1031, t1034⟩, A190, H⟩ := H
    replace H : (some (a0, t1021, t1028)) = some (r1, r2, r3) := H
    have A19 := Aside0.mk A190
    clear A190
    simp only [Option.some.injEq, Prod.mk.injEq] at H
    obtain ⟨rfl, rfl, rfl⟩ := H
    go_wp2_with (first | ((with_reducible refine gate_callee (f := 182) rfl ?_); refine goesL_ (some 20) rfl rfl Try.func182 (by kernel_rfl) rfl #[.slice A1 l1.length c1, .slice A2 l2.length c2] rfl lu ?_; (with_reducible refine (nat_Gcd.calls kj3 _ _ l1 _ _ l2 t1018 _ ?side1 ?side2 ?side3 ?side4 A17.out).mono ?_); (case side1 => repeat (first | exact (Kd.V_reads' HO_1.out).2.2 | (with_reducible refine Kd.C_alloc ?_ _) | (with_reducible refine Kd.C_drewN ?_ _) | (with_reducible refine Kd.C_drew ?_))); (case side2 => exact (Kd.V_reads' HO_1.out).2.1); (case side3 => repeat (first | exact (Kd.V_reads' HO_2.out).2.2 | (with_reducible refine Kd.C_alloc ?_ _) | (with_reducible refine Kd.C_drewN ?_ _) | (with_reducible refine Kd.C_drew ?_))); (case side4 => exact (Kd.V_reads' HO_2.out).2.1); rintro e w20 ⟨v1019, rfl, ho0, hb⟩; refine ⟨_, rfl, ?_⟩; replace ho0 := R_V_base rfl ho0; replace HO_1 := Aside0.mk (Kd.V_below (vu HO_1.out) hb); replace HO_2 := Aside0.mk (Kd.V_below (vu HO_2.out) hb); have HO1020 := Aside0.mk (Kd.V_lower (Kd.V_mono (ok' := fun k_ => ((P1_ k_ ∨ P2_ k_) ∨ w.heap.size ≤ k_) ∧ k_ ≠ gb1012) ho0 (fun k_ hk_ => ⟨(.inr (Nat.le_trans (below_size (bu1 HB.out GE1012.out)) hk_)), (Kd.freshB (g := gb1012) (o := .cells #[.bool false, .slice none 0 0, .slice none 0 0] 67 (0, 0)) (ku BK1012.out) k_ hk_)⟩)) (below_size (bu1 HB.out GE1012.out))); replace BK1012 := Aside0.mk (blk_below (g := gb1012) (o := .cells #[.bool false, .slice none 0 0, .slice none 0 0] 67 (0, 0)) (ku BK1012.out) hb); replace HB := Aside0.mk (below_step (bu1 HB.out GE1012.out) hb); (try clear hb); (try clear hb2); (try clear hk); (try clear hi); (try clear ho0); obtain ⟨Ao21, co21, eo21⟩ := Kd.V_slice HO1020.out; subst eo21) | ((with_reducible refine gate_callee (f := 167) rfl ?_); refine goesL_ (some 24) rfl rfl Try.func167 (by kernel_rfl) rfl #[.slice A1 l1.length c1, .slice Ao21 t1018.length co21] rfl lu ?_; (with_reducible refine (nat_DivMod.calls kj3 (fun k_ => (((P1_ k_ ∨ P2_ k_) ∨ w.heap.size ≤ k_) ∧ k_ ≠ gb1012)) _ _ l1 (fun k_ => (((P1_ k_ ∨ P2_ k_) ∨ w.heap.size ≤ k_) ∧ k_ ≠ gb1012)) _ _ t1018 t1021 t1024 t1027 _ ?side1 ?side2 A18.out).mono ?_); (case side1 => exact HO_1.out); (case side2 => exact HO1020.out); rintro e w22 ⟨v1022, v1025, rfl, ho0, ho1, hb⟩; refine ⟨_, rfl, ?_⟩; replace HO_1 := Aside0.mk (Kd.V_below (vu HO_1.out) hb); replace HO_2 := Aside0.mk (Kd.V_below (vu HO_2.out) hb); replace HO1020 := Aside0.mk (Kd.V_below (vu HO1020.out) hb); have HO1023 := Aside0.mk (Kd.V_lower (Kd.V_mono (ok' := fun k_ => ((P1_ k_ ∨ P2_ k_) ∨ w.heap.size ≤ k_) ∧ k_ ≠ gb1012) ho0 (fun k_ hk_ => ⟨Or.elim hk_ (fun hs_ => Or.elim hs_ (fun hs_ => hs_.1) (fun hs_ => hs_.1)) (fun hn_ => (.inr (Nat.le_trans (below_size (bu1 HB.out GE1012.out)) hn_))), Or.elim hk_ (fun hs_ => Or.elim hs_ (fun hs_ => hs_.2) (fun hs_ => hs_.2)) (fun hn_ => (Kd.freshB (g := gb1012) (o := .cells #[.bool false, .slice none 0 0, .slice none 0 0] 67 (0, 0)) (ku BK1012.out) k_ hn_))⟩)) (below_size (bu1 HB.out GE1012.out))); have HO1026 := Aside0.mk (Kd.V_lower (Kd.V_mono (ok' := fun k_ => ((P1_ k_ ∨ P2_ k_) ∨ w.heap.size ≤ k_) ∧ k_ ≠ gb1012) ho1 (fun k_ hk_ => ⟨Or.elim hk_ (fun hs_ => Or.elim hs_ (fun hs_ => hs_.1) (fun hs_ => hs_.1)) (fun hn_ => (.inr (Nat.le_trans (below_size (bu1 HB.out GE1012.out)) hn_))), Or.elim hk_ (fun hs_ => Or.elim hs_ (fun hs_ => hs_.2) (fun hs_ => hs_.2)) (fun hn_ => (Kd.freshB (g := gb1012) (o := .cells #[.bool false, .slice none 0 0, .slice none 0 0] 67 (0, 0)) (ku BK1012.out) k_ hn_))⟩)) (below_size (bu1 HB.out GE1012.out))); replace BK1012 := Aside0.mk (blk_below (g := gb1012) (o := .cells #[.bool false, .slice none 0 0, .slice none 0 0] 67 (0, 0)) (ku BK1012.out) hb); replace HB := Aside0.mk (below_step (bu1 HB.out GE1012.out) hb); (try clear hb); (try clear hb2); (try clear hk); (try clear hi); (try clear ho0); (try clear ho1)) | ((with_reducible refine gate_callee (f := 167) rfl ?_); refine goesL_ (some 31) rfl rfl Try.func167 (by kernel_rfl) rfl #[.slice A2 l2.length c2, .slice Ao21 t1018.length co21] rfl lu ?_; (with_reducible refine (nat_DivMod.calls kj3 (fun k_ => (((P1_ k_ ∨ P2_ k_) ∨ w.heap.size ≤ k_) ∧ k_ ≠ gb1012)) _ _ l2 (fun k_ => (((P1_ k_ ∨ P2_ k_) ∨ w.heap.size ≤ k_) ∧ k_ ≠ gb1012)) _ _ t1018 t1028 t1031 t1034 _ ?side1 ?side2 A19.out).mono ?_); (case side1 => exact HO_2.out); (case side2 => exact HO1020.out); rintro e w23 ⟨v1029, v1032, rfl, ho0, ho1, hb⟩; refine ⟨_, rfl, ?_⟩; replace HO_1 := Aside0.mk (Kd.V_below (vu HO_1.out) hb); replace HO_2 := Aside0.mk (Kd.V_below (vu HO_2.out) hb); replace HO1020 := Aside0.mk (Kd.V_below (vu HO1020.out) hb); replace HO1023 := Aside0.mk (Kd.V_below (vu HO1023.out) hb); replace HO1026 := Aside0.mk (Kd.V_below (vu HO1026.out) hb); have HO1030 := Aside0.mk (Kd.V_lower (Kd.V_mono (ok' := fun k_ => ((P1_ k_ ∨ P2_ k_) ∨ w.heap.size ≤ k_) ∧ k_ ≠ gb1012) ho0 (fun k_ hk_ => ⟨Or.elim hk_ (fun hs_ => Or.elim hs_ (fun hs_ => hs_.1) (fun hs_ => hs_.1)) (fun hn_ => (.inr (Nat.le_trans (below_size (bu1 HB.out GE1012.out)) hn_))), Or.elim hk_ (fun hs_ => Or.elim hs_ (fun hs_ => hs_.2) (fun hs_ => hs_.2)) (fun hn_ => (Kd.freshB (g := gb1012) (o := .cells #[.bool false, .slice none 0 0, .slice none 0 0] 67 (0, 0)) (ku BK1012.out) k_ hn_))⟩)) (below_size (bu1 HB.out GE1012.out))); have HO1033 := Aside0.mk (Kd.V_lower (Kd.V_mono (ok' := fun k_ => ((P1_ k_ ∨ P2_ k_) ∨ w.heap.size ≤ k_) ∧ k_ ≠ gb1012) ho1 (fun k_ hk_ => ⟨Or.elim hk_ (fun hs_ => Or.elim hs_ (fun hs_ => hs_.1) (fun hs_ => hs_.1)) (fun hn_ => (.inr (Nat.le_trans (below_size (bu1 HB.out GE1012.out)) hn_))), Or.elim hk_ (fun hs_ => Or.elim hs_ (fun hs_ => hs_.2) (fun hs_ => hs_.2)) (fun hn_ => (Kd.freshB (g := gb1012) (o := .cells #[.bool false, .slice none 0 0, .slice none 0 0] 67 (0, 0)) (ku BK1012.out) k_ hn_))⟩)) (below_size (bu1 HB.out GE1012.out))); replace BK1012 := Aside0.mk (blk_below (g := gb1012) (o := .cells #[.bool false, .slice none 0 0, .slice none 0 0] 67 (0, 0)) (ku BK1012.out) hb); replace HB := Aside0.mk (below_step (bu1 HB.out GE1012.out) hb); (try clear hb); (try clear hb2); (try clear hk); (try clear hi); (try clear ho0); (try clear ho1); obtain ⟨Ao24, co24, eo24⟩ := Kd.V_slice HO1030.out; subst eo24; obtain ⟨Ao25, co25, eo25⟩ := Kd.V_slice HO1023.out; subst eo25; have hcz26_0 : w23.cell? ⟨gb1012, 0, none⟩ = some (.bool false) := (blk_cell BK1012.out 0).trans rfl; have hcz26_1 : w23.cell? ⟨gb1012, 1, none⟩ = some (.slice none 0 0) := (blk_cell BK1012.out 1).trans rfl; have hcz26_2 : w23.cell? ⟨gb1012, 2, none⟩ = some (.slice none 0 0) := (blk_cell BK1012.out 2).trans rfl; have hfz26_0 := blk_frozen BK1012.out 0; have hfz26_1 := blk_frozen BK1012.out 1; have hfz26_2 := blk_frozen BK1012.out 2))
    refine bodyPost_ret (results_cell_row rfl _ _ gb1012 67 #[.bool a0, .slice Ao25 t1021.length co25, .slice Ao24 t1028.length co24] (0, 0) _ rfl (by (with_reducible repeat (first | refine blk_drewN ?_ _ | refine blk_drew ?_ | refine blk_alloc ?_ _)); refine blk_put (cs := #[.bool a0, .slice Ao25 t1021.length co25, .slice none 0 0]) ?_ 2 _ rfl; (with_reducible repeat (first | refine blk_drewN ?_ _ | refine blk_drew ?_ | refine blk_alloc ?_ _)); refine blk_put (cs := #[.bool a0, .slice none 0 0, .slice none 0 0]) ?_ 1 _ rfl; (with_reducible repeat (first | refine blk_drewN ?_ _ | refine blk_drew ?_ | refine blk_alloc ?_ _)); refine blk_put (cs := #[.bool false, .slice none 0 0, .slice none 0 0]) ?_ 0 _ rfl; (with_reducible repeat (first | refine blk_drewN ?_ _ | refine blk_drew ?_ | refine blk_alloc ?_ _)); exact BK1012.out) Try.underlying67 rfl (by kernel_rfl)) rfl ?_
    exact ⟨_, _, by first | rfl | (simp [errW_none, errW_some] <;> rfl) | (simp [*, errW_none, errW_some] <;> rfl), by (with_reducible repeat (first | apply Kd.V_alloc | apply Kd.V_drewN | apply Kd.V_drew)); exact Kd.V_mono (Kd.V_far (p := ⟨gb1012, 2, none⟩) (Kd.V_far (p := ⟨gb1012, 1, none⟩) (Kd.V_far (p := ⟨gb1012, 0, none⟩) (Kd.V_mono HO1023.out (fun k_ hk => (⟨hk, hk.2⟩ : _ ∧ k_ ≠ gb1012))) (fun _ hk => hk.2) (.bool a0)) (fun _ hk => hk.2) (.slice Ao25 t1021.length co25)) (fun _ hk => hk.2) (.slice Ao24 t1028.length co24)) (fun _ hk => hk.1.1), by (with_reducible repeat (first | apply Kd.V_alloc | apply Kd.V_drewN | apply Kd.V_drew)); exact Kd.V_mono (Kd.V_far (p := ⟨gb1012, 2, none⟩) (Kd.V_far (p := ⟨gb1012, 1, none⟩) (Kd.V_far (p := ⟨gb1012, 0, none⟩) (Kd.V_mono HO1030.out (fun k_ hk => (⟨hk, hk.2⟩ : _ ∧ k_ ≠ gb1012))) (fun _ hk => hk.2) (.bool a0)) (fun _ hk => hk.2) (.slice Ao25 t1021.length co25)) (fun _ hk => hk.2) (.slice Ao24 t1028.length co24)) (fun _ hk => hk.1.1), by repeat (first | (with_reducible first | exact HB.out | apply below_alloc | apply pw_below_drewN | apply below_drew1 | refine below_set ?_ GE1012.out) | exact HB.out)⟩
end Go.Proofs.Ytecfdemglbfnoaa.PT
end
section
namespace Go.Proofs.Ytecfdemglbfnoaa.PT
open Go.RowKit Go.Proofs.YtecfdemglbfnoaaW.PrintWords Go.Proofs.YtecfdemglbfnoaaW.PrintLast Go.Proofs.YtecfdemglbfnoaaW.PrintMore
attribute [local go_sem] max2_int min2_int max_two min_two max_three min_three max_four min_four   -- for this text's walks alone
set_option linter.unusedVariables false
set_option linter.unusedSimpArgs false
def rational_Trim.f (k : Nat) (a0_0 : Bool) (l0_1 : List Int) (l0_2 : List Int) : Option (Bool × List Int × List Int) := (rational_canonical.f k a0_0 l0_1 l0_2).bind fun bt1256 => (some (bt1256.1, bt1256.2.1, bt1256.2.2))
set_option maxHeartbeats 8000000 in
set_option maxRecDepth 100000 in
theorem rational_Trim.calls (k : Nat) (a0_0 : Bool) (P0_1_ : Nat → Prop) (A0_1 : Option Addr) (c0_1 : Nat) (l0_1 : List Int) (P0_2_ : Nat → Prop) (A0_2 : Option Addr) (c0_2 : Nat) (l0_2 : List Int) (r1 : Bool) (r2 : List Int) (r3 : List Int) (w : World) (hs0_1 : Kd.V (Kd.int .u32) 48 w w.heap.size (fun k_ => P0_1_ k_) (.slice A0_1 l0_1.length c0_1) l0_1) (hs0_2 : Kd.V (Kd.int .u32) 48 w w.heap.size (fun k_ => P0_2_ k_) (.slice A0_2 l0_2.length c0_2) l0_2) (h : rational_Trim.f k a0_0 l0_1 l0_2 = some (r1, r2, r3)) :
 Calls Try.prog 87 #[.agg #[.bool a0_0, .slice A0_1 l0_1.length c0_1, .slice A0_2 l0_2.length c0_2]] w fun e w' => ∃ v1_ v2_ : Value, e = .returned (.agg #[.bool r1, v1_, v2_]) ∧ Kd.V (Kd.int .u32) 48 w' w.heap.size (fun k_ => ((P0_1_ k_ ∨ P0_2_ k_) ∨ w.heap.size ≤ k_)) v1_ r2 ∧ Kd.V (Kd.int .u32) 48 w' w.heap.size (fun k_ => ((P0_1_ k_ ∨ P0_2_ k_) ∨ w.heap.size ≤ k_)) v2_ r3 ∧ Below w.heap.size w w' := by
 have hu67 := Try.underlying67
 have HO0_1 := Aside0.mk (show Kd.V (Kd.int .u32) 48 w w.heap.size (fun k_ => ((P0_1_ k_ ∨ P0_2_ k_) ∨ w.heap.size ≤ k_)) (.slice A0_1 l0_1.length c0_1) l0_1 from Kd.V_mono hs0_1 (fun k_ hk => .inl (.inl hk)))
 have HO0_2 := Aside0.mk (show Kd.V (Kd.int .u32) 48 w w.heap.size (fun k_ => ((P0_1_ k_ ∨ P0_2_ k_) ∨ w.heap.size ≤ k_)) (.slice A0_2 l0_2.length c0_2) l0_2 from Kd.V_mono hs0_2 (fun k_ hk => .inl (.inr hk)))
 have HB := Aside0.mk (Below.refl w.heap.size w)
 have H : ((rational_canonical.f k a0_0 l0_1 l0_2).bind fun bt1256 => (some (bt1256.1, bt1256.2.1, bt1256.2.2))) = some (r1, r2, r3) := h
 clear h
 replace H := Option.bind_eq_some_iff.mp H
 obtain ⟨⟨t1256, t1257, t1260⟩, A20, H⟩ := H
 replace H : (some (t1256, t1257, t1260)) = some (r1, r2, r3) := H
 have A2 := Aside0.mk A20
 clear A20
 simp only [Option.some.injEq, Prod.mk.injEq] at H
 obtain ⟨rfl, rfl, rfl⟩ := H
 go_enter Try.func87, Try.ntmps87
 go_wp2_with (first | ((with_reducible refine gate_dst (N := 1) rfl ?_); refine box_event ?hg (N := 1) ?hd (cs := #[.bool a0_0, .slice A0_1 l0_1.length c0_1, .slice A0_2 l0_2.length c0_2]) (t := 67) ?hr ?_; (case hd => rfl); (case hg => rfl); (case hr => first | (go_simp; done) | (go_simp; rfl)); intro gb1254 hg w3 hbox hb; replace HO0_1 := Aside0.mk (Kd.V_below (Kd.V_elderB (vu HO0_1.out) gb1254 (Nat.le_of_eq hg.symm)) hb); replace HO0_2 := Aside0.mk (Kd.V_below (Kd.V_elderB (vu HO0_2.out) gb1254 (Nat.le_of_eq hg.symm)) hb); have BK1254 := Aside0.mk (hbox); have GW1254 := Aside0.mk ((by rw [hg]; exact (below_size (bu HB.out)) : w.heap.size ≤ gb1254)); have GE1254 := Aside0.mk ((by rw [hg]; exact (below_size (bu HB.out)) : w.heap.size ≤ gb1254)); replace HB := Aside0.mk (below_step (bu HB.out) hb); clear hb hbox hg) | ((with_reducible refine gate_dst (N := 2) rfl ?_); refine box_event ?hg (N := 2) ?hd (cs := #[.bool false, .slice none 0 0, .slice none 0 0]) (t := 67) ?hr ?_; (case hd => rfl); (case hg => rfl); (case hr => first | (go_simp; done) | (go_simp; rfl)); intro gb1255 hg w4 hbox hb; replace HO0_1 := Aside0.mk (Kd.V_below (Kd.V_elderB (vu HO0_1.out) gb1255 (Nat.le_of_eq hg.symm)) hb); replace HO0_2 := Aside0.mk (Kd.V_below (Kd.V_elderB (vu HO0_2.out) gb1255 (Nat.le_of_eq hg.symm)) hb); have BK1255 := Aside0.mk (hbox); have GW1255 := Aside0.mk ((by rw [hg]; exact (below_size (bu1 HB.out GE1254.out)) : w.heap.size ≤ gb1255)); have GE1255 := Aside0.mk ((by rw [hg]; exact (below_size (bu1 HB.out GE1254.out)) : w.heap.size ≤ gb1255)); replace HB := Aside0.mk (below_step (bu1 HB.out GE1254.out) hb); have NB1254_1255 := Aside0.mk ((by rw [hg]; exact Nat.ne_of_lt (blk_lt (g := gb1254) (o := .cells #[.bool a0_0, .slice A0_1 l0_1.length c0_1, .slice A0_2 l0_2.length c0_2] 67 (0, 0)) (ku BK1254.out)) : gb1254 ≠ gb1255)); have NB1255_1254 := Aside0.mk ((by rw [hg]; exact Nat.ne_of_gt (blk_lt (g := gb1254) (o := .cells #[.bool a0_0, .slice A0_1 l0_1.length c0_1, .slice A0_2 l0_2.length c0_2] 67 (0, 0)) (ku BK1254.out)) : gb1255 ≠ gb1254)); replace BK1254 := Aside0.mk (blk_below (g := gb1254) (o := .cells #[.bool a0_0, .slice A0_1 l0_1.length c0_1, .slice A0_2 l0_2.length c0_2] 67 (0, 0)) (ku BK1254.out) hb); clear hb hbox hg; have hnb5 := NB1254_1255.out; have hnc5 := NB1255_1254.out; have hcz6_0 : w4.cell? ⟨gb1254, 0, none⟩ = some (.bool a0_0) := (blk_cell BK1254.out 0).trans rfl; have hcz6_1 : w4.cell? ⟨gb1254, 1, none⟩ = some (.slice A0_1 l0_1.length c0_1) := (blk_cell BK1254.out 1).trans rfl; have hcz6_2 : w4.cell? ⟨gb1254, 2, none⟩ = some (.slice A0_2 l0_2.length c0_2) := (blk_cell BK1254.out 2).trans rfl; have hfz6_0 := blk_frozen BK1254.out 0; have hfz6_1 := blk_frozen BK1254.out 1; have hfz6_2 := blk_frozen BK1254.out 2) | ((with_reducible refine gate_callee (f := 155) rfl ?_); refine goesL_ (some 9) rfl rfl Try.func155 (by kernel_rfl) rfl #[.bool a0_0, .slice A0_1 l0_1.length c0_1, .slice A0_2 l0_2.length c0_2] rfl lu ?_; (with_reducible refine (rational_canonical.calls k a0_0 (fun k_ => ((((P0_1_ k_ ∨ P0_2_ k_) ∨ w.heap.size ≤ k_) ∧ k_ ≠ gb1254) ∧ k_ ≠ gb1255)) _ _ l0_1 (fun k_ => ((((P0_1_ k_ ∨ P0_2_ k_) ∨ w.heap.size ≤ k_) ∧ k_ ≠ gb1254) ∧ k_ ≠ gb1255)) _ _ l0_2 t1256 t1257 t1260 _ ?side1 ?side2 A2.out).mono ?_); (case side1 => exact HO0_1.out); (case side2 => exact HO0_2.out); rintro e w7 ⟨v1258, v1261, rfl, ho0, ho1, hb⟩; refine ⟨_, rfl, ?_⟩; replace HO0_1 := Aside0.mk (Kd.V_below (vu HO0_1.out) hb); replace HO0_2 := Aside0.mk (Kd.V_below (vu HO0_2.out) hb); have HO1259 := Aside0.mk (Kd.V_lower (Kd.V_mono (ok' := fun k_ => ((P0_1_ k_ ∨ P0_2_ k_) ∨ w.heap.size ≤ k_) ∧ k_ ≠ gb1254 ∧ k_ ≠ gb1255) ho0 (fun k_ hk_ => ⟨Or.elim hk_ (fun hs_ => Or.elim hs_ (fun hs_ => hs_.1.1) (fun hs_ => hs_.1.1)) (fun hn_ => (.inr (Nat.le_trans (below_size (bu2 HB.out GE1254.out GE1255.out)) hn_))), Or.elim hk_ (fun hs_ => Or.elim hs_ (fun hs_ => hs_.1.2) (fun hs_ => hs_.1.2)) (fun hn_ => (Kd.freshB (g := gb1254) (o := .cells #[.bool a0_0, .slice A0_1 l0_1.length c0_1, .slice A0_2 l0_2.length c0_2] 67 (0, 0)) (ku BK1254.out) k_ hn_)), Or.elim hk_ (fun hs_ => Or.elim hs_ (fun hs_ => hs_.2) (fun hs_ => hs_.2)) (fun hn_ => (Kd.freshB (g := gb1255) (o := .cells #[.bool false, .slice none 0 0, .slice none 0 0] 67 (0, 0)) (ku BK1255.out) k_ hn_))⟩)) (below_size (bu2 HB.out GE1254.out GE1255.out))); have HO1262 := Aside0.mk (Kd.V_lower (Kd.V_mono (ok' := fun k_ => ((P0_1_ k_ ∨ P0_2_ k_) ∨ w.heap.size ≤ k_) ∧ k_ ≠ gb1254 ∧ k_ ≠ gb1255) ho1 (fun k_ hk_ => ⟨Or.elim hk_ (fun hs_ => Or.elim hs_ (fun hs_ => hs_.1.1) (fun hs_ => hs_.1.1)) (fun hn_ => (.inr (Nat.le_trans (below_size (bu2 HB.out GE1254.out GE1255.out)) hn_))), Or.elim hk_ (fun hs_ => Or.elim hs_ (fun hs_ => hs_.1.2) (fun hs_ => hs_.1.2)) (fun hn_ => (Kd.freshB (g := gb1254) (o := .cells #[.bool a0_0, .slice A0_1 l0_1.length c0_1, .slice A0_2 l0_2.length c0_2] 67 (0, 0)) (ku BK1254.out) k_ hn_)), Or.elim hk_ (fun hs_ => Or.elim hs_ (fun hs_ => hs_.2) (fun hs_ => hs_.2)) (fun hn_ => (Kd.freshB (g := gb1255) (o := .cells #[.bool false, .slice none 0 0, .slice none 0 0] 67 (0, 0)) (ku BK1255.out) k_ hn_))⟩)) (below_size (bu2 HB.out GE1254.out GE1255.out))); replace BK1254 := Aside0.mk (blk_below (g := gb1254) (o := .cells #[.bool a0_0, .slice A0_1 l0_1.length c0_1, .slice A0_2 l0_2.length c0_2] 67 (0, 0)) (ku BK1254.out) hb); replace BK1255 := Aside0.mk (blk_below (g := gb1255) (o := .cells #[.bool false, .slice none 0 0, .slice none 0 0] 67 (0, 0)) (ku BK1255.out) hb); replace HB := Aside0.mk (below_step (bu2 HB.out GE1254.out GE1255.out) hb); (try clear hb); (try clear hb2); (try clear hk); (try clear hi); (try clear ho0); (try clear ho1); have hcz8_0 : w7.cell? ⟨gb1255, 0, none⟩ = some (.bool false) := (blk_cell BK1255.out 0).trans rfl; have hcz8_1 : w7.cell? ⟨gb1255, 1, none⟩ = some (.slice none 0 0) := (blk_cell BK1255.out 1).trans rfl; have hcz8_2 : w7.cell? ⟨gb1255, 2, none⟩ = some (.slice none 0 0) := (blk_cell BK1255.out 2).trans rfl; have hfz8_0 := blk_frozen BK1255.out 0; have hfz8_1 := blk_frozen BK1255.out 1; have hfz8_2 := blk_frozen BK1255.out 2; obtain ⟨Ao9, co9, eo9⟩ := Kd.V_slice HO1259.out; subst eo9; obtain ⟨Ao10, co10, eo10⟩ := Kd.V_slice HO1262.out; subst eo10))
 refine bodyPost_ret (results_cell_row rfl _ _ gb1255 67 #[.bool t1256, .slice Ao9 t1257.length co9, .slice Ao10 t1260.length co10] (0, 0) _ rfl (by (with_reducible repeat (first | refine blk_drewN ?_ _ | refine blk_drew ?_ | refine blk_alloc ?_ _)); refine blk_put (cs := #[.bool t1256, .slice Ao9 t1257.length co9, .slice none 0 0]) ?_ 2 _ rfl; (with_reducible repeat (first | refine blk_drewN ?_ _ | refine blk_drew ?_ | refine blk_alloc ?_ _)); refine blk_put (cs := #[.bool t1256, .slice none 0 0, .slice none 0 0]) ?_ 1 _ rfl; (with_reducible repeat (first | refine blk_drewN ?_ _ | refine blk_drew ?_ | refine blk_alloc ?_ _)); refine blk_put (cs := #[.bool false, .slice none 0 0, .slice none 0 0]) ?_ 0 _ rfl; (with_reducible repeat (first | refine blk_drewN ?_ _ | refine blk_drew ?_ | refine blk_alloc ?_ _)); exact BK1255.out) Try.underlying67 rfl (by kernel_rfl)) rfl ?_
 exact ⟨_, _, by first | rfl | (simp [errW_none, errW_some] <;> rfl) | (simp [*, errW_none, errW_some] <;> rfl), by (with_reducible repeat (first | apply Kd.V_alloc | apply Kd.V_drewN | apply Kd.V_drew)); exact Kd.V_mono (Kd.V_far (p := ⟨gb1255, 2, none⟩) (Kd.V_far (p := ⟨gb1255, 1, none⟩) (Kd.V_far (p := ⟨gb1255, 0, none⟩) (Kd.V_mono HO1259.out (fun k_ hk => (⟨hk, hk.2.2⟩ : _ ∧ k_ ≠ gb1255))) (fun _ hk => hk.2) (.bool t1256)) (fun _ hk => hk.2) (.slice Ao9 t1257.length co9)) (fun _ hk => hk.2) (.slice Ao10 t1260.length co10)) (fun _ hk => hk.1.1), by (with_reducible repeat (first | apply Kd.V_alloc | apply Kd.V_drewN | apply Kd.V_drew)); exact Kd.V_mono (Kd.V_far (p := ⟨gb1255, 2, none⟩) (Kd.V_far (p := ⟨gb1255, 1, none⟩) (Kd.V_far (p := ⟨gb1255, 0, none⟩) (Kd.V_mono HO1262.out (fun k_ hk => (⟨hk, hk.2.2⟩ : _ ∧ k_ ≠ gb1255))) (fun _ hk => hk.2) (.bool t1256)) (fun _ hk => hk.2) (.slice Ao9 t1257.length co9)) (fun _ hk => hk.2) (.slice Ao10 t1260.length co10)) (fun _ hk => hk.1.1), by repeat (first | (with_reducible first | exact HB.out | apply below_alloc | apply pw_below_drewN | apply below_drew1 | refine below_set ?_ GE1254.out | refine below_set ?_ GE1255.out) | exact HB.out)⟩
end Go.Proofs.Ytecfdemglbfnoaa.PT
end
section
namespace Go.Proofs.Ytecfdemglbfnoaa.PT
open Go.RowKit Go.Proofs.YtecfdemglbfnoaaW.PrintWords Go.Proofs.YtecfdemglbfnoaaW.PrintLast Go.Proofs.YtecfdemglbfnoaaW.PrintMore
attribute [local go_sem] max2_int min2_int max_two min_two max_three min_three max_four min_four   -- for this text's walks alone
set_option linter.unusedVariables false
set_option linter.unusedSimpArgs false
def rational_equal.f (k : Nat) (l0 : List Int) (l1 : List Int) : Option (Bool) := if (l0.length : Int) = (l1.length : Int) then ((nat_Cmp.f k l0 l1).bind fun t1263 => (some (t1263 == 0))) else (some false)
set_option maxHeartbeats 8000000 in
set_option maxRecDepth 100000 in
theorem rational_equal.calls (k : Nat) (A0 : Option Addr) (c0 : Nat) (l0 : List Int) (A1 : Option Addr) (c1 : Nat) (l1 : List Int) (r : Bool) (w : World) (hr0 : Kd.C (Kd.int .u32) w A0 l0.length l0) (hc0 : l0.length ≤ c0) (hr1 : Kd.C (Kd.int .u32) w A1 l1.length l1) (hc1 : l1.length ≤ c1) (h : rational_equal.f k l0 l1 = some r) :
 Calls Try.prog 160 #[.slice A0 l0.length c0, .slice A1 l1.length c1] w fun e w' => e = .returned (.bool r) ∧ Below w.heap.size w w' := by
 have HR0 := Aside0.mk hr0
 have HC0 := Aside0.mk hc0
 clear hr0 hc0
 have HR1 := Aside0.mk hr1
 have HC1 := Aside0.mk hc1
 clear hr1 hc1
 have HB := Aside0.mk (Below.refl w.heap.size w)
 have H : (if (l0.length : Int) = (l1.length : Int) then ((nat_Cmp.f k l0 l1).bind fun t1263 => (some (t1263 == 0))) else (some false)) = some r := h
 clear h
 by_cases c3 : (l0.length : Int) = (l1.length : Int)
 ·
  rw [if_pos c3] at H
  have c3b0 : ((l0.length : Int) == (l1.length : Int)) = true := beq_iff_eq.mpr c3
  have c3b1 : ((l0.length : Int) != (l1.length : Int)) = false := bne_eq_false_iff_eq.mpr c3
  have c3b2 : (l0.length == l1.length) = true := by first | simpa using c3 | (simp at c3 ⊢; omega)
  clear c3
  replace H := Option.bind_eq_some_iff.mp H
  obtain ⟨t1263, A40, H⟩ := H
  replace H : (some (t1263 == 0)) = some r := H
  have A4 := Aside0.mk A40
  clear A40
  obtain rfl := Option.some.inj H
  go_enter Try.func160, Try.ntmps160
  go_wp2_with (first | (go_at_call 146; (with_reducible refine (nat_Cmp.calls k _ _ l0 _ _ l1 t1263 _ ?side1 ?side2 ?side3 ?side4 A4.out).mono ?_); (case side1 => repeat (first | exact HR0.out | (with_reducible refine Kd.C_alloc ?_ _) | (with_reducible refine Kd.C_drewN ?_ _) | (with_reducible refine Kd.C_drew ?_))); (case side2 => exact HC0.out); (case side3 => repeat (first | exact HR1.out | (with_reducible refine Kd.C_alloc ?_ _) | (with_reducible refine Kd.C_drewN ?_ _) | (with_reducible refine Kd.C_drew ?_))); (case side4 => exact HC1.out); rintro e w5 ⟨rfl, hb⟩; replace HB := Aside0.mk (below_step (bu HB.out) hb); (try clear hb); (try clear hb2); (try clear hk); (try clear hi)))
  go_ret
  exact ⟨by first | rfl | (simp [errW_none, errW_some] <;> rfl) | (simp [*, errW_none, errW_some] <;> rfl), by repeat (first | (with_reducible first | exact HB.out | apply below_alloc | apply pw_below_drewN | apply below_drew1) | exact HB.out)⟩
 ·
  rw [if_neg c3] at H
  have c3b0 : ((l0.length : Int) == (l1.length : Int)) = false := beq_eq_false_iff_ne.mpr c3
  have c3b1 : ((l0.length : Int) != (l1.length : Int)) = true := bne_iff_ne.mpr c3
  have c3b2 : (l0.length == l1.length) = false := by first | simpa using c3 | (simp at c3 ⊢; omega)
  obtain rfl := Option.some.inj H
  go_enter Try.func160, Try.ntmps160
  go_wp2
  go_ret
  exact ⟨by first | rfl | (simp [errW_none, errW_some] <;> rfl) | (simp [*, errW_none, errW_some] <;> rfl), by repeat (first | (with_reducible first | exact HB.out | apply below_alloc | apply pw_below_drewN | apply below_drew1) | exact HB.out)⟩
end Go.Proofs.Ytecfdemglbfnoaa.PT
end
section
namespace Go.Proofs.Ytecfdemglbfnoaa.PT
open Go.RowKit Go.Proofs.YtecfdemglbfnoaaW.PrintWords Go.Proofs.YtecfdemglbfnoaaW.PrintLast Go.Proofs.YtecfdemglbfnoaaW.PrintMore
attribute [local go_sem] max2_int min2_int max_two min_two max_three min_three max_four min_four   -- for this text's walks alone
set_option linter.unusedVariables false
set_option linter.unusedSimpArgs false
def rational_Is.f (k : Nat) (a0_0 : Bool) (l0_1 : List Int) (l0_2 : List Int) : Option (Bool) := (rational_Trim.f k a0_0 l0_1 l0_2).bind fun bt1265 => (if (a0_0 == bt1265.1) = true then ((rational_equal.f k l0_1 bt1265.2.1).bind fun t1273 => (if t1273 = true then ((rational_equal.f k l0_2 bt1265.2.2).bind fun t1274 => (some t1274)) else (some false))) else (some false))
set_option maxHeartbeats 8000000 in
set_option maxRecDepth 100000 in
theorem rational_Is.calls (k : Nat) (a0_0 : Bool) (A0_1 : Option Addr) (c0_1 : Nat) (l0_1 : List Int) (A0_2 : Option Addr) (c0_2 : Nat) (l0_2 : List Int) (r : Bool) (w : World) (hr0_1 : Kd.C (Kd.int .u32) w A0_1 l0_1.length l0_1) (hc0_1 : l0_1.length ≤ c0_1) (hr0_2 : Kd.C (Kd.int .u32) w A0_2 l0_2.length l0_2) (hc0_2 : l0_2.length ≤ c0_2) (h : rational_Is.f k a0_0 l0_1 l0_2 = some r) :
 Calls Try.prog 89 #[.agg #[.bool a0_0, .slice A0_1 l0_1.length c0_1, .slice A0_2 l0_2.length c0_2]] w fun e w' => e = .returned (.bool r) ∧ Below w.heap.size w w' := by
 have hu67 := Try.underlying67
 have HR0_1 := Aside0.mk hr0_1
 have HC0_1 := Aside0.mk hc0_1
 clear hr0_1 hc0_1
 have HR0_2 := Aside0.mk hr0_2
 have HC0_2 := Aside0.mk hc0_2
 clear hr0_2 hc0_2
 have HB := Aside0.mk (Below.refl w.heap.size w)
 have H : ((rational_Trim.f k a0_0 l0_1 l0_2).bind fun bt1265 => (if (a0_0 == bt1265.1) = true then ((rational_equal.f k l0_1 bt1265.2.1).bind fun t1273 => (if t1273 = true then ((rational_equal.f k l0_2 bt1265.2.2).bind fun t1274 => (some t1274)) else (some false))) else (some false))) = some r := h
 clear h
 replace H := Option.bind_eq_some_iff.mp H
 obtain ⟨⟨t1265, t1266, t1269⟩, A20, H⟩ := H
 replace H : (if (a0_0 == t1265) = true then ((rational_equal.f k l0_1 t1266).bind fun t1273 => (if t1273 = true then ((rational_equal.f k l0_2 t1269).bind fun t1274 => (some t1274)) else (some false))) else (some false)) = some r := H
 have A2 := Aside0.mk A20
 clear A20
 by_cases c3 : (a0_0 == t1265) = true
 ·
  rw [if_pos c3] at H
  have c3b0 : (a0_0 == t1265) = true := c3
  (try (have c3b1 : decide (a0_0 = t1265) = true := by simpa using c3))
  (try (have c3b2 : (a0_0 == t1265) = true := by simpa using c3))
  clear c3
  replace H := Option.bind_eq_some_iff.mp H
  obtain ⟨t1273, A40, H⟩ := H
  replace H : (if t1273 = true then ((rational_equal.f k l0_2 t1269).bind fun t1274 => (some t1274)) else (some false)) = some r := H
  have A4 := Aside0.mk A40
  clear A40
  by_cases c5 : t1273 = true
  ·
   subst c5
   have H1 : ((rational_equal.f k l0_2 t1269).bind fun t1274 => (some t1274)) = some r := by rw [if_pos rfl] at H; exact H
   clear H
   have H := H1
   clear H1
   replace H := Option.bind_eq_some_iff.mp H
   obtain ⟨t1274, A60, H⟩ := H
   replace H : (some t1274) = some r := H
   have A6 := Aside0.mk A60
   clear A60
   obtain rfl := Option.some.inj H
   go_enter Try.func89, Try.ntmps89
   go_wp2_with (first | ((with_reducible refine gate_dst (N := 1) rfl ?_); refine box_event ?hg (N := 1) ?hd (cs := #[.bool a0_0, .slice A0_1 l0_1.length c0_1, .slice A0_2 l0_2.length c0_2]) (t := 67) ?hr ?_; (case hd => rfl); (case hg => rfl); (case hr => first | (go_simp; done) | (go_simp; rfl)); intro gb1264 hg w7 hbox hb; have BK1264 := Aside0.mk (hbox); have GW1264 := Aside0.mk ((by rw [hg]; exact (below_size (bu HB.out)) : w.heap.size ≤ gb1264)); have GE1264 := Aside0.mk ((by rw [hg]; exact (below_size (bu HB.out)) : w.heap.size ≤ gb1264)); replace HB := Aside0.mk (below_step (bu HB.out) hb); clear hb hbox hg; have hcz8_0 : w7.cell? ⟨gb1264, 0, none⟩ = some (.bool a0_0) := (blk_cell BK1264.out 0).trans rfl; have hcz8_1 : w7.cell? ⟨gb1264, 1, none⟩ = some (.slice A0_1 l0_1.length c0_1) := (blk_cell BK1264.out 1).trans rfl; have hcz8_2 : w7.cell? ⟨gb1264, 2, none⟩ = some (.slice A0_2 l0_2.length c0_2) := (blk_cell BK1264.out 2).trans rfl; have hfz8_0 := blk_frozen BK1264.out 0; have hfz8_1 := blk_frozen BK1264.out 1; have hfz8_2 := blk_frozen BK1264.out 2) | ((with_reducible refine gate_callee (f := 87) rfl ?_); refine goesL_ (some 5) rfl rfl Try.func87 (by kernel_rfl) rfl #[.agg #[.bool a0_0, .slice A0_1 l0_1.length c0_1, .slice A0_2 l0_2.length c0_2]] rfl lu ?_; (with_reducible refine (rational_Trim.calls k a0_0 (fun k_ => k_ < w.heap.size) _ _ l0_1 (fun k_ => k_ < w.heap.size) _ _ l0_2 t1265 t1266 t1269 _ ?side1 ?side2 A2.out).mono ?_); (case side1 => exact Kd.V_mk HC0_1.out (Kd.F_below (Kd.C_F (Kd.heap_int .u32) HR0_1.out) (bu1 HB.out GE1264.out))); (case side2 => exact Kd.V_mk HC0_2.out (Kd.F_below (Kd.C_F (Kd.heap_int .u32) HR0_2.out) (bu1 HB.out GE1264.out))); rintro e w9 ⟨v1267, v1270, rfl, ho0, ho1, hb⟩; refine ⟨_, rfl, ?_⟩; have HO1268 := Aside0.mk (Kd.V_lower (Kd.V_mono (ok' := fun k_ => k_ ≠ gb1264) ho0 (fun k_ hk_ => Or.elim hk_ (fun hs_ => Or.elim hs_ (fun hs_ => fun e_ => Nat.not_le.2 hs_ (by rw [e_]; exact GW1264.out)) (fun hs_ => fun e_ => Nat.not_le.2 hs_ (by rw [e_]; exact GW1264.out))) (fun hn_ => (Kd.freshB (g := gb1264) (o := .cells #[.bool a0_0, .slice A0_1 l0_1.length c0_1, .slice A0_2 l0_2.length c0_2] 67 (0, 0)) (ku BK1264.out) k_ hn_)))) (below_size (bu1 HB.out GE1264.out))); have HO1271 := Aside0.mk (Kd.V_lower (Kd.V_mono (ok' := fun k_ => k_ ≠ gb1264) ho1 (fun k_ hk_ => Or.elim hk_ (fun hs_ => Or.elim hs_ (fun hs_ => fun e_ => Nat.not_le.2 hs_ (by rw [e_]; exact GW1264.out)) (fun hs_ => fun e_ => Nat.not_le.2 hs_ (by rw [e_]; exact GW1264.out))) (fun hn_ => (Kd.freshB (g := gb1264) (o := .cells #[.bool a0_0, .slice A0_1 l0_1.length c0_1, .slice A0_2 l0_2.length c0_2] 67 (0, 0)) (ku BK1264.out) k_ hn_)))) (below_size (bu1 HB.out GE1264.out))); replace BK1264 := Aside0.mk (blk_below (g := gb1264) (o := .cells #[.bool a0_0, .slice A0_1 l0_1.length c0_1, .slice A0_2 l0_2.length c0_2] 67 (0, 0)) (ku BK1264.out) hb); replace HB := Aside0.mk (below_step (bu1 HB.out GE1264.out) hb); (try clear hb); (try clear hb2); (try clear hk); (try clear hi); (try clear ho0); (try clear ho1)) | ((with_reducible refine gate_dst (N := 3) rfl ?_); refine box_event ?hg (N := 3) ?hd (cs := #[.bool false, .slice none 0 0, .slice none 0 0]) (t := 67) ?hr ?_; (case hd => rfl); (case hg => rfl); (case hr => first | (go_simp; done) | (go_simp; rfl)); intro gb1272 hg w10 hbox hb; replace HO1268 := Aside0.mk (Kd.V_below (Kd.V_elderB (vu HO1268.out) gb1272 (Nat.le_of_eq hg.symm)) hb); replace HO1271 := Aside0.mk (Kd.V_below (Kd.V_elderB (vu HO1271.out) gb1272 (Nat.le_of_eq hg.symm)) hb); have BK1272 := Aside0.mk (hbox); have GW1272 := Aside0.mk ((by rw [hg]; exact (below_size (bu1 HB.out GE1264.out)) : w.heap.size ≤ gb1272)); have GE1272 := Aside0.mk ((by rw [hg]; exact (below_size (bu1 HB.out GE1264.out)) : w.heap.size ≤ gb1272)); replace HB := Aside0.mk (below_step (bu1 HB.out GE1264.out) hb); have NB1264_1272 := Aside0.mk ((by rw [hg]; exact Nat.ne_of_lt (blk_lt (g := gb1264) (o := .cells #[.bool a0_0, .slice A0_1 l0_1.length c0_1, .slice A0_2 l0_2.length c0_2] 67 (0, 0)) (ku BK1264.out)) : gb1264 ≠ gb1272)); have NB1272_1264 := Aside0.mk ((by rw [hg]; exact Nat.ne_of_gt (blk_lt (g := gb1264) (o := .cells #[.bool a0_0, .slice A0_1 l0_1.length c0_1, .slice A0_2 l0_2.length c0_2] 67 (0, 0)) (ku BK1264.out)) : gb1272 ≠ gb1264)); replace BK1264 := Aside0.mk (blk_below (g := gb1264) (o := .cells #[.bool a0_0, .slice A0_1 l0_1.length c0_1, .slice A0_2 l0_2.length c0_2] 67 (0, 0)) (ku BK1264.out) hb); clear hb hbox hg; have hnb11 := NB1272_1264.out; have hnc11 := NB1264_1272.out; have hcz12_0 : w10.cell? ⟨gb1272, 0, none⟩ = some (.bool false) := (blk_cell BK1272.out 0).trans rfl; have hcz12_1 : w10.cell? ⟨gb1272, 1, none⟩ = some (.slice none 0 0) := (blk_cell BK1272.out 1).trans rfl; have hcz12_2 : w10.cell? ⟨gb1272, 2, none⟩ = some (.slice none 0 0) := (blk_cell BK1272.out 2).trans rfl; have hfz12_0 := blk_frozen BK1272.out 0; have hfz12_1 := blk_frozen BK1272.out 1; have hfz12_2 := blk_frozen BK1272.out 2; obtain ⟨Ao13, co13, eo13⟩ := Kd.V_slice HO1268.out; subst eo13; obtain ⟨Ao14, co14, eo14⟩ := Kd.V_slice HO1271.out; subst eo14; have hcz15_0 : w10.cell? ⟨gb1264, 0, none⟩ = some (.bool a0_0) := (blk_cell BK1264.out 0).trans rfl; have hcz15_1 : w10.cell? ⟨gb1264, 1, none⟩ = some (.slice A0_1 l0_1.length c0_1) := (blk_cell BK1264.out 1).trans rfl; have hcz15_2 : w10.cell? ⟨gb1264, 2, none⟩ = some (.slice A0_2 l0_2.length c0_2) := (blk_cell BK1264.out 2).trans rfl; have hfz15_0 := blk_frozen BK1264.out 0; have hfz15_1 := blk_frozen BK1264.out 1; have hfz15_2 := blk_frozen BK1264.out 2) | (go_at_call 160; (with_reducible refine (rational_equal.calls k _ _ l0_1 _ _ t1266 true _ ?side1 ?side2 ?side3 ?side4 A4.out).mono ?_); (case side1 => exact Kd.C_below HR0_1.out (bu2 HB.out GE1264.out GE1272.out)); (case side2 => exact HC0_1.out); (case side3 => refine (Kd.V_reads' (e := 48) (base := w.heap.size) (ok := fun k_ => (k_ ≠ gb1264 ∧ k_ ≠ gb1272)) (n := t1266.length) (c := co13) ?_).2.2; exact (by (with_reducible repeat (first | apply Kd.V_alloc | apply Kd.V_drewN | apply Kd.V_drew)); exact (Kd.V_mono (Kd.V_far (p := ⟨gb1272, 2, none⟩) (Kd.V_far (p := ⟨gb1272, 1, none⟩) (Kd.V_far (p := ⟨gb1272, 0, none⟩) (Kd.V_mono HO1268.out (fun k_ hk => (⟨hk, hk.2⟩ : _ ∧ k_ ≠ gb1272))) (fun _ hk => hk.2) (.bool t1265)) (fun _ hk => hk.2) (.slice Ao13 t1266.length co13)) (fun _ hk => hk.2) (.slice Ao14 t1269.length co14)) (fun _ h_ => h_.1)))); (case side4 => exact (Kd.V_reads' HO1268.out).2.1); rintro e w16 ⟨rfl, hb⟩; replace HO1268 := Aside0.mk (Kd.V_below (by (with_reducible repeat (first | apply Kd.V_alloc | apply Kd.V_drewN | apply Kd.V_drew)); exact (Kd.V_mono (Kd.V_far (p := ⟨gb1272, 2, none⟩) (Kd.V_far (p := ⟨gb1272, 1, none⟩) (Kd.V_far (p := ⟨gb1272, 0, none⟩) (Kd.V_mono HO1268.out (fun k_ hk => (⟨hk, hk.2⟩ : _ ∧ k_ ≠ gb1272))) (fun _ hk => hk.2) (.bool t1265)) (fun _ hk => hk.2) (.slice Ao13 t1266.length co13)) (fun _ hk => hk.2) (.slice Ao14 t1269.length co14)) (fun _ h_ => h_.1))) hb); replace HO1271 := Aside0.mk (Kd.V_below (by (with_reducible repeat (first | apply Kd.V_alloc | apply Kd.V_drewN | apply Kd.V_drew)); exact (Kd.V_mono (Kd.V_far (p := ⟨gb1272, 2, none⟩) (Kd.V_far (p := ⟨gb1272, 1, none⟩) (Kd.V_far (p := ⟨gb1272, 0, none⟩) (Kd.V_mono HO1271.out (fun k_ hk => (⟨hk, hk.2⟩ : _ ∧ k_ ≠ gb1272))) (fun _ hk => hk.2) (.bool t1265)) (fun _ hk => hk.2) (.slice Ao13 t1266.length co13)) (fun _ hk => hk.2) (.slice Ao14 t1269.length co14)) (fun _ h_ => h_.1))) hb); replace BK1264 := Aside0.mk (blk_below (g := gb1264) (o := .cells #[.bool a0_0, .slice A0_1 l0_1.length c0_1, .slice A0_2 l0_2.length c0_2] 67 (0, 0)) (by (with_reducible repeat (first | refine blk_drewN ?_ _ | refine blk_drew ?_ | refine blk_alloc ?_ _)); refine blk_far ?_ NB1264_1272.out _; (with_reducible repeat (first | refine blk_drewN ?_ _ | refine blk_drew ?_ | refine blk_alloc ?_ _)); refine blk_far ?_ NB1264_1272.out _; (with_reducible repeat (first | refine blk_drewN ?_ _ | refine blk_drew ?_ | refine blk_alloc ?_ _)); refine blk_far ?_ NB1264_1272.out _; (with_reducible repeat (first | refine blk_drewN ?_ _ | refine blk_drew ?_ | refine blk_alloc ?_ _)); exact BK1264.out) hb); replace BK1272 := Aside0.mk (blk_below (g := gb1272) (o := .cells #[.bool t1265, .slice Ao13 t1266.length co13, .slice Ao14 t1269.length co14] 67 (0, 0)) (by (with_reducible repeat (first | refine blk_drewN ?_ _ | refine blk_drew ?_ | refine blk_alloc ?_ _)); refine blk_put (cs := #[.bool t1265, .slice Ao13 t1266.length co13, .slice none 0 0]) ?_ 2 _ rfl; (with_reducible repeat (first | refine blk_drewN ?_ _ | refine blk_drew ?_ | refine blk_alloc ?_ _)); refine blk_put (cs := #[.bool t1265, .slice none 0 0, .slice none 0 0]) ?_ 1 _ rfl; (with_reducible repeat (first | refine blk_drewN ?_ _ | refine blk_drew ?_ | refine blk_alloc ?_ _)); refine blk_put (cs := #[.bool false, .slice none 0 0, .slice none 0 0]) ?_ 0 _ rfl; (with_reducible repeat (first | refine blk_drewN ?_ _ | refine blk_drew ?_ | refine blk_alloc ?_ _)); exact BK1272.out) hb); replace HB := Aside0.mk (below_step (bu2 HB.out GE1264.out GE1272.out) hb); (try clear hb); (try clear hb2); (try clear hk); (try clear hi); have hcz17_0 : w16.cell? ⟨gb1264, 0, none⟩ = some (.bool a0_0) := (blk_cell BK1264.out 0).trans rfl; have hcz17_1 : w16.cell? ⟨gb1264, 1, none⟩ = some (.slice A0_1 l0_1.length c0_1) := (blk_cell BK1264.out 1).trans rfl; have hcz17_2 : w16.cell? ⟨gb1264, 2, none⟩ = some (.slice A0_2 l0_2.length c0_2) := (blk_cell BK1264.out 2).trans rfl; have hfz17_0 := blk_frozen BK1264.out 0; have hfz17_1 := blk_frozen BK1264.out 1; have hfz17_2 := blk_frozen BK1264.out 2; have hcz18_0 : w16.cell? ⟨gb1272, 0, none⟩ = some (.bool t1265) := (blk_cell BK1272.out 0).trans rfl; have hcz18_1 : w16.cell? ⟨gb1272, 1, none⟩ = some (.slice Ao13 t1266.length co13) := (blk_cell BK1272.out 1).trans rfl; have hcz18_2 : w16.cell? ⟨gb1272, 2, none⟩ = some (.slice Ao14 t1269.length co14) := (blk_cell BK1272.out 2).trans rfl; have hfz18_0 := blk_frozen BK1272.out 0; have hfz18_1 := blk_frozen BK1272.out 1; have hfz18_2 := blk_frozen BK1272.out 2) | (go_at_call 160; (with_reducible refine (rational_equal.calls k _ _ l0_2 _ _ t1269 t1274 _ ?side1 ?side2 ?side3 ?side4 A6.out).mono ?_); (case side1 => repeat (first | exact (Kd.C_below HR0_2.out HB.out) | (with_reducible refine Kd.C_alloc ?_ _) | (with_reducible refine Kd.C_drewN ?_ _) | (with_reducible refine Kd.C_drew ?_))); (case side2 => exact HC0_2.out); (case side3 => repeat (first | exact (Kd.V_reads' HO1271.out).2.2 | (with_reducible refine Kd.C_alloc ?_ _) | (with_reducible refine Kd.C_drewN ?_ _) | (with_reducible refine Kd.C_drew ?_))); (case side4 => exact (Kd.V_reads' HO1271.out).2.1); rintro e w19 ⟨rfl, hb⟩; replace HO1268 := Aside0.mk (Kd.V_below (vu HO1268.out) hb); replace HO1271 := Aside0.mk (Kd.V_below (vu HO1271.out) hb); replace BK1264 := Aside0.mk (blk_below (g := gb1264) (o := .cells #[.bool a0_0, .slice A0_1 l0_1.length c0_1, .slice A0_2 l0_2.length c0_2] 67 (0, 0)) (ku BK1264.out) hb); replace BK1272 := Aside0.mk (blk_below (g := gb1272) (o := .cells #[.bool t1265, .slice Ao13 t1266.length co13, .slice Ao14 t1269.length co14] 67 (0, 0)) (ku BK1272.out) hb); replace HB := Aside0.mk (below_step (bu2 HB.out GE1264.out GE1272.out) hb); (try clear hb); (try clear hb2); (try clear hk); (try clear hi)))
   go_ret
   exact ⟨by first | rfl | (simp [errW_none, errW_some] <;> rfl) | (simp [*, errW_none, errW_some] <;> rfl), by repeat (first | (with_reducible first | exact HB.out | apply below_alloc | apply pw_below_drewN | apply below_drew1 | refine below_set ?_ GE1264.out | refine below_set ?_ GE1272.out) | exact HB.out)⟩
  ·
   replace c5 := Bool.eq_false_iff.mpr c5
   subst c5
   have H1 : (some false) = some r := by rw [if_neg (show ¬ (false = true) by decide)] at H; exact H
   clear H
   have H := H1
   clear H1
   obtain rfl := Option.some.inj H
   go_enter Try.func89, Try.ntmps89
   go_wp2_with (first | ((with_reducible refine gate_dst (N := 1) rfl ?_); refine box_event ?hg (N := 1) ?hd (cs := #[.bool a0_0, .slice A0_1 l0_1.length c0_1, .slice A0_2 l0_2.length c0_2]) (t := 67) ?hr ?_; (case hd => rfl); (case hg => rfl); (case hr => first | (go_simp; done) | (go_simp; rfl)); intro gb1264 hg w20 hbox hb; have BK1264 := Aside0.mk (hbox); have GW1264 := Aside0.mk ((by rw [hg]; exact (below_size (bu HB.out)) : w.heap.size ≤ gb1264)); have GE1264 := Aside0.mk ((by rw [hg]; exact (below_size (bu HB.out)) : w.heap.size ≤ gb1264)); replace HB := Aside0.mk (below_step (bu HB.out) hb); clear hb hbox hg; have hcz21_0 : w20.cell? ⟨gb1264, 0, none⟩ = some (.bool a0_0) := (blk_cell BK1264.out 0).trans rfl; have hcz21_1 : w20.cell? ⟨gb1264, 1, none⟩ = some (.slice A0_1 l0_1.length c0_1) := (blk_cell BK1264.out 1).trans rfl; have hcz21_2 : w20.cell? ⟨gb1264, 2, none⟩ = some (.slice A0_2 l0_2.length c0_2) := (blk_cell BK1264.out 2).trans rfl; have hfz21_0 := blk_frozen BK1264.out 0; have hfz21_1 := blk_frozen BK1264.out 1; have hfz21_2 := blk_frozen BK1264.out 2) | ((with_reducible refine gate_callee (f := 87) rfl ?_); refine goesL_ (some 5) rfl rfl Try.func87 (by kernel_rfl) rfl #[.agg #[.bool a0_0, .slice A0_1 l0_1.length c0_1, .slice A0_2 l0_2.length c0_2]] rfl lu ?_; (with_reducible refine (rational_Trim.calls k a0_0 (fun k_ => k_ < w.heap.size) _ _ l0_1 (fun k_ => k_ < w.heap.size) _ _ l0_2 t1265 t1266 t1269 _ ?side1 ?side2 A2.out).mono ?_); (case side1 => exact Kd.V_mk HC0_1.out (Kd.F_below (Kd.C_F (Kd.heap_int .u32) HR0_1.out) (bu1 HB.out GE1264.out))); (case side2 => exact Kd.V_mk HC0_2.out (Kd.F_below (Kd.C_F (Kd.heap_int .u32) HR0_2.out) (bu1 HB.out GE1264.out))); rintro e w22 ⟨v1267, v1270, rfl, ho0, ho1, hb⟩; refine ⟨_, rfl, ?_⟩; have HO1268 := Aside0.mk (Kd.V_lower (Kd.V_mono (ok' := fun k_ => k_ ≠ gb1264) ho0 (fun k_ hk_ => Or.elim hk_ (fun hs_ => Or.elim hs_ (fun hs_ => fun e_ => Nat.not_le.2 hs_ (by rw [e_]; exact GW1264.out)) (fun hs_ => fun e_ => Nat.not_le.2 hs_ (by rw [e_]; exact GW1264.out))) (fun hn_ => (Kd.freshB (g := gb1264) (o := .cells #[.bool a0_0, .slice A0_1 l0_1.length c0_1, .slice A0_2 l0_2.length c0_2] 67 (0, 0)) (ku BK1264.out) k_ hn_)))) (below_size (bu1 HB.out GE1264.out))); have HO1271 := Aside0.mk (Kd.V_lower (Kd.V_mono (ok' := fun k_ => k_ ≠ gb1264) ho1 (fun k_ hk_ => Or.elim hk_ (fun hs_ => Or.elim hs_ (fun hs_ => fun e_ => Nat.not_le.2 hs_ (by rw [e_]; exact GW1264.out)) (fun hs_ => fun e_ => Nat.not_le.2 hs_ (by rw [e_]; exact GW1264.out))) (fun hn_ => (Kd.freshB (g := gb1264) (o := .cells #[.bool a0_0, .slice A0_1 l0_1.length c0_1, .slice A0_2 l0_2.length c0_2] 67 (0, 0)) (ku BK1264.out) k_ hn_)))) (below_size (bu1 HB.out GE1264.out))); replace BK1264 := Aside0.mk (blk_below (g := gb1264) (o := .cells #[.bool a0_0, .slice A0_1 l0_1.length c0_1, .slice A0_2 l0_2.length c0_2] 67 (0, 0)) (ku BK1264.out) hb); replace HB := Aside0.mk (below_step (bu1 HB.out GE1264.out) hb); (try clear hb); (try clear hb2); (try clear hk); (try clear hi); (try clear ho0); (try clear ho1)) | ((with_reducible refine gate_dst (N := 3) rfl ?_); refine box_event ?hg (N := 3) ?hd (cs := #[.bool false, .slice none 0 0, .slice none 0 0]) (t := 67) ?hr ?_; (case hd => rfl); (case hg => rfl); (case hr => first | (go_simp; done) | (go_simp; rfl)); intro gb1272 hg w23 hbox hb; replace HO1268 := Aside0.mk (Kd.V_below (Kd.V_elderB (vu HO1268.out) gb1272 (Nat.le_of_eq hg.symm)) hb); replace HO1271 := Aside0.mk (Kd.V_below (Kd.V_elderB (vu HO1271.out) gb1272 (Nat.le_of_eq hg.symm)) hb); have BK1272 := Aside0.mk (hbox); have GW1272 := Aside0.mk ((by rw [hg]; exact (below_size (bu1 HB.out GE1264.out)) : w.heap.size ≤ gb1272)); have GE1272 := Aside0.mk ((by rw [hg]; exact (below_size (bu1 HB.out GE1264.out)) : w.heap.size ≤ gb1272)); replace HB := Aside0.mk (below_step (bu1 HB.out GE1264.out) hb); have NB1264_1272 := Aside0.mk ((by rw [hg]; exact Nat.ne_of_lt (blk_lt (g := gb1264) (o := .cells #[.bool a0_0, .slice A0_1 l0_1.length c0_1, .slice A0_2 l0_2.length c0_2] 67 (0, 0)) (ku BK1264.out)) : gb1264 ≠ gb1272)); have NB1272_1264 := Aside0.mk ((by rw [hg]; exact Nat.ne_of_gt (blk_lt (g := gb1264) (o := .cells #[.bool a0_0, .slice A0_1 l0_1.length c0_1, .slice A0_2 l0_2.length c0_2] 67 (0, 0)) (ku BK1264.out)) : gb1272 ≠ gb1264)); replace BK1264 := Aside0.mk (blk_below (g := gb1264) (o := .cells #[.bool a0_0, .slice A0_1 l0_1.length c0_1, .slice A0_2 l0_2.length c0_2] 67 (0, 0)) (ku BK1264.out) hb); clear hb hbox hg; have hnb24 := NB1272_1264.out; have hnc24 := NB1264_1272.out; have hcz25_0 : w23.cell? ⟨gb1272, 0, none⟩ = some (.bool false) := (blk_cell BK1272.out 0).trans rfl; have hcz25_1 : w23.cell? ⟨gb1272, 1, none⟩ = some (.slice none 0 0) := (blk_cell BK1272.out 1).trans rfl; have hcz25_2 : w23.cell? ⟨gb1272, 2, none⟩ = some (.slice none 0 0) := (blk_cell BK1272.out 2).trans rfl; have hfz25_0 := blk_frozen BK1272.out 0; have hfz25_1 := blk_frozen BK1272.out 1; have hfz25_2 := blk_frozen BK1272.out 2; obtain ⟨Ao26, co26, eo26⟩ := Kd.V_slice HO1268.out; subst eo26; obtain ⟨Ao27, co27, eo27⟩ := Kd.V_slice HO1271.out; subst eo27; have hcz28_0 : w23.cell? ⟨gb1264, 0, none⟩ = some (.bool a0_0) := (blk_cell BK1264.out 0).trans rfl; have hcz28_1 : w23.cell? ⟨gb1264, 1, none⟩ = some (.slice A0_1 l0_1.length c0_1) := (blk_cell BK1264.out 1).trans rfl; have hcz28_2 : w23.cell? ⟨gb1264, 2, none⟩ = some (.slice A0_2 l0_2.length c0_2) := (blk_cell BK1264.out 2).trans rfl; have hfz28_0 := blk_frozen BK1264.out 0; have hfz28_1 := blk_frozen BK1264.out 1; have hfz28_2 := blk_frozen BK1264.out 2) | (go_at_call 160; (with_reducible refine (rational_equal.calls k _ _ l0_1 _ _ t1266 false _ ?side1 ?side2 ?side3 ?side4 A4.out).mono ?_); (case side1 => exact Kd.C_below HR0_1.out (bu2 HB.out GE1264.out GE1272.out)); (case side2 => exact HC0_1.out); (case side3 => refine (Kd.V_reads' (e := 48) (base := w.heap.size) (ok := fun k_ => (k_ ≠ gb1264 ∧ k_ ≠ gb1272)) (n := t1266.length) (c := co26) ?_).2.2; exact (by (with_reducible repeat (first | apply Kd.V_alloc | apply Kd.V_drewN | apply Kd.V_drew)); exact (Kd.V_mono (Kd.V_far (p := ⟨gb1272, 2, none⟩) (Kd.V_far (p := ⟨gb1272, 1, none⟩) (Kd.V_far (p := ⟨gb1272, 0, none⟩) (Kd.V_mono HO1268.out (fun k_ hk => (⟨hk, hk.2⟩ : _ ∧ k_ ≠ gb1272))) (fun _ hk => hk.2) (.bool t1265)) (fun _ hk => hk.2) (.slice Ao26 t1266.length co26)) (fun _ hk => hk.2) (.slice Ao27 t1269.length co27)) (fun _ h_ => h_.1)))); (case side4 => exact (Kd.V_reads' HO1268.out).2.1); rintro e w29 ⟨rfl, hb⟩; replace HO1268 := Aside0.mk (Kd.V_below (by (with_reducible repeat (first | apply Kd.V_alloc | apply Kd.V_drewN | apply Kd.V_drew)); exact (Kd.V_mono (Kd.V_far (p := ⟨gb1272, 2, none⟩) (Kd.V_far (p := ⟨gb1272, 1, none⟩) (Kd.V_far (p := ⟨gb1272, 0, none⟩) (Kd.V_mono HO1268.out (fun k_ hk => (⟨hk, hk.2⟩ : _ ∧ k_ ≠ gb1272))) (fun _ hk => hk.2) (.bool t1265)) (fun _ hk => hk.2) (.slice Ao26 t1266.length co26)) (fun _ hk => hk.2) (.slice Ao27 t1269.length co27)) (fun _ h_ => h_.1))) hb); replace HO1271 := Aside0.mk (Kd.V_below (by (with_reducible repeat (first | apply Kd.V_alloc | apply Kd.V_drewN | apply Kd.V_drew)); exact (Kd.V_mono (Kd.V_far (p := ⟨gb1272, 2, none⟩) (Kd.V_far (p := ⟨gb1272, 1, none⟩) (Kd.V_far (p := ⟨gb1272, 0, none⟩) (Kd.V_mono HO1271.out (fun k_ hk => (⟨hk, hk.2⟩ : _ ∧ k_ ≠ gb1272))) (fun _ hk => hk.2) (.bool t1265)) (fun _ hk => hk.2) (.slice Ao26 t1266.length co26)) (fun _ hk => hk.2) (.slice Ao27 t1269.length co27)) (fun _ h_ => h_.1))) hb); replace BK1264 := Aside0.mk (blk_below (g := gb1264) (o := .cells #[.bool a0_0, .slice A0_1 l0_1.length c0_1, .slice A0_2 l0_2.length c0_2] 67 (0, 0)) (by (with_reducible repeat (first | refine blk_drewN ?_ _ | refine blk_drew ?_ | refine blk_alloc ?_ _)); refine blk_far ?_ NB1264_1272.out _; (with_reducible repeat (first | refine blk_drewN ?_ _ | refine blk_drew ?_ | refine blk_alloc ?_ _)); refine blk_far ?_ NB1264_1272.out _; (with_reducible repeat (first | refine blk_drewN ?_ _ | refine blk_drew ?_ | refine blk_alloc ?_ _)); refine blk_far ?_ NB1264_1272.out _; (with_reducible repeat (first | refine blk_drewN ?_ _ | refine blk_drew ?_ | refine blk_alloc ?_ _)); exact BK1264.out) hb); replace BK1272 := Aside0.mk (blk_below (g := gb1272) (o := .cells #[.bool t1265, .slice Ao26 t1266.length co26, .slice Ao27 t1269.length co27] 67 (0, 0)) (by (with_reducible repeat (first | refine blk_drewN ?_ _ | refine blk_drew ?_ | refine blk_alloc ?_ _)); refine blk_put (cs := #[.bool t1265, .slice Ao26 t1266.length co26, .slice none 0 0]) ?_ 2 _ rfl; (with_reducible repeat (first | refine blk_drewN ?_ _ | refine blk_drew ?_ | refine blk_alloc ?_ _)); refine blk_put (cs := #[.bool t1265, .slice none 0 0, .slice none 0 0]) ?_ 1 _ rfl; (with_reducible repeat (first | refine blk_drewN ?_ _ | refine blk_drew ?_ | refine blk_alloc ?_ _)); refine blk_put (cs := #[.bool false, .slice none 0 0, .slice none 0 0]) ?_ 0 _ rfl; (with_reducible repeat (first | refine blk_drewN ?_ _ | refine blk_drew ?_ | refine blk_alloc ?_ _)); exact BK1272.out) hb); replace HB := Aside0.mk (below_step (bu2 HB.out GE1264.out GE1272.out) hb); (try clear hb); (try clear hb2); (try clear hk); (try clear hi)))
   go_ret
   exact ⟨by first | rfl | (simp [errW_none, errW_some] <;> rfl) | (simp [*, errW_none, errW_some] <;> rfl), by repeat (first | (with_reducible first | exact HB.out | apply below_alloc | apply pw_below_drewN | apply below_drew1 | refine below_set ?_ GE1264.out | refine below_set ?_ GE1272.out) | exact HB.out)⟩
 ·
  rw [if_neg c3] at H
  have c3b0 : (a0_0 == t1265) = false := by simpa using c3
  (try (have c3b1 : decide (a0_0 = t1265) = false := by simpa using c3))
  (try (have c3b2 : (a0_0 == t1265) = false := by simpa using c3))
  (try (have c3b3 : ¬ (a0_0 = t1265) := by simpa using c3))
  clear c3
  obtain rfl := Option.some.inj H
  go_enter Try.func89, Try.ntmps89
  go_wp2_with (first | ((with_reducible refine gate_dst (N := 1) rfl ?_); refine box_event ?hg (N := 1) ?hd (cs := #[.bool a0_0, .slice A0_1 l0_1.length c0_1, .slice A0_2 l0_2.length c0_2]) (t := 67) ?hr ?_; (case hd => rfl); (case hg => rfl); (case hr => first | (go_simp; done) | (go_simp; rfl)); intro gb1264 hg w30 hbox hb; have BK1264 := Aside0.mk (hbox); have GW1264 := Aside0.mk ((by rw [hg]; exact (below_size (bu HB.out)) : w.heap.size ≤ gb1264)); have GE1264 := Aside0.mk ((by rw [hg]; exact (below_size (bu HB.out)) : w.heap.size ≤ gb1264)); replace HB := Aside0.mk (below_step (bu HB.out) hb); clear hb hbox hg; have hcz31_0 : w30.cell? ⟨gb1264, 0, none⟩ = some (.bool a0_0) := (blk_cell BK1264.out 0).trans rfl; have hcz31_1 : w30.cell? ⟨gb1264, 1, none⟩ = some (.slice A0_1 l0_1.length c0_1) := (blk_cell BK1264.out 1).trans rfl; have hcz31_2 : w30.cell? ⟨gb1264, 2, none⟩ = some (.slice A0_2 l0_2.length c0_2) := (blk_cell BK1264.out 2).trans rfl; have hfz31_0 := blk_frozen BK1264.out 0; have hfz31_1 := blk_frozen BK1264.out 1; have hfz31_2 := blk_frozen BK1264.out 2) | ((with_reducible refine gate_callee (f := 87) rfl ?_); refine goesL_ (some 5) rfl rfl Try.func87 (by kernel_rfl) rfl #[.agg #[.bool a0_0, .slice A0_1 l0_1.length c0_1, .slice A0_2 l0_2.length c0_2]] rfl lu ?_; (with_reducible refine (rational_Trim.calls k a0_0 (fun k_ => k_ < w.heap.size) _ _ l0_1 (fun k_ => k_ < w.heap.size) _ _ l0_2 t1265 t1266 t1269 _ ?side1 ?side2 A2.out).mono ?_); (case side1 => exact Kd.V_mk HC0_1.out (Kd.F_below (Kd.C_F (Kd.heap_int .u32) HR0_1.out) (bu1 HB.out GE1264.out))); (case side2 => exact Kd.V_mk HC0_2.out (Kd.F_below (Kd.C_F (Kd.heap_int .u32) HR0_2.out) (bu1 HB.out GE1264.out))); rintro e w32 ⟨v1267, v1270, rfl, ho0, ho1, hb⟩; refine ⟨_, rfl, ?_⟩; have HO1268 := Aside0.mk (Kd.V_lower (Kd.V_mono (ok' := fun k_ => k_ ≠ gb1264) ho0 (fun k_ hk_ => Or.elim hk_ (fun hs_ => Or.elim hs_ (fun hs_ => fun e_ => Nat.not_le.2 hs_ (by rw [e_]; exact GW1264.out)) (fun hs_ => fun e_ => Nat.not_le.2 hs_ (by rw [e_]; exact GW1264.out))) (fun hn_ => (Kd.freshB (g := gb1264) (o := .cells #[.bool a0_0, .slice A0_1 l0_1.length c0_1, .slice A0_2 l0_2.length c0_2] 67 (0, 0)) (ku BK1264.out) k_ hn_)))) (below_size (bu1 HB.out GE1264.out))); have HO1271 := Aside0.mk (Kd.V_lower (Kd.V_mono (ok' := fun k_ => k_ ≠ gb1264) ho1 (fun k_ hk_ => Or.elim hk_ (fun hs_ => Or.elim hs_ (fun hs_ => fun e_ => Nat.not_le.2 hs_ (by rw [e_]; exact GW1264.out)) (fun hs_ => fun e_ => Nat.not_le.2 hs_ (by rw [e_]; exact GW1264.out))) (fun hn_ => (Kd.freshB (g := gb1264) (o := .cells #[.bool a0_0, .slice A0_1 l0_1.length c0_1, .slice A0_2 l0_2.length c0_2] 67 (0, 0)) (ku BK1264.out) k_ hn_)))) (below_size (bu1 HB.out GE1264.out))); replace BK1264 := Aside0.mk (blk_below (g := gb1264) (o := .cells #[.bool a0_0, .slice A0_1 l0_1.length c0_1, .slice A0_2 l0_2.length c0_2] 67 (0, 0)) (ku BK1264.out) hb); replace HB := Aside0.mk (below_step (bu1 HB.out GE1264.out) hb); (try clear hb); (try clear hb2); (try clear hk); (try clear hi); (try clear ho0); (try clear ho1)) | ((with_reducible refine gate_dst (N := 3) rfl ?_); refine box_event ?hg (N := 3) ?hd (cs := #[.bool false, .slice none 0 0, .slice none 0 0]) (t := 67) ?hr ?_; (case hd => rfl); (case hg => rfl); (case hr => first | (go_simp; done) | (go_simp; rfl)); intro gb1272 hg w33 hbox hb; replace HO1268 := Aside0.mk (Kd.V_below (Kd.V_elderB (vu HO1268.out) gb1272 (Nat.le_of_eq hg.symm)) hb); replace HO1271 := Aside0.mk (Kd.V_below (Kd.V_elderB (vu HO1271.out) gb1272 (Nat.le_of_eq hg.symm)) hb); have BK1272 := Aside0.mk (hbox); have GW1272 := Aside0.mk ((by rw [hg]; exact (below_size (bu1 HB.out GE1264.out)) : w.heap.size ≤ gb1272)); have GE1272 := Aside0.mk ((by rw [hg]; exact (below_size (bu1 HB.out GE1264.out)) : w.heap.size ≤ gb1272)); replace HB := Aside0.mk (below_step (bu1 HB.out GE1264.out) hb); have NB1264_1272 := Aside0.mk ((by rw [hg]; exact Nat.ne_of_lt (blk_lt (g := gb1264) (o := .cells #[.bool a0_0, .slice A0_1 l0_1.length c0_1, .slice A0_2 l0_2.length c0_2] 67 (0, 0)) (ku BK1264.out)) : gb1264 ≠ gb1272)); have NB1272_1264 := Aside0.mk ((by rw [hg]; exact Nat.ne_of_gt (blk_lt (g := gb1264) (o := .cells #[.bool a0_0, .slice A0_1 l0_1.length c0_1, .slice A0_2 l0_2.length c0_2] 67 (0, 0)) (ku BK1264.out)) : gb1272 ≠ gb1264)); replace BK1264 := Aside0.mk (blk_below (g := gb1264) (o := .cells #[.bool a0_0, .slice A0_1 l0_1.length c0_1, .slice A0_2 l0_2.length c0_2] 67 (0, 0)) (ku BK1264.out) hb); clear hb hbox hg; have hnb34 := NB1272_1264.out; have hnc34 := NB1264_1272.out; have hcz35_0 : w33.cell? ⟨gb1272, 0, none⟩ = some (.bool false) := (blk_cell BK1272.out 0).trans rfl; have hcz35_1 : w33.cell? ⟨gb1272, 1, none⟩ = some (.slice none 0 0) := (blk_cell BK1272.out 1).trans rfl; have hcz35_2 : w33.cell? ⟨gb1272, 2, none⟩ = some (.slice none 0 0) := (blk_cell BK1272.out 2).trans rfl; have hfz35_0 := blk_frozen BK1272.out 0; have hfz35_1 := blk_frozen BK1272.out 1; have hfz35_2 := blk_frozen BK1272.out 2; obtain ⟨Ao36, co36, eo36⟩ := Kd.V_slice HO1268.out; subst eo36; obtain ⟨Ao37, co37, eo37⟩ := Kd.V_slice HO1271.out; subst eo37; have hcz38_0 : w33.cell? ⟨gb1264, 0, none⟩ = some (.bool a0_0) := (blk_cell BK1264.out 0).trans rfl; have hcz38_1 : w33.cell? ⟨gb1264, 1, none⟩ = some (.slice A0_1 l0_1.length c0_1) := (blk_cell BK1264.out 1).trans rfl; have hcz38_2 : w33.cell? ⟨gb1264, 2, none⟩ = some (.slice A0_2 l0_2.length c0_2) := (blk_cell BK1264.out 2).trans rfl; have hfz38_0 := blk_frozen BK1264.out 0; have hfz38_1 := blk_frozen BK1264.out 1; have hfz38_2 := blk_frozen BK1264.out 2))
  go_ret
  exact ⟨by first | rfl | (simp [errW_none, errW_some] <;> rfl) | (simp [*, errW_none, errW_some] <;> rfl), by repeat (first | (with_reducible first | exact HB.out | apply below_alloc | apply pw_below_drewN | apply below_drew1 | refine below_set ?_ GE1264.out | refine below_set ?_ GE1272.out) | exact HB.out)⟩
end Go.Proofs.Ytecfdemglbfnoaa.PT
end
section
namespace Go.Proofs.Ytecfdemglbfnoaa.PT
open Go.RowKit Go.Proofs.YtecfdemglbfnoaaW.PrintWords Go.Proofs.YtecfdemglbfnoaaW.PrintLast Go.Proofs.YtecfdemglbfnoaaW.PrintMore
attribute [local go_sem] max2_int min2_int max_two min_two max_three min_three max_four min_four   -- for this text's walks alone
set_option linter.unusedVariables false
set_option linter.unusedSimpArgs false
def rational_Sign.j0 : Nat → Bool → Bool → List Int → List Int → Option (Int)
 | 0, _, _, _, _ => none
 | k + 1, x3, x1285000, x1285001, x1285002 => if x3 = true then (some 0) else (if x1285000 = true then (some (-1)) else (some 1))
def rational_Sign.f (k : Nat) (a0_0 : Bool) (l0_1 : List Int) (l0_2 : List Int) : Option (Int) := (nat_Bits.f k l0_1).bind fun t1285 => (if t1285 = 0 then (rational_Sign.j0 k true a0_0 l0_1 l0_2) else ((nat_Bits.f k l0_2).bind fun t1286 => (rational_Sign.j0 k (t1286 == 0) a0_0 l0_1 l0_2)))
set_option maxHeartbeats 8000000 in
set_option maxRecDepth 100000 in
theorem rational_Sign.calls (k : Nat) (a0_0 : Bool) (A0_1 : Option Addr) (c0_1 : Nat) (l0_1 : List Int) (A0_2 : Option Addr) (c0_2 : Nat) (l0_2 : List Int) (r : Int) (w : World) (hr0_1 : Kd.C (Kd.int .u32) w A0_1 l0_1.length l0_1) (hc0_1 : l0_1.length ≤ c0_1) (hr0_2 : Kd.C (Kd.int .u32) w A0_2 l0_2.length l0_2) (hc0_2 : l0_2.length ≤ c0_2) (h : rational_Sign.f k a0_0 l0_1 l0_2 = some r) :
 Calls Try.prog 91 #[.agg #[.bool a0_0, .slice A0_1 l0_1.length c0_1, .slice A0_2 l0_2.length c0_2]] w fun e w' => e = .returned (.int .i64 r) ∧ Below w.heap.size w w' := by
 have hu67 := Try.underlying67
 have HR0_1 := Aside0.mk hr0_1
 have HC0_1 := Aside0.mk hc0_1
 clear hr0_1 hc0_1
 have HR0_2 := Aside0.mk hr0_2
 have HC0_2 := Aside0.mk hc0_2
 clear hr0_2 hc0_2
 have HB := Aside0.mk (Below.refl w.heap.size w)
 have H : ((nat_Bits.f k l0_1).bind fun t1285 => (if t1285 = 0 then (rational_Sign.j0 k true a0_0 l0_1 l0_2) else ((nat_Bits.f k l0_2).bind fun t1286 => (rational_Sign.j0 k (t1286 == 0) a0_0 l0_1 l0_2)))) = some r := h
 clear h
 have HC2 := Aside0.mk H
 clear H
 go_enter Try.func91, Try.ntmps91
 go_upto_region 1 with (first | ((with_reducible refine gate_dst (N := 1) rfl ?_); refine box_event ?hg (N := 1) ?hd (cs := #[.bool a0_0, .slice A0_1 l0_1.length c0_1, .slice A0_2 l0_2.length c0_2]) (t := 67) ?hr ?_; (case hd => rfl); (case hg => rfl); (case hr => first | (go_simp; done) | (go_simp; rfl)); intro gb1284 hg w3 hbox hb; have BK1284 := Aside0.mk (hbox); have GW1284 := Aside0.mk ((by rw [hg]; exact (below_size (bu HB.out)) : w.heap.size ≤ gb1284)); have GE1284 := Aside0.mk ((by rw [hg]; exact (below_size (bu HB.out)) : w.heap.size ≤ gb1284)); replace HB := Aside0.mk (below_step (bu HB.out) hb); clear hb hbox hg))
 (try simp only [Act.put, List.setIfInBounds_toArray, List.set_cons_zero, List.set_cons_succ])
 go_cut [3] (fun v3 wc => ∃ (kq : Nat) (x3_1 : Bool), v3 = .bool x3_1 ∧ Aside0 (rational_Sign.j0 kq x3_1 a0_0 l0_1 l0_2 = some r) ∧ Aside0 (kq ≤ k) ∧ Aside0 (wc.heap[gb1284]? = some (.cells #[.bool a0_0, (.slice A0_1 l0_1.length c0_1), (.slice A0_2 l0_2.length c0_2)] 67 (0, 0))) ∧ Aside0 (Below w.heap.size w wc))
 case first =>
  have H := HC2.out
  clear HC2
  replace H := Option.bind_eq_some_iff.mp H
  obtain ⟨t1285, A40, H⟩ := H
  replace H : (if t1285 = 0 then (rational_Sign.j0 k true a0_0 l0_1 l0_2) else ((nat_Bits.f k l0_2).bind fun t1286 => (rational_Sign.j0 k (t1286 == 0) a0_0 l0_1 l0_2))) = some r := H
  have A4 := Aside0.mk A40
  clear A40
  by_cases c5 : t1285 = 0
  ·
   rw [if_pos c5] at H
   have c5b0 : (t1285 == 0) = true := beq_iff_eq.mpr c5
   have c5b1 : (t1285 != 0) = false := bne_eq_false_iff_eq.mpr c5
   clear c5
   (first | rw [c5b0] | rw [c5b1] | (simp only [i64_w, i32_w]; rw [c5b0]) | skip)
   have H' := Aside0.mk H
   clear H
   have hcz6_0 : w3.cell? ⟨gb1284, 0, none⟩ = some (.bool a0_0) := (blk_cell BK1284.out 0).trans rfl
   have hcz6_1 : w3.cell? ⟨gb1284, 1, none⟩ = some (.slice A0_1 l0_1.length c0_1) := (blk_cell BK1284.out 1).trans rfl
   have hcz6_2 : w3.cell? ⟨gb1284, 2, none⟩ = some (.slice A0_2 l0_2.length c0_2) := (blk_cell BK1284.out 2).trans rfl
   have hfz6_0 := blk_frozen BK1284.out 0
   have hfz6_1 := blk_frozen BK1284.out 1
   have hfz6_2 := blk_frozen BK1284.out 2
   go_wp2_with (first | ((with_reducible refine gate_callee (f := 154) rfl ?_); refine goesL_ (some 6) rfl rfl Try.func154 (by kernel_rfl) rfl #[.slice A0_1 l0_1.length c0_1] rfl lu ?_; (with_reducible refine (nat_Bits.calls k _ _ l0_1 t1285 _ ?side1 ?side2 A4.out).mono ?_); (case side1 => repeat (first | exact (Kd.C_below HR0_1.out HB.out) | (with_reducible refine Kd.C_alloc ?_ _) | (with_reducible refine Kd.C_drewN ?_ _) | (with_reducible refine Kd.C_drew ?_))); (case side2 => exact HC0_1.out); rintro e w7 ⟨rfl, hb⟩; refine ⟨_, rfl, ?_⟩; replace BK1284 := Aside0.mk (blk_below (g := gb1284) (o := .cells #[.bool a0_0, .slice A0_1 l0_1.length c0_1, .slice A0_2 l0_2.length c0_2] 67 (0, 0)) (ku BK1284.out) hb); replace HB := Aside0.mk (below_step (bu1 HB.out GE1284.out) hb); (try clear hb); (try clear hb2); (try clear hk); (try clear hi)))
   go_meet
   case rel => exact ⟨_, (true), (by first | rfl | (simp; done) | (simp [*]; done)), H', ⟨by first | omega | exact Nat.le_refl _⟩, ⟨by (with_reducible repeat (first | refine blk_drewN ?_ _ | refine blk_drew ?_ | refine blk_alloc ?_ _)); exact BK1284.out⟩, ⟨by repeat (first | (with_reducible first | exact HB.out | apply below_alloc | apply pw_below_drewN | apply below_drew1 | refine below_set ?_ GE1284.out) | exact HB.out)⟩⟩
  ·
   rw [if_neg c5] at H
   have c5b0 : (t1285 == 0) = false := beq_eq_false_iff_ne.mpr c5
   have c5b1 : (t1285 != 0) = true := bne_iff_ne.mpr c5
   (first | rw [c5b0] | rw [c5b1] | (simp only [i64_w, i32_w]; rw [c5b0]) | skip)
   replace H := Option.bind_eq_some_iff.mp H
   obtain ⟨t1286, A80, H⟩ := H
   replace H : (rational_Sign.j0 k (t1286 == 0) a0_0 l0_1 l0_2) = some r := H
   have A8 := Aside0.mk A80
   clear A80
   have H' := Aside0.mk H
   clear H
   have hcz9_0 : w3.cell? ⟨gb1284, 0, none⟩ = some (.bool a0_0) := (blk_cell BK1284.out 0).trans rfl
   have hcz9_1 : w3.cell? ⟨gb1284, 1, none⟩ = some (.slice A0_1 l0_1.length c0_1) := (blk_cell BK1284.out 1).trans rfl
   have hcz9_2 : w3.cell? ⟨gb1284, 2, none⟩ = some (.slice A0_2 l0_2.length c0_2) := (blk_cell BK1284.out 2).trans rfl
   have hfz9_0 := blk_frozen BK1284.out 0
   have hfz9_1 := blk_frozen BK1284.out 1
   have hfz9_2 := blk_frozen BK1284.out 2
   go_wp2_with (first | ((with_reducible refine gate_callee (f := 154) rfl ?_); refine goesL_ (some 6) rfl rfl Try.func154 (by kernel_rfl) rfl #[.slice A0_1 l0_1.length c0_1] rfl lu ?_; (with_reducible refine (nat_Bits.calls k _ _ l0_1 t1285 _ ?side1 ?side2 A4.out).mono ?_); (case side1 => repeat (first | exact (Kd.C_below HR0_1.out HB.out) | (with_reducible refine Kd.C_alloc ?_ _) | (with_reducible refine Kd.C_drewN ?_ _) | (with_reducible refine Kd.C_drew ?_))); (case side2 => exact HC0_1.out); rintro e w10 ⟨rfl, hb⟩; refine ⟨_, rfl, ?_⟩; replace BK1284 := Aside0.mk (blk_below (g := gb1284) (o := .cells #[.bool a0_0, .slice A0_1 l0_1.length c0_1, .slice A0_2 l0_2.length c0_2] 67 (0, 0)) (ku BK1284.out) hb); replace HB := Aside0.mk (below_step (bu1 HB.out GE1284.out) hb); (try clear hb); (try clear hb2); (try clear hk); (try clear hi); have hcz11_0 : w10.cell? ⟨gb1284, 0, none⟩ = some (.bool a0_0) := (blk_cell BK1284.out 0).trans rfl; have hcz11_1 : w10.cell? ⟨gb1284, 1, none⟩ = some (.slice A0_1 l0_1.length c0_1) := (blk_cell BK1284.out 1).trans rfl; have hcz11_2 : w10.cell? ⟨gb1284, 2, none⟩ = some (.slice A0_2 l0_2.length c0_2) := (blk_cell BK1284.out 2).trans rfl; have hfz11_0 := blk_frozen BK1284.out 0; have hfz11_1 := blk_frozen BK1284.out 1; have hfz11_2 := blk_frozen BK1284.out 2) | (go_at_call 154; (with_reducible refine (nat_Bits.calls k _ _ l0_2 t1286 _ ?side1 ?side2 A8.out).mono ?_); (case side1 => repeat (first | exact (Kd.C_below HR0_2.out HB.out) | (with_reducible refine Kd.C_alloc ?_ _) | (with_reducible refine Kd.C_drewN ?_ _) | (with_reducible refine Kd.C_drew ?_))); (case side2 => exact HC0_2.out); rintro e w12 ⟨rfl, hb⟩; replace BK1284 := Aside0.mk (blk_below (g := gb1284) (o := .cells #[.bool a0_0, .slice A0_1 l0_1.length c0_1, .slice A0_2 l0_2.length c0_2] 67 (0, 0)) (ku BK1284.out) hb); replace HB := Aside0.mk (below_step (bu1 HB.out GE1284.out) hb); (try clear hb); (try clear hb2); (try clear hk); (try clear hi)))
   go_meet
   case rel => exact ⟨_, ((t1286 == 0)), (by first | rfl | (simp; done) | (simp [*]; done) | (cases t1286 <;> first | rfl | (simp; done))), H', ⟨by first | omega | exact Nat.le_refl _⟩, ⟨by (with_reducible repeat (first | refine blk_drewN ?_ _ | refine blk_drew ?_ | refine blk_alloc ?_ _)); exact BK1284.out⟩, ⟨by repeat (first | (with_reducible first | exact HB.out | apply below_alloc | apply pw_below_drewN | apply below_drew1 | refine below_set ?_ GE1284.out) | exact HB.out)⟩⟩
 case rest =>
  clear HC2
  try clear c1
  try clear p2
  try clear c5
  try clear c5b0
  try clear c5b1
  try clear c9
  try clear hcz11_0
  try clear hcz11_1
  try clear hcz11_2
  try clear hcz6_0
  try clear hcz6_1
  try clear hcz6_2
  try clear hcz9_0
  try clear hcz9_1
  try clear hcz9_2
  try clear hfz11_0
  try clear hfz11_1
  try clear hfz11_2
  try clear hfz6_0
  try clear hfz6_1
  try clear hfz6_2
  try clear hfz9_0
  try clear hfz9_1
  try clear hfz9_2
  obtain ⟨kq, x3_1, rfl, HA, HJ1, BK1284, HB⟩ := hcut
  cases kq with
  | zero => exact absurd HA.out (by simp [rational_Sign.j0])
  | succ kj1 =>
   have H := HA.out
   clear HA
   simp only [rational_Sign.j0] at H
   by_cases c13 : x3_1 = true
   ·
    subst c13
    have H1 : (some 0) = some r := by rw [if_pos rfl] at H; exact H
    clear H
    have H := H1
    clear H1
    obtain rfl := Option.some.inj H
    go_wp2
    go_ret
    exact ⟨by first | rfl | (simp [errW_none, errW_some] <;> rfl) | (simp [*, errW_none, errW_some] <;> rfl), by repeat (first | (with_reducible first | exact HB.out | apply below_alloc | apply pw_below_drewN | apply below_drew1 | refine below_set ?_ GE1284.out) | exact HB.out)⟩
   ·
    replace c13 := Bool.eq_false_iff.mpr c13
    subst c13
    have H1 : (if a0_0 = true then (some (-1)) else (some 1)) = some r := by rw [if_neg (show ¬ (false = true) by decide)] at H; exact H
    clear H
    have H := H1
    clear H1
    by_cases c14 : a0_0 = true
    ·
     subst c14
     have H1 : (some (-1)) = some r := by rw [if_pos rfl] at H; exact H
     clear H
     have H := H1
     clear H1
     obtain rfl := Option.some.inj H
     have hcz15_0 : wc.cell? ⟨gb1284, 0, none⟩ = some (.bool true) := (blk_cell BK1284.out 0).trans rfl
     have hcz15_1 : wc.cell? ⟨gb1284, 1, none⟩ = some (.slice A0_1 l0_1.length c0_1) := (blk_cell BK1284.out 1).trans rfl
     have hcz15_2 : wc.cell? ⟨gb1284, 2, none⟩ = some (.slice A0_2 l0_2.length c0_2) := (blk_cell BK1284.out 2).trans rfl
     have hfz15_0 := blk_frozen BK1284.out 0
     have hfz15_1 := blk_frozen BK1284.out 1
     have hfz15_2 := blk_frozen BK1284.out 2
     go_wp2
     go_ret
     exact ⟨by first | rfl | (simp [errW_none, errW_some] <;> rfl) | (simp [*, errW_none, errW_some] <;> rfl), by repeat (first | (with_reducible first | exact HB.out | apply below_alloc | apply pw_below_drewN | apply below_drew1 | refine below_set ?_ GE1284.out) | exact HB.out)⟩
    ·
     replace c14 := Bool.eq_false_iff.mpr c14
     subst c14
     have H1 : (some 1) = some r := by rw [if_neg (show ¬ (false = true) by decide)] at H; exact H
     clear H
     have H := H1
     clear H1
     obtain rfl := Option.some.inj H
     have hcz16_0 : wc.cell? ⟨gb1284, 0, none⟩ = some (.bool false) := (blk_cell BK1284.out 0).trans rfl
     have hcz16_1 : wc.cell? ⟨gb1284, 1, none⟩ = some (.slice A0_1 l0_1.length c0_1) := (blk_cell BK1284.out 1).trans rfl
     have hcz16_2 : wc.cell? ⟨gb1284, 2, none⟩ = some (.slice A0_2 l0_2.length c0_2) := (blk_cell BK1284.out 2).trans rfl
     have hfz16_0 := blk_frozen BK1284.out 0
     have hfz16_1 := blk_frozen BK1284.out 1
     have hfz16_2 := blk_frozen BK1284.out 2
     go_wp2
     go_ret
     exact ⟨by first | rfl | (simp [errW_none, errW_some] <;> rfl) | (simp [*, errW_none, errW_some] <;> rfl), by repeat (first | (with_reducible first | exact HB.out | apply below_alloc | apply pw_below_drewN | apply below_drew1 | refine below_set ?_ GE1284.out) | exact HB.out)⟩
end Go.Proofs.Ytecfdemglbfnoaa.PT
end
