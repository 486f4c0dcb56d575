/- Walks and plain facts for the law RationalPowers, several texts in one: each theorem says what it shows; no condition beyond those that it names. -/
import Derived.Deep.Slices
import Derived.Deep.Fields
import Derived.SizedLaws
import Derived.Test.YtecfdemglbfnoaaMRationalPowersJ
section
namespace Go.Proofs.Ytecfdemglbfnoaa.PT
open Go.RowKit Go.Proofs.YtecfdemglbfnoaaW.PrintWords Go.Proofs.YtecfdemglbfnoaaW.PrintLast Go.Proofs.YtecfdemglbfnoaaW.PrintMore
attribute [local go_sem] max2_int min2_int max_two min_two max_three min_three max_four min_four   -- for this text's walks alone
set_option linter.unusedVariables false
set_option linter.unusedSimpArgs false
def codewrightlaw02_RationalPowers.j0 : Nat → Int → Bool → Bool → List Int → List Int → Option (Bool)
 | 0, _, _, _, _, _ => none
 | k + 1, x1, x34, x1593000, x1593001, x1593002 => if x34 = true then (some true) else ((rational_Pow.f k x1593000 x1593001 x1593002 x1).bind fun bt1597 => ((codewrightref02_Pow.f k x1593000 x1593001 x1593002 x1).bind fun bt1606 => (if bt1597.2.2.2 = bt1606.2.2.2 then ((codewrightlaw02_same.f k bt1597.1 bt1597.2.1 bt1597.2.2.1 bt1606.1 bt1606.2.1 bt1606.2.2.1).bind fun t1615 => (some t1615)) else (none))))
def codewrightlaw02_RationalPowers.f (k : Nat) (a0_0 : Bool) (l0_1 : List Int) (l0_2 : List Int) (a1 : Int) : Option (Bool) := (codewrightlaw02_long.f k 6 (([(⟨a0_0, l0_1, l0_2⟩ : S67)] : List (S67)))).bind fun t1596 => (if t1596 = true then (codewrightlaw02_RationalPowers.j0 k a1 true a0_0 l0_1 l0_2) else (if (mx a1 (wrap64 (-a1))) ≤ 140000 then (codewrightlaw02_RationalPowers.j0 k a1 (decide ((wrap64 ((wrap64 (32 * (wrap64 ((l0_1.length : Int) + (l0_2.length : Int))))) * (mx a1 (wrap64 (-a1))))) > 4000)) a0_0 l0_1 l0_2) else (codewrightlaw02_RationalPowers.j0 k a1 false a0_0 l0_1 l0_2)))
set_option maxHeartbeats 8000000 in
set_option maxRecDepth 100000 in
theorem codewrightlaw02_RationalPowers.calls (k : Nat) (a0_0 : Bool) (P0_1_ : Nat → Prop) (A0_1 : Option Addr) (c0_1 : Nat) (l0_1 : List Int) (P0_2_ : Nat → Prop) (A0_2 : Option Addr) (c0_2 : Nat) (l0_2 : List Int) (a1 : Int) (r : Bool) (w : World) (hs0_1 : Kd.V (Kd.int .u32) 48 w w.heap.size (fun k_ => P0_1_ k_) (.slice A0_1 l0_1.length c0_1) l0_1) (hs0_2 : Kd.V (Kd.int .u32) 48 w w.heap.size (fun k_ => P0_2_ k_) (.slice A0_2 l0_2.length c0_2) l0_2) (h : codewrightlaw02_RationalPowers.f k a0_0 l0_1 l0_2 a1 = some r) :
 Calls Try.prog 14 #[.agg #[.bool a0_0, .slice A0_1 l0_1.length c0_1, .slice A0_2 l0_2.length c0_2], .int .i64 a1] w fun e w' => e = .returned (.bool r) ∧ Below w.heap.size w w' := by
 have hu67 := Try.underlying67
 have HO0_1 := Aside0.mk (show Kd.V (Kd.int .u32) 48 w w.heap.size (fun k_ => ((P0_1_ k_ ∨ P0_2_ k_) ∨ w.heap.size ≤ k_)) (.slice A0_1 l0_1.length c0_1) l0_1 from Kd.V_mono hs0_1 (fun k_ hk => .inl (.inl hk)))
 have HO0_2 := Aside0.mk (show Kd.V (Kd.int .u32) 48 w w.heap.size (fun k_ => ((P0_1_ k_ ∨ P0_2_ k_) ∨ w.heap.size ≤ k_)) (.slice A0_2 l0_2.length c0_2) l0_2 from Kd.V_mono hs0_2 (fun k_ hk => .inl (.inr hk)))
 have HB := Aside0.mk (Below.refl w.heap.size w)
 have H : ((codewrightlaw02_long.f k 6 (([(⟨a0_0, l0_1, l0_2⟩ : S67)] : List (S67)))).bind fun t1596 => (if t1596 = true then (codewrightlaw02_RationalPowers.j0 k a1 true a0_0 l0_1 l0_2) else (if (mx a1 (wrap64 (-a1))) ≤ 140000 then (codewrightlaw02_RationalPowers.j0 k a1 (decide ((wrap64 ((wrap64 (32 * (wrap64 ((l0_1.length : Int) + (l0_2.length : Int))))) * (mx a1 (wrap64 (-a1))))) > 4000)) a0_0 l0_1 l0_2) else (codewrightlaw02_RationalPowers.j0 k a1 false a0_0 l0_1 l0_2)))) = some r := h
 clear h
 have HC3 := Aside0.mk H
 clear H
 go_enter Try.func14, Try.ntmps14
 go_upto_region 1 with (first | ((with_reducible refine gate_dst (N := 2) rfl ?_); (try (refine gate_guard (by rfl) ?_; dsimp only)); refine box_event ?hg (N := 2) ?hd (cs := #[.bool a0_0, .slice A0_1 l0_1.length c0_1, .slice A0_2 l0_2.length c0_2]) (t := 67) ?hr ?_; (case hd => rfl); (case hg => rfl); (case hr => first | (go_simp; done) | (go_simp; rfl)); intro gb1592 hg w4 hbox hb; replace HO0_1 := ke HO0_1 hg hb; replace HO0_2 := ke HO0_2 hg hb; have BK1592 := Aside0.mk (hbox); have GW1592 := ng hg (bu HB.out); have GE1592 := ng hg (bu HB.out); replace HB := Aside0.mk (below_step (bu HB.out) hb); clear hb hbox hg))
 (try simp only [Act.put, List.setIfInBounds_toArray, List.set_cons_zero, List.set_cons_succ])
 go_cut [34] (fun v34 wc => ∃ (kq : Nat) (x34_2 : Bool), v34 = .bool x34_2 ∧ Aside0 (codewrightlaw02_RationalPowers.j0 kq a1 x34_2 a0_0 l0_1 l0_2 = some r) ∧ Aside0 (kq ≤ k) ∧ Aside0 (Kd.V (Kd.int .u32) 48 wc w.heap.size (fun k_ => ((P0_1_ k_ ∨ P0_2_ k_) ∨ w.heap.size ≤ k_) ∧ k_ ≠ gb1592) (.slice A0_1 l0_1.length c0_1) l0_1) ∧ Aside0 (Kd.V (Kd.int .u32) 48 wc w.heap.size (fun k_ => ((P0_1_ k_ ∨ P0_2_ k_) ∨ w.heap.size ≤ k_) ∧ k_ ≠ gb1592) (.slice A0_2 l0_2.length c0_2) l0_2) ∧ Aside0 (wc.heap[gb1592]? = some (.cells #[.bool a0_0, (.slice A0_1 l0_1.length c0_1), (.slice A0_2 l0_2.length c0_2)] 67 (0, 0))) ∧ Aside0 (Below w.heap.size w wc))
 case first =>
  have H := HC3.out
  clear HC3
  obtain ⟨y1593, hy1593⟩ : ∃ y_ : List (S67), y_ = (([(⟨a0_0, l0_1, l0_2⟩ : S67)] : List (S67))) := ⟨_, rfl⟩
  replace H : ((codewrightlaw02_long.f k 6 y1593).bind fun t1596 => (if t1596 = true then (codewrightlaw02_RationalPowers.j0 k a1 true a0_0 l0_1 l0_2) else (if (mx a1 (wrap64 (-a1))) ≤ 140000 then (codewrightlaw02_RationalPowers.j0 k a1 (decide ((wrap64 ((wrap64 (32 * (wrap64 ((l0_1.length : Int) + (l0_2.length : Int))))) * (mx a1 (wrap64 (-a1))))) > 4000)) a0_0 l0_1 l0_2) else (codewrightlaw02_RationalPowers.j0 k a1 false a0_0 l0_1 l0_2)))) = some r := by first | (rw [hy1593]; with_reducible exact H) | (have H2_ := (Option.bind_some _ _).symm.trans H; rw [hy1593]; with_reducible exact H2_) | (have H2_ := (Option.bind_some _ _).symm.trans H; with_reducible exact H2_) | with_reducible exact H | (rw [hy1593]; exact H) | exact H
  have Ny1593 := Aside0.mk hy1593
  clear hy1593
  replace H := Option.bind_eq_some_iff.mp H
  obtain ⟨t1596, A50, H⟩ := H
  replace H : (if t1596 = true then (codewrightlaw02_RationalPowers.j0 k a1 true a0_0 l0_1 l0_2) else (if (mx a1 (wrap64 (-a1))) ≤ 140000 then (codewrightlaw02_RationalPowers.j0 k a1 (decide ((wrap64 ((wrap64 (32 * (wrap64 ((l0_1.length : Int) + (l0_2.length : Int))))) * (mx a1 (wrap64 (-a1))))) > 4000)) a0_0 l0_1 l0_2) else (codewrightlaw02_RationalPowers.j0 k a1 false a0_0 l0_1 l0_2))) = some r := H
  have A5 := Aside0.mk A50
  clear A50
  by_cases c6 : t1596 = true
  ·
   subst c6
   have H1 : (codewrightlaw02_RationalPowers.j0 k a1 true a0_0 l0_1 l0_2) = some r := by rw [if_pos rfl] at H; exact H
   clear H
   have H := H1
   clear H1
   have H' := Aside0.mk H
   clear H
   have hcz7_0 : w4.cell? ⟨gb1592, 0, none⟩ = some (.bool a0_0) := bc BK1592 0
   have hcz7_1 : w4.cell? ⟨gb1592, 1, none⟩ = some (.slice A0_1 l0_1.length c0_1) := bc BK1592 1
   have hcz7_2 : w4.cell? ⟨gb1592, 2, none⟩ = some (.slice A0_2 l0_2.length c0_2) := bc BK1592 2
   have hfz7_0 := blk_frozen BK1592.out 0
   have hfz7_1 := blk_frozen BK1592.out 1
   have hfz7_2 := blk_frozen BK1592.out 2
   go_wp2_with (first | ((with_reducible refine gate_dst (N := 10) rfl ?_); (try (refine gate_guard (by rfl) ?_; dsimp only)); refine Kd.N_lit k67 _ 67 ?hg (N' := 10) ?hd (xs := ([(⟨a0_0, l0_1, l0_2⟩ : S67)] : List (S67))) (inner := [.bool a0_0, .slice A0_1 l0_1.length c0_1, .slice A0_2 l0_2.length c0_2]) (ok := (fun k_ => ((P0_1_ k_ ∨ P0_2_ k_) ∨ w.heap.size ≤ k_) ∧ k_ ≠ gb1592)) (okp := (fun k_ => ((P0_1_ k_ ∨ P0_2_ k_) ∨ w.heap.size ≤ k_) ∧ k_ ≠ gb1592)) ?hr ?hp (fun _ hk => hk) ((show ∀ k_, w4.heap.size ≤ k_ → (fun k_ => ((P0_1_ k_ ∨ P0_2_ k_) ∨ w.heap.size ≤ k_) ∧ k_ ≠ gb1592) k_ from fun k_ hk => ⟨(.inr (Nat.le_trans (below_size (bu1 HB.out GE1592.out)) hk)), Kd.freshB (g := gb1592) (o := .cells #[.bool a0_0, .slice A0_1 l0_1.length c0_1, .slice A0_2 l0_2.length c0_2] 67 (0, 0)) (ku BK1592.out) k_ hk⟩) _ (Nat.le_refl _)) (Below.refl _ _) (Nat.le_refl _) (by simp) ?_; (case hd => rfl); (case hg => rfl); (case hr => first | (go_simp; done) | (go_simp; rfl)); (case hp => exact (Reps.c3 (show Kd.FK k67 _ _ (⟨a0_0, l0_1, l0_2⟩ : S67) [.bool a0_0, .slice A0_1 l0_1.length c0_1, .slice A0_2 l0_2.length c0_2] from (k67_mkF _ _ (⟨a0_0, l0_1, l0_2⟩ : S67) (Kd.V_reads' (vy ((fun k_ => ((P0_1_ k_ ∨ P0_2_ k_) ∨ w.heap.size ≤ k_) ∧ k_ ≠ gb1592)) HO0_1.out)).2.1 (Kd.V_F (vy ((fun k_ => ((P0_1_ k_ ∨ P0_2_ k_) ∨ w.heap.size ≤ k_) ∧ k_ ≠ gb1592)) HO0_1.out)) (Kd.V_reads' (vy ((fun k_ => ((P0_1_ k_ ∨ P0_2_ k_) ∨ w.heap.size ≤ k_) ∧ k_ ≠ gb1592)) HO0_2.out)).2.1 (Kd.V_F (vy ((fun k_ => ((P0_1_ k_ ∨ P0_2_ k_) ∨ w.heap.size ≤ k_) ∧ k_ ≠ gb1592)) HO0_2.out)))) (Reps.none _ _))); intro v1594 w8 ho9 hb hg_ hnew_; clear hg_ hnew_; (first | rw [← Ny1593.out] at ho9 | (simp only [Int.reduceToNat] at ho9; rw [← Ny1593.out] at ho9)); replace HO0_1 := Aside0.mk (Kd.V_elder' (vu HO0_1.out) (Kd.N_base ho9) hb); replace HO0_2 := Aside0.mk (Kd.V_elder' (vu HO0_2.out) (Kd.N_base ho9) hb); have HO1595 := Aside0.mk (Kd.N_lower ho9 (below_size (bu1 HB.out GE1592.out))); replace BK1592 := kb BK1592 hb; replace HB := Aside0.mk (below_step (bu1 HB.out GE1592.out) hb); clear hb ho9; obtain ⟨Ao10, co10, eo10⟩ := Kd.N_slice HO1595.out; subst eo10) | ((with_reducible refine gate_callee (f := 86) rfl ?_); refine goesL_ (some 11) rfl rfl Try.func86 (by kernel_rfl) rfl #[.int .i64 6, .slice Ao10 y1593.length co10] rfl lu ?_; (with_reducible refine (codewrightlaw02_long.calls k 6 _ _ y1593 true _ ?side1 ?side2 A5.out).mono ?_); (case side1 => exact cu (Kd.N_reads' HO1595.out).2.2); (case side2 => exact (Kd.N_reads' HO1595.out).2.1); rintro e w' ⟨rfl, ⟨nd, rfl⟩⟩; refine ⟨_, rfl, ?_⟩))
   go_meet
   case rel => exact ⟨_, (true), (by first | rfl | (simp; done) | (simp [*]; done)), H', ⟨by first | omega | exact Nat.le_refl _⟩, ⟨by exact vz HO0_1.out⟩, ⟨by exact vz HO0_2.out⟩, ⟨by (with_reducible repeat (first | refine blk_drewN ?_ _ | refine blk_drew ?_ | refine blk_alloc ?_ _)); exact BK1592.out⟩, ⟨by repeat (first | (with_reducible first | exact HB.out | apply below_alloc | apply pw_below_drewN | apply below_drew1 | refine below_set ?_ GE1592.out) | exact HB.out)⟩⟩
  ·
   replace c6 := Bool.eq_false_iff.mpr c6
   subst c6
   have H1 : (if (mx a1 (wrap64 (-a1))) ≤ 140000 then (codewrightlaw02_RationalPowers.j0 k a1 (decide ((wrap64 ((wrap64 (32 * (wrap64 ((l0_1.length : Int) + (l0_2.length : Int))))) * (mx a1 (wrap64 (-a1))))) > 4000)) a0_0 l0_1 l0_2) else (codewrightlaw02_RationalPowers.j0 k a1 false a0_0 l0_1 l0_2)) = some r := by rw [if_neg (show ¬ (false = true) by decide)] at H; exact H
   clear H
   have H := H1
   clear H1
   obtain ⟨ji11, hji11⟩ : ∃ j_ : Int, (mx a1 (wrap64 (-a1))) = j_ := ⟨_, rfl⟩
   replace H : (if (ji11) ≤ 140000 then (codewrightlaw02_RationalPowers.j0 k a1 (decide ((wrap64 ((wrap64 (32 * (wrap64 ((l0_1.length : Int) + (l0_2.length : Int))))) * (ji11))) > 4000)) a0_0 l0_1 l0_2) else (codewrightlaw02_RationalPowers.j0 k a1 false a0_0 l0_1 l0_2)) = some r := by first | (rw [hji11] at H; exact H) | (simp only [hji11] at H ⊢; exact H)
   (try rw [hji11] at A5)
   have hji11_ : (if a1 < (wrap64 (-a1)) then (wrap64 (-a1)) else a1) = ji11 := hji11
   by_cases c12 : (ji11) ≤ 140000
   ·
    rw [if_pos c12] at H
    have c12b0 : decide ((ji11) ≤ 140000) = true := decide_eq_true c12
    clear c12
    (first | rw [c12b0] | rw [c12b1] | (simp only [i64_w, i32_w]; rw [c12b0]) | skip)
    have H' := Aside0.mk H
    clear H
    have hcz14_0 : w4.cell? ⟨gb1592, 0, none⟩ = some (.bool a0_0) := bc BK1592 0
    have hcz14_1 : w4.cell? ⟨gb1592, 1, none⟩ = some (.slice A0_1 l0_1.length c0_1) := bc BK1592 1
    have hcz14_2 : w4.cell? ⟨gb1592, 2, none⟩ = some (.slice A0_2 l0_2.length c0_2) := bc BK1592 2
    have hfz14_0 := blk_frozen BK1592.out 0
    have hfz14_1 := blk_frozen BK1592.out 1
    have hfz14_2 := blk_frozen BK1592.out 2
    go_wp2_with (first | ((with_reducible refine gate_dst (N := 10) rfl ?_); (try (refine gate_guard (by rfl) ?_; dsimp only)); refine Kd.N_lit k67 _ 67 ?hg (N' := 10) ?hd (xs := ([(⟨a0_0, l0_1, l0_2⟩ : S67)] : List (S67))) (inner := [.bool a0_0, .slice A0_1 l0_1.length c0_1, .slice A0_2 l0_2.length c0_2]) (ok := (fun k_ => ((P0_1_ k_ ∨ P0_2_ k_) ∨ w.heap.size ≤ k_) ∧ k_ ≠ gb1592)) (okp := (fun k_ => ((P0_1_ k_ ∨ P0_2_ k_) ∨ w.heap.size ≤ k_) ∧ k_ ≠ gb1592)) ?hr ?hp (fun _ hk => hk) ((show ∀ k_, w4.heap.size ≤ k_ → (fun k_ => ((P0_1_ k_ ∨ P0_2_ k_) ∨ w.heap.size ≤ k_) ∧ k_ ≠ gb1592) k_ from fun k_ hk => ⟨(.inr (Nat.le_trans (below_size (bu1 HB.out GE1592.out)) hk)), Kd.freshB (g := gb1592) (o := .cells #[.bool a0_0, .slice A0_1 l0_1.length c0_1, .slice A0_2 l0_2.length c0_2] 67 (0, 0)) (ku BK1592.out) k_ hk⟩) _ (Nat.le_refl _)) (Below.refl _ _) (Nat.le_refl _) (by simp) ?_; (case hd => rfl); (case hg => rfl); (case hr => first | (go_simp; done) | (go_simp; rfl)); (case hp => exact (Reps.c3 (show Kd.FK k67 _ _ (⟨a0_0, l0_1, l0_2⟩ : S67) [.bool a0_0, .slice A0_1 l0_1.length c0_1, .slice A0_2 l0_2.length c0_2] from (k67_mkF _ _ (⟨a0_0, l0_1, l0_2⟩ : S67) (Kd.V_reads' (vy ((fun k_ => ((P0_1_ k_ ∨ P0_2_ k_) ∨ w.heap.size ≤ k_) ∧ k_ ≠ gb1592)) HO0_1.out)).2.1 (Kd.V_F (vy ((fun k_ => ((P0_1_ k_ ∨ P0_2_ k_) ∨ w.heap.size ≤ k_) ∧ k_ ≠ gb1592)) HO0_1.out)) (Kd.V_reads' (vy ((fun k_ => ((P0_1_ k_ ∨ P0_2_ k_) ∨ w.heap.size ≤ k_) ∧ k_ ≠ gb1592)) HO0_2.out)).2.1 (Kd.V_F (vy ((fun k_ => ((P0_1_ k_ ∨ P0_2_ k_) ∨ w.heap.size ≤ k_) ∧ k_ ≠ gb1592)) HO0_2.out)))) (Reps.none _ _))); intro v1594 w15 ho16 hb hg_ hnew_; clear hg_ hnew_; (first | rw [← Ny1593.out] at ho16 | (simp only [Int.reduceToNat] at ho16; rw [← Ny1593.out] at ho16)); replace HO0_1 := Aside0.mk (Kd.V_elder' (vu HO0_1.out) (Kd.N_base ho16) hb); replace HO0_2 := Aside0.mk (Kd.V_elder' (vu HO0_2.out) (Kd.N_base ho16) hb); have HO1595 := Aside0.mk (Kd.N_lower ho16 (below_size (bu1 HB.out GE1592.out))); replace BK1592 := kb BK1592 hb; replace HB := Aside0.mk (below_step (bu1 HB.out GE1592.out) hb); clear hb ho16; obtain ⟨Ao17, co17, eo17⟩ := Kd.N_slice HO1595.out; subst eo17) | ((with_reducible refine gate_callee (f := 86) rfl ?_); refine goesL_ (some 11) rfl rfl Try.func86 (by kernel_rfl) rfl #[.int .i64 6, .slice Ao17 y1593.length co17] rfl lu ?_; (with_reducible refine (codewrightlaw02_long.calls k 6 _ _ y1593 false _ ?side1 ?side2 A5.out).mono ?_); (case side1 => exact cu (Kd.N_reads' HO1595.out).2.2); (case side2 => exact (Kd.N_reads' HO1595.out).2.1); rintro e w' ⟨rfl, ⟨nd, rfl⟩⟩; refine ⟨_, rfl, ?_⟩; have hcz18_0 : w15.cell? ⟨gb1592, 0, none⟩ = some (.bool a0_0) := bc BK1592 0; have hcz18_1 : w15.cell? ⟨gb1592, 1, none⟩ = some (.slice A0_1 l0_1.length c0_1) := bc BK1592 1; have hcz18_2 : w15.cell? ⟨gb1592, 2, none⟩ = some (.slice A0_2 l0_2.length c0_2) := bc BK1592 2; have hfz18_0 := blk_frozen BK1592.out 0; have hfz18_1 := blk_frozen BK1592.out 1; have hfz18_2 := blk_frozen BK1592.out 2))
    go_meet
    case rel => exact ⟨_, (decide ((wrap64 ((wrap64 (32 * (wrap64 ((l0_1.length : Int) + (l0_2.length : Int))))) * (ji11))) > 4000)), (by first | rfl | (simp; done) | (simp only [← hji11] <;> (first | rfl | simp)) | (simp [*]; done)), H', ⟨by first | omega | exact Nat.le_refl _⟩, ⟨by exact vz HO0_1.out⟩, ⟨by exact vz HO0_2.out⟩, ⟨by (with_reducible repeat (first | refine blk_drewN ?_ _ | refine blk_drew ?_ | refine blk_alloc ?_ _)); exact BK1592.out⟩, ⟨by repeat (first | (with_reducible first | exact HB.out | apply below_alloc | apply pw_below_drewN | apply below_drew1 | refine below_set ?_ GE1592.out) | exact HB.out)⟩⟩
   ·
    rw [if_neg c12] at H
    have c12b0 : decide ((ji11) ≤ 140000) = false := decide_eq_false c12
    clear c12
    (first | rw [c12b0] | rw [c12b1] | (simp only [i64_w, i32_w]; rw [c12b0]) | skip)
    have H' := Aside0.mk H
    clear H
    have hcz19_0 : w4.cell? ⟨gb1592, 0, none⟩ = some (.bool a0_0) := bc BK1592 0
    have hcz19_1 : w4.cell? ⟨gb1592, 1, none⟩ = some (.slice A0_1 l0_1.length c0_1) := bc BK1592 1
    have hcz19_2 : w4.cell? ⟨gb1592, 2, none⟩ = some (.slice A0_2 l0_2.length c0_2) := bc BK1592 2
    have hfz19_0 := blk_frozen BK1592.out 0
    have hfz19_1 := blk_frozen BK1592.out 1
    have hfz19_2 := blk_frozen BK1592.out 2
    go_wp2_with (first | ((with_reducible refine gate_dst (N := 10) rfl ?_); (try (refine gate_guard (by rfl) ?_; dsimp only)); refine Kd.N_lit k67 _ 67 ?hg (N' := 10) ?hd (xs := ([(⟨a0_0, l0_1, l0_2⟩ : S67)] : List (S67))) (inner := [.bool a0_0, .slice A0_1 l0_1.length c0_1, .slice A0_2 l0_2.length c0_2]) (ok := (fun k_ => ((P0_1_ k_ ∨ P0_2_ k_) ∨ w.heap.size ≤ k_) ∧ k_ ≠ gb1592)) (okp := (fun k_ => ((P0_1_ k_ ∨ P0_2_ k_) ∨ w.heap.size ≤ k_) ∧ k_ ≠ gb1592)) ?hr ?hp (fun _ hk => hk) ((show ∀ k_, w4.heap.size ≤ k_ → (fun k_ => ((P0_1_ k_ ∨ P0_2_ k_) ∨ w.heap.size ≤ k_) ∧ k_ ≠ gb1592) k_ from fun k_ hk => ⟨(.inr (Nat.le_trans (below_size (bu1 HB.out GE1592.out)) hk)), Kd.freshB (g := gb1592) (o := .cells #[.bool a0_0, .slice A0_1 l0_1.length c0_1, .slice A0_2 l0_2.length c0_2] 67 (0, 0)) (ku BK1592.out) k_ hk⟩) _ (Nat.le_refl _)) (Below.refl _ _) (Nat.le_refl _) (by simp) ?_; (case hd => rfl); (case hg => rfl); (case hr => first | (go_simp; done) | (go_simp; rfl)); (case hp => exact (Reps.c3 (show Kd.FK k67 _ _ (⟨a0_0, l0_1, l0_2⟩ : S67) [.bool a0_0, .slice A0_1 l0_1.length c0_1, .slice A0_2 l0_2.length c0_2] from (k67_mkF _ _ (⟨a0_0, l0_1, l0_2⟩ : S67) (Kd.V_reads' (vy ((fun k_ => ((P0_1_ k_ ∨ P0_2_ k_) ∨ w.heap.size ≤ k_) ∧ k_ ≠ gb1592)) HO0_1.out)).2.1 (Kd.V_F (vy ((fun k_ => ((P0_1_ k_ ∨ P0_2_ k_) ∨ w.heap.size ≤ k_) ∧ k_ ≠ gb1592)) HO0_1.out)) (Kd.V_reads' (vy ((fun k_ => ((P0_1_ k_ ∨ P0_2_ k_) ∨ w.heap.size ≤ k_) ∧ k_ ≠ gb1592)) HO0_2.out)).2.1 (Kd.V_F (vy ((fun k_ => ((P0_1_ k_ ∨ P0_2_ k_) ∨ w.heap.size ≤ k_) ∧ k_ ≠ gb1592)) HO0_2.out)))) (Reps.none _ _))); intro v1594 w20 ho21 hb hg_ hnew_; clear hg_ hnew_; (first | rw [← Ny1593.out] at ho21 | (simp only [Int.reduceToNat] at ho21; rw [← Ny1593.out] at ho21)); replace HO0_1 := Aside0.mk (Kd.V_elder' (vu HO0_1.out) (Kd.N_base ho21) hb); replace HO0_2 := Aside0.mk (Kd.V_elder' (vu HO0_2.out) (Kd.N_base ho21) hb); have HO1595 := Aside0.mk (Kd.N_lower ho21 (below_size (bu1 HB.out GE1592.out))); replace BK1592 := kb BK1592 hb; replace HB := Aside0.mk (below_step (bu1 HB.out GE1592.out) hb); clear hb ho21; obtain ⟨Ao22, co22, eo22⟩ := Kd.N_slice HO1595.out; subst eo22) | ((with_reducible refine gate_callee (f := 86) rfl ?_); refine goesL_ (some 11) rfl rfl Try.func86 (by kernel_rfl) rfl #[.int .i64 6, .slice Ao22 y1593.length co22] rfl lu ?_; (with_reducible refine (codewrightlaw02_long.calls k 6 _ _ y1593 false _ ?side1 ?side2 A5.out).mono ?_); (case side1 => exact cu (Kd.N_reads' HO1595.out).2.2); (case side2 => exact (Kd.N_reads' HO1595.out).2.1); rintro e w' ⟨rfl, ⟨nd, rfl⟩⟩; refine ⟨_, rfl, ?_⟩))
    go_meet
    case rel => exact ⟨_, (false), (by first | rfl | (simp; done) | (simp [*]; done)), H', ⟨by first | omega | exact Nat.le_refl _⟩, ⟨by exact vz HO0_1.out⟩, ⟨by exact vz HO0_2.out⟩, ⟨by (with_reducible repeat (first | refine blk_drewN ?_ _ | refine blk_drew ?_ | refine blk_alloc ?_ _)); exact BK1592.out⟩, ⟨by repeat (first | (with_reducible first | exact HB.out | apply below_alloc | apply pw_below_drewN | apply below_drew1 | refine below_set ?_ GE1592.out) | exact HB.out)⟩⟩
 case rest =>
  clear HC3
  try clear c1
  try clear p2
  try clear c3
  try clear c6
  try clear p6
  try clear c8
  try clear c12
  try clear c12b0
  try clear c12b1
  try clear c13
  try clear c13b0
  try clear c14
  try clear hcz14_0
  try clear hcz14_1
  try clear hcz14_2
  try clear hcz18_0
  try clear hcz18_1
  try clear hcz18_2
  try clear hcz19_0
  try clear hcz19_1
  try clear hcz19_2
  try clear hcz7_0
  try clear hcz7_1
  try clear hcz7_2
  try clear hfz14_0
  try clear hfz14_1
  try clear hfz14_2
  try clear hfz18_0
  try clear hfz18_1
  try clear hfz18_2
  try clear hfz19_0
  try clear hfz19_1
  try clear hfz19_2
  try clear hfz7_0
  try clear hfz7_1
  try clear hfz7_2
  obtain ⟨kq, x34_2, rfl, HA, HJ2, HO_1593001, HO_1593002, BK1592, HB⟩ := hcut
  cases kq with
  | zero => exact absurd HA.out (by simp [codewrightlaw02_RationalPowers.j0])
  | succ kj2 =>
   have H := HA.out
   clear HA
   simp only [codewrightlaw02_RationalPowers.j0] at H
   by_cases c23 : x34_2 = true
   ·
    subst c23
    have H1 : (some true) = some r := by rw [if_pos rfl] at H; exact H
    clear H
    have H := H1
    clear H1
    obtain rfl := Option.some.inj H
    go_wp2
    go_ret
    exact ⟨by first | rfl | (simp [errW_none, errW_some] <;> rfl) | (simp [*, errW_none, errW_some] <;> rfl), by repeat (first | (with_reducible first | exact HB.out | apply below_alloc | apply pw_below_drewN | apply below_drew1 | refine below_set ?_ GE1592.out) | exact HB.out)⟩
   ·
    replace c23 := Bool.eq_false_iff.mpr c23
    subst c23
    have H1 : ((rational_Pow.f kj2 a0_0 l0_1 l0_2 a1).bind fun bt1597 => ((codewrightref02_Pow.f kj2 a0_0 l0_1 l0_2 a1).bind fun bt1606 => (if bt1597.2.2.2 = bt1606.2.2.2 then ((codewrightlaw02_same.f kj2 bt1597.1 bt1597.2.1 bt1597.2.2.1 bt1606.1 bt1606.2.1 bt1606.2.2.1).bind fun t1615 => (some t1615)) else (none)))) = some r := by rw [if_neg (show ¬ (false = true) by decide)] at H; exact H
    clear H
    have H := H1
    clear H1
    replace H := Option.bind_eq_some_iff.mp H
    obtain ⟨⟨t1597, t1598, t1601, t1604⟩, A240, H⟩ := H
    replace H : ((codewrightref02_Pow.f kj2 a0_0 l0_1 l0_2 a1).bind fun bt1606 => (if t1604 = bt1606.2.2.2 then ((codewrightlaw02_same.f kj2 t1597 t1598 t1601 bt1606.1 bt1606.2.1 bt1606.2.2.1).bind fun t1615 => (some t1615)) else (none))) = some r := H
    have A24 := Aside0.mk A240
    clear A240
    replace H := Option.bind_eq_some_iff.mp H
    obtain ⟨⟨t1606, t1607, t1610, t1613⟩, A250, H⟩ := H
    replace H : (if t1604 = t1613 then ((codewrightlaw02_same.f kj2 t1597 t1598 t1601 t1606 t1607 t1610).bind fun t1615 => (some t1615)) else (none)) = some r := H
    have A25 := Aside0.mk A250
    clear A250
    by_cases c26 : t1604 = t1613
    ·
     rw [if_pos c26] at H
     have c26b0 : (t1604 == t1613) = true := beq_iff_eq.mpr c26
     have c26b1 : (t1604 != t1613) = false := bne_eq_false_iff_eq.mpr c26
     clear c26
     replace H := Option.bind_eq_some_iff.mp H
     obtain ⟨t1615, A270, H⟩ := H
     replace H : (some t1615) = some r := H
     have A27 := Aside0.mk A270
     clear A270
     obtain rfl := Option.some.inj H
     have hcz28_0 : wc.cell? ⟨gb1592, 0, none⟩ = some (.bool a0_0) := bc BK1592 0
     have hcz28_1 : wc.cell? ⟨gb1592, 1, none⟩ = some (.slice A0_1 l0_1.length c0_1) := bc BK1592 1
     have hcz28_2 : wc.cell? ⟨gb1592, 2, none⟩ = some (.slice A0_2 l0_2.length c0_2) := bc BK1592 2
     have hfz28_0 := blk_frozen BK1592.out 0
     have hfz28_1 := blk_frozen BK1592.out 1
     have hfz28_2 := blk_frozen BK1592.out 2
     go_wp2_with (first | ((with_reducible refine gate_callee (f := 96) rfl ?_); refine goesL_ (some 38) rfl rfl Try.func96 (by kernel_rfl) rfl #[.agg #[.bool a0_0, .slice A0_1 l0_1.length c0_1, .slice A0_2 l0_2.length c0_2], .int .i64 a1] rfl lu ?_; (with_reducible refine (rational_Pow.calls kj2 a0_0 (fun k_ => (((P0_1_ k_ ∨ P0_2_ k_) ∨ w.heap.size ≤ k_) ∧ k_ ≠ gb1592)) _ _ l0_1 (fun k_ => (((P0_1_ k_ ∨ P0_2_ k_) ∨ w.heap.size ≤ k_) ∧ k_ ≠ gb1592)) _ _ l0_2 a1 t1597 t1598 t1601 t1604 _ ?side1 ?side2 A24.out).mono ?_); (case side1 => exact HO_1593001.out); (case side2 => exact HO_1593002.out); rintro e w29 ⟨v1599, v1602, rfl, ho0, ho1, hb⟩; refine ⟨_, rfl, ?_⟩; replace HO_1593001 := kv HO_1593001 hb; replace HO_1593002 := kv HO_1593002 hb; have HO1600 := ar w.heap.size (ok' := fun k_ => ((P0_1_ k_ ∨ P0_2_ k_) ∨ w.heap.size ≤ k_) ∧ k_ ≠ gb1592) ho0 (fa (f0 (below_size (bu1 HB.out GE1592.out))) (fb BK1592)); have HO1603 := ar w.heap.size (ok' := fun k_ => ((P0_1_ k_ ∨ P0_2_ k_) ∨ w.heap.size ≤ k_) ∧ k_ ≠ gb1592) ho1 (fa (f0 (below_size (bu1 HB.out GE1592.out))) (fb BK1592)); replace BK1592 := kb BK1592 hb; replace HB := Aside0.mk (below_step (bu1 HB.out GE1592.out) hb); (try clear hb); (try clear hb2); (try clear hk); (try clear hi); (try clear ho0); (try clear ho1)) | ((with_reducible refine gate_dst (N := 5) rfl ?_); (try (refine gate_guard (by rfl) ?_; dsimp only)); refine box_event ?hg (N := 5) ?hd (cs := #[.bool false, .slice none 0 0, .slice none 0 0]) (t := 67) ?hr ?_; (case hd => rfl); (case hg => rfl); (case hr => first | (go_simp; done) | (go_simp; rfl)); intro gb1605 hg w30 hbox hb; replace HO_1593001 := ke HO_1593001 hg hb; replace HO_1593002 := ke HO_1593002 hg hb; replace HO1600 := ke HO1600 hg hb; replace HO1603 := ke HO1603 hg hb; have BK1605 := Aside0.mk (hbox); have GW1605 := ng hg (bu1 HB.out GE1592.out); have GE1605 := ng hg (bu1 HB.out GE1592.out); replace HB := Aside0.mk (below_step (bu1 HB.out GE1592.out) hb); have NB1592_1605 := nl hg BK1592; have NB1605_1592 := nr hg BK1592; replace BK1592 := kb BK1592 hb; clear hb hbox hg; have hnb31 := NB1605_1592.out; have hnc31 := NB1592_1605.out; have hcz32_0 : w30.cell? ⟨gb1605, 0, none⟩ = some (.bool false) := bc BK1605 0; have hcz32_1 : w30.cell? ⟨gb1605, 1, none⟩ = some (.slice none 0 0) := bc BK1605 1; have hcz32_2 : w30.cell? ⟨gb1605, 2, none⟩ = some (.slice none 0 0) := bc BK1605 2; have hfz32_0 := blk_frozen BK1605.out 0; have hfz32_1 := blk_frozen BK1605.out 1; have hfz32_2 := blk_frozen BK1605.out 2; obtain ⟨Ao33, co33, eo33⟩ := Kd.V_slice HO1600.out; subst eo33; obtain ⟨Ao34, co34, eo34⟩ := Kd.V_slice HO1603.out; subst eo34) | ((with_reducible refine gate_store (t := 67) (p := 5) rfl ?_); refine store_event (t := 67) (p := 5) (v := ?vo_w35) (w1 := (((w30.setCell ⟨gb1605, 0, none⟩ (.bool t1597)).setCell ⟨gb1605, 1, none⟩ (.slice Ao33 t1598.length co33)).setCell ⟨gb1605, 2, none⟩ (.slice Ao34 t1601.length co34))) ?hg ?ho ?hn ?hr ?_; (case ho => rfl); (case hg => rfl); (case hn => rfl); (case hr => first | (go_simp; done) | (go_simp; rfl)); intro w35 hw; have n0_ : Aside0 (Kd.V (Kd.int .u32) 48 w35 w.heap.size (fun k_ => ((P0_1_ k_ ∨ P0_2_ k_) ∨ w.heap.size ≤ k_) ∧ k_ ≠ gb1592 ∧ k_ ≠ gb1605) (.slice A0_1 l0_1.length c0_1) l0_1) := ⟨(by rw [hw]; exact (by (with_reducible repeat (first | apply Kd.V_alloc | apply Kd.V_drewN | apply Kd.V_drew)); exact Kd.V_mono (Kd.V_far (p := ⟨gb1605, 2, none⟩) (Kd.V_far (p := ⟨gb1605, 1, none⟩) (Kd.V_far (p := ⟨gb1605, 0, none⟩) (Kd.V_mono HO_1593001.out (fun k_ hk => (⟨hk, hk.2⟩ : _ ∧ k_ ≠ gb1605))) (fun _ hk => hk.2) (.bool t1597)) (fun _ hk => hk.2) (.slice Ao33 t1598.length co33)) (fun _ hk => hk.2) (.slice Ao34 t1601.length co34)) (fun _ hk => ⟨hk.1.1.1, ⟨hk.1.1.2, hk.1.2⟩⟩)))⟩; have n1_ : Aside0 (Kd.V (Kd.int .u32) 48 w35 w.heap.size (fun k_ => ((P0_1_ k_ ∨ P0_2_ k_) ∨ w.heap.size ≤ k_) ∧ k_ ≠ gb1592 ∧ k_ ≠ gb1605) (.slice A0_2 l0_2.length c0_2) l0_2) := ⟨(by rw [hw]; exact (by (with_reducible repeat (first | apply Kd.V_alloc | apply Kd.V_drewN | apply Kd.V_drew)); exact Kd.V_mono (Kd.V_far (p := ⟨gb1605, 2, none⟩) (Kd.V_far (p := ⟨gb1605, 1, none⟩) (Kd.V_far (p := ⟨gb1605, 0, none⟩) (Kd.V_mono HO_1593002.out (fun k_ hk => (⟨hk, hk.2⟩ : _ ∧ k_ ≠ gb1605))) (fun _ hk => hk.2) (.bool t1597)) (fun _ hk => hk.2) (.slice Ao33 t1598.length co33)) (fun _ hk => hk.2) (.slice Ao34 t1601.length co34)) (fun _ hk => ⟨hk.1.1.1, ⟨hk.1.1.2, hk.1.2⟩⟩)))⟩; have n2_ : Aside0 (Kd.V (Kd.int .u32) 48 w35 w.heap.size (fun k_ => ((P0_1_ k_ ∨ P0_2_ k_) ∨ w.heap.size ≤ k_) ∧ k_ ≠ gb1592 ∧ k_ ≠ gb1605) (.slice Ao33 t1598.length co33) t1598) := ⟨(by rw [hw]; exact (by (with_reducible repeat (first | apply Kd.V_alloc | apply Kd.V_drewN | apply Kd.V_drew)); exact Kd.V_mono (Kd.V_far (p := ⟨gb1605, 2, none⟩) (Kd.V_far (p := ⟨gb1605, 1, none⟩) (Kd.V_far (p := ⟨gb1605, 0, none⟩) (Kd.V_mono HO1600.out (fun k_ hk => (⟨hk, hk.2⟩ : _ ∧ k_ ≠ gb1605))) (fun _ hk => hk.2) (.bool t1597)) (fun _ hk => hk.2) (.slice Ao33 t1598.length co33)) (fun _ hk => hk.2) (.slice Ao34 t1601.length co34)) (fun _ hk => ⟨hk.1.1.1, ⟨hk.1.1.2, hk.1.2⟩⟩)))⟩; have n3_ : Aside0 (Kd.V (Kd.int .u32) 48 w35 w.heap.size (fun k_ => ((P0_1_ k_ ∨ P0_2_ k_) ∨ w.heap.size ≤ k_) ∧ k_ ≠ gb1592 ∧ k_ ≠ gb1605) (.slice Ao34 t1601.length co34) t1601) := ⟨(by rw [hw]; exact (by (with_reducible repeat (first | apply Kd.V_alloc | apply Kd.V_drewN | apply Kd.V_drew)); exact Kd.V_mono (Kd.V_far (p := ⟨gb1605, 2, none⟩) (Kd.V_far (p := ⟨gb1605, 1, none⟩) (Kd.V_far (p := ⟨gb1605, 0, none⟩) (Kd.V_mono HO1603.out (fun k_ hk => (⟨hk, hk.2⟩ : _ ∧ k_ ≠ gb1605))) (fun _ hk => hk.2) (.bool t1597)) (fun _ hk => hk.2) (.slice Ao33 t1598.length co33)) (fun _ hk => hk.2) (.slice Ao34 t1601.length co34)) (fun _ hk => ⟨hk.1.1.1, ⟨hk.1.1.2, hk.1.2⟩⟩)))⟩; have n4_ : Aside0 (w35.heap[gb1592]? = some (.cells #[.bool a0_0, .slice A0_1 l0_1.length c0_1, .slice A0_2 l0_2.length c0_2] 67 (0, 0))) := ⟨(by rw [hw]; exact (kf NB1592_1605.out BK1592.out))⟩; have n5_ : Aside0 (w35.heap[gb1605]? = some (.cells #[.bool t1597, .slice Ao33 t1598.length co33, .slice Ao34 t1601.length co34] 67 (0, 0))) := ⟨(by rw [hw]; exact (by (with_reducible repeat (first | refine blk_drewN ?_ _ | refine blk_drew ?_ | refine blk_alloc ?_ _)); refine blk_put (cs := #[.bool t1597, .slice Ao33 t1598.length co33, .slice none 0 0]) ?_ 2 _ rfl; (with_reducible repeat (first | refine blk_drewN ?_ _ | refine blk_drew ?_ | refine blk_alloc ?_ _)); refine blk_put (cs := #[.bool t1597, .slice none 0 0, .slice none 0 0]) ?_ 1 _ rfl; (with_reducible repeat (first | refine blk_drewN ?_ _ | refine blk_drew ?_ | refine blk_alloc ?_ _)); refine blk_put (cs := #[.bool false, .slice none 0 0, .slice none 0 0]) ?_ 0 _ rfl; (with_reducible repeat (first | refine blk_drewN ?_ _ | refine blk_drew ?_ | refine blk_alloc ?_ _)); exact BK1605.out))⟩; have n6_ : Aside0 (Below w.heap.size w w35) := ⟨(by rw [hw]; exact (bu2 HB.out GE1592.out GE1605.out))⟩; clear hw HO_1593001 HO_1593002 HO1600 HO1603 BK1592 BK1605 HB; have HO_1593001 := n0_; have HO_1593002 := n1_; have HO1600 := n2_; have HO1603 := n3_; have BK1592 := n4_; have BK1605 := n5_; have HB := n6_; clear n0_ n1_ n2_ n3_ n4_ n5_ n6_; have hcz36_0 : w35.cell? ⟨gb1592, 0, none⟩ = some (.bool a0_0) := bc BK1592 0; have hcz36_1 : w35.cell? ⟨gb1592, 1, none⟩ = some (.slice A0_1 l0_1.length c0_1) := bc BK1592 1; have hcz36_2 : w35.cell? ⟨gb1592, 2, none⟩ = some (.slice A0_2 l0_2.length c0_2) := bc BK1592 2; have hfz36_0 := blk_frozen BK1592.out 0; have hfz36_1 := blk_frozen BK1592.out 1; have hfz36_2 := blk_frozen BK1592.out 2) | ((with_reducible refine gate_callee (f := 97) rfl ?_); refine goesL_ (some 44) rfl rfl Try.func97 (by kernel_rfl) rfl #[.agg #[.bool a0_0, .slice A0_1 l0_1.length c0_1, .slice A0_2 l0_2.length c0_2], .int .i64 a1] rfl lu ?_; (with_reducible refine (codewrightref02_Pow.calls kj2 a0_0 (fun k_ => (((P0_1_ k_ ∨ P0_2_ k_) ∨ w.heap.size ≤ k_) ∧ (k_ ≠ gb1592 ∧ k_ ≠ gb1605))) _ _ l0_1 (fun k_ => (((P0_1_ k_ ∨ P0_2_ k_) ∨ w.heap.size ≤ k_) ∧ (k_ ≠ gb1592 ∧ k_ ≠ gb1605))) _ _ l0_2 a1 t1606 t1607 t1610 t1613 _ ?side1 ?side2 A25.out).mono ?_); (case side1 => exact HO_1593001.out); (case side2 => exact HO_1593002.out); rintro e w37 ⟨v1608, v1611, rfl, ho0, ho1, hb⟩; refine ⟨_, rfl, ?_⟩; replace HO_1593001 := kv HO_1593001 hb; replace HO_1593002 := kv HO_1593002 hb; replace HO1600 := kv HO1600 hb; replace HO1603 := kv HO1603 hb; have HO1609 := ar w.heap.size (ok' := fun k_ => ((P0_1_ k_ ∨ P0_2_ k_) ∨ w.heap.size ≤ k_) ∧ k_ ≠ gb1592 ∧ k_ ≠ gb1605) ho0 (fa (f0 (below_size (bu2 HB.out GE1592.out GE1605.out))) (fa (fb BK1592) (fb BK1605))); have HO1612 := ar w.heap.size (ok' := fun k_ => ((P0_1_ k_ ∨ P0_2_ k_) ∨ w.heap.size ≤ k_) ∧ k_ ≠ gb1592 ∧ k_ ≠ gb1605) ho1 (fa (f0 (below_size (bu2 HB.out GE1592.out GE1605.out))) (fa (fb BK1592) (fb BK1605))); replace BK1592 := kb BK1592 hb; replace BK1605 := kb BK1605 hb; replace HB := Aside0.mk (below_step (bu2 HB.out GE1592.out GE1605.out) hb); (try clear hb); (try clear hb2); (try clear hk); (try clear hi); (try clear ho0); (try clear ho1)) | ((with_reducible refine gate_dst (N := 7) rfl ?_); (try (refine gate_guard (by rfl) ?_; dsimp only)); refine box_event ?hg (N := 7) ?hd (cs := #[.bool false, .slice none 0 0, .slice none 0 0]) (t := 67) ?hr ?_; (case hd => rfl); (case hg => rfl); (case hr => first | (go_simp; done) | (go_simp; rfl)); intro gb1614 hg w38 hbox hb; replace HO_1593001 := ke HO_1593001 hg hb; replace HO_1593002 := ke HO_1593002 hg hb; replace HO1600 := ke HO1600 hg hb; replace HO1603 := ke HO1603 hg hb; replace HO1609 := ke HO1609 hg hb; replace HO1612 := ke HO1612 hg hb; have BK1614 := Aside0.mk (hbox); have GW1614 := ng hg (bu2 HB.out GE1592.out GE1605.out); have GE1614 := ng hg (bu2 HB.out GE1592.out GE1605.out); replace HB := Aside0.mk (below_step (bu2 HB.out GE1592.out GE1605.out) hb); have NB1592_1614 := nl hg BK1592; have NB1614_1592 := nr hg BK1592; replace BK1592 := kb BK1592 hb; have NB1605_1614 := nl hg BK1605; have NB1614_1605 := nr hg BK1605; replace BK1605 := kb BK1605 hb; clear hb hbox hg; have hnb39 := NB1614_1592.out; have hnc39 := NB1592_1614.out; have hnb40 := NB1614_1605.out; have hnc40 := NB1605_1614.out; have hcz41_0 : w38.cell? ⟨gb1614, 0, none⟩ = some (.bool false) := bc BK1614 0; have hcz41_1 : w38.cell? ⟨gb1614, 1, none⟩ = some (.slice none 0 0) := bc BK1614 1; have hcz41_2 : w38.cell? ⟨gb1614, 2, none⟩ = some (.slice none 0 0) := bc BK1614 2; have hfz41_0 := blk_frozen BK1614.out 0; have hfz41_1 := blk_frozen BK1614.out 1; have hfz41_2 := blk_frozen BK1614.out 2; obtain ⟨Ao42, co42, eo42⟩ := Kd.V_slice HO1609.out; subst eo42; obtain ⟨Ao43, co43, eo43⟩ := Kd.V_slice HO1612.out; subst eo43; have hcz44_0 : w38.cell? ⟨gb1605, 0, none⟩ = some (.bool t1597) := bc BK1605 0; have hcz44_1 : w38.cell? ⟨gb1605, 1, none⟩ = some (.slice Ao33 t1598.length co33) := bc BK1605 1; have hcz44_2 : w38.cell? ⟨gb1605, 2, none⟩ = some (.slice Ao34 t1601.length co34) := bc BK1605 2; have hfz44_0 := blk_frozen BK1605.out 0; have hfz44_1 := blk_frozen BK1605.out 1; have hfz44_2 := blk_frozen BK1605.out 2) | (go_at_call 83; (with_reducible refine (codewrightlaw02_same.calls kj2 t1597 _ _ t1598 _ _ t1601 t1606 _ _ t1607 _ _ t1610 t1615 _ ?side1 ?side2 ?side3 ?side4 ?side5 ?side6 ?side7 ?side8 A27.out).mono ?_); (case side1 => exact vr HO1600.out); (case side2 => exact (Kd.V_reads' HO1600.out).2.1); (case side3 => exact vr HO1603.out); (case side4 => exact (Kd.V_reads' HO1603.out).2.1); (case side5 => exact vr HO1609.out); (case side6 => exact (Kd.V_reads' HO1609.out).2.1); (case side7 => exact vr HO1612.out); (case side8 => exact (Kd.V_reads' HO1612.out).2.1); rintro e w45 ⟨rfl, hb⟩; replace HO_1593001 := Aside0.mk (Kd.V_below (by (with_reducible repeat (first | apply Kd.V_alloc | apply Kd.V_drewN | apply Kd.V_drew)); exact (Kd.V_mono (Kd.V_far (p := ⟨gb1614, 2, none⟩) (Kd.V_far (p := ⟨gb1614, 1, none⟩) (Kd.V_far (p := ⟨gb1614, 0, none⟩) (Kd.V_mono HO_1593001.out (fun k_ hk => (⟨hk, hk.2⟩ : _ ∧ k_ ≠ gb1614))) (fun _ hk => hk.2) (.bool t1606)) (fun _ hk => hk.2) (.slice Ao42 t1607.length co42)) (fun _ hk => hk.2) (.slice Ao43 t1610.length co43)) (fun _ h_ => h_.1))) hb); replace HO_1593002 := Aside0.mk (Kd.V_below (by (with_reducible repeat (first | apply Kd.V_alloc | apply Kd.V_drewN | apply Kd.V_drew)); exact (Kd.V_mono (Kd.V_far (p := ⟨gb1614, 2, none⟩) (Kd.V_far (p := ⟨gb1614, 1, none⟩) (Kd.V_far (p := ⟨gb1614, 0, none⟩) (Kd.V_mono HO_1593002.out (fun k_ hk => (⟨hk, hk.2⟩ : _ ∧ k_ ≠ gb1614))) (fun _ hk => hk.2) (.bool t1606)) (fun _ hk => hk.2) (.slice Ao42 t1607.length co42)) (fun _ hk => hk.2) (.slice Ao43 t1610.length co43)) (fun _ h_ => h_.1))) hb); replace HO1600 := Aside0.mk (Kd.V_below (by (with_reducible repeat (first | apply Kd.V_alloc | apply Kd.V_drewN | apply Kd.V_drew)); exact (Kd.V_mono (Kd.V_far (p := ⟨gb1614, 2, none⟩) (Kd.V_far (p := ⟨gb1614, 1, none⟩) (Kd.V_far (p := ⟨gb1614, 0, none⟩) (Kd.V_mono HO1600.out (fun k_ hk => (⟨hk, hk.2⟩ : _ ∧ k_ ≠ gb1614))) (fun _ hk => hk.2) (.bool t1606)) (fun _ hk => hk.2) (.slice Ao42 t1607.length co42)) (fun _ hk => hk.2) (.slice Ao43 t1610.length co43)) (fun _ h_ => h_.1))) hb); replace HO1603 := Aside0.mk (Kd.V_below (by (with_reducible repeat (first | apply Kd.V_alloc | apply Kd.V_drewN | apply Kd.V_drew)); exact (Kd.V_mono (Kd.V_far (p := ⟨gb1614, 2, none⟩) (Kd.V_far (p := ⟨gb1614, 1, none⟩) (Kd.V_far (p := ⟨gb1614, 0, none⟩) (Kd.V_mono HO1603.out (fun k_ hk => (⟨hk, hk.2⟩ : _ ∧ k_ ≠ gb1614))) (fun _ hk => hk.2) (.bool t1606)) (fun _ hk => hk.2) (.slice Ao42 t1607.length co42)) (fun _ hk => hk.2) (.slice Ao43 t1610.length co43)) (fun _ h_ => h_.1))) hb); replace HO1609 := Aside0.mk (Kd.V_below (by (with_reducible repeat (first | apply Kd.V_alloc | apply Kd.V_drewN | apply Kd.V_drew)); exact (Kd.V_mono (Kd.V_far (p := ⟨gb1614, 2, none⟩) (Kd.V_far (p := ⟨gb1614, 1, none⟩) (Kd.V_far (p := ⟨gb1614, 0, none⟩) (Kd.V_mono HO1609.out (fun k_ hk => (⟨hk, hk.2⟩ : _ ∧ k_ ≠ gb1614))) (fun _ hk => hk.2) (.bool t1606)) (fun _ hk => hk.2) (.slice Ao42 t1607.length co42)) (fun _ hk => hk.2) (.slice Ao43 t1610.length co43)) (fun _ h_ => h_.1))) hb); replace HO1612 := Aside0.mk (Kd.V_below (by (with_reducible repeat (first | apply Kd.V_alloc | apply Kd.V_drewN | apply Kd.V_drew)); exact (Kd.V_mono (Kd.V_far (p := ⟨gb1614, 2, none⟩) (Kd.V_far (p := ⟨gb1614, 1, none⟩) (Kd.V_far (p := ⟨gb1614, 0, none⟩) (Kd.V_mono HO1612.out (fun k_ hk => (⟨hk, hk.2⟩ : _ ∧ k_ ≠ gb1614))) (fun _ hk => hk.2) (.bool t1606)) (fun _ hk => hk.2) (.slice Ao42 t1607.length co42)) (fun _ hk => hk.2) (.slice Ao43 t1610.length co43)) (fun _ h_ => h_.1))) hb); replace BK1592 := Aside0.mk (blk_below (g := gb1592) (o := .cells #[.bool a0_0, .slice A0_1 l0_1.length c0_1, .slice A0_2 l0_2.length c0_2] 67 (0, 0)) (kf NB1592_1614.out BK1592.out) hb); replace BK1605 := Aside0.mk (blk_below (g := gb1605) (o := .cells #[.bool t1597, .slice Ao33 t1598.length co33, .slice Ao34 t1601.length co34] 67 (0, 0)) (kf NB1605_1614.out BK1605.out) hb); replace BK1614 := Aside0.mk (blk_below (g := gb1614) (o := .cells #[.bool t1606, .slice Ao42 t1607.length co42, .slice Ao43 t1610.length co43] 67 (0, 0)) (by (with_reducible repeat (first | refine blk_drewN ?_ _ | refine blk_drew ?_ | refine blk_alloc ?_ _)); refine blk_put (cs := #[.bool t1606, .slice Ao42 t1607.length co42, .slice none 0 0]) ?_ 2 _ rfl; (with_reducible repeat (first | refine blk_drewN ?_ _ | refine blk_drew ?_ | refine blk_alloc ?_ _)); refine blk_put (cs := #[.bool t1606, .slice none 0 0, .slice none 0 0]) ?_ 1 _ rfl; (with_reducible repeat (first | refine blk_drewN ?_ _ | refine blk_drew ?_ | refine blk_alloc ?_ _)); refine blk_put (cs := #[.bool false, .slice none 0 0, .slice none 0 0]) ?_ 0 _ rfl; (with_reducible repeat (first | refine blk_drewN ?_ _ | refine blk_drew ?_ | refine blk_alloc ?_ _)); exact BK1614.out) hb); replace HB := Aside0.mk (below_step (bu3 HB.out GE1592.out GE1605.out GE1614.out) hb); (try clear hb); (try clear hb2); (try clear hk); (try clear hi)))
     go_ret
     exact ⟨by first | rfl | (simp [errW_none, errW_some] <;> rfl) | (simp [*, errW_none, errW_some] <;> rfl), by repeat (first | (with_reducible first | exact HB.out | apply below_alloc | apply pw_below_drewN | apply below_drew1 | refine below_set ?_ GE1592.out | refine below_set ?_ GE1605.out | refine below_set ?_ GE1614.out) | exact HB.out)⟩
    ·
     rw [if_neg c26] at H
     exact absurd H (by simp)
end Go.Proofs.Ytecfdemglbfnoaa.PT
end
section
namespace Go.Proofs.Ytecfdemglbfnoaa.Num
open Go.RowKit Go.Proofs.Ytecfdemglbfnoaa.PT Go.Proofs.YtecfdemglbfnoaaW.PrintWords
/-- The canonical data of a fraction. -/
def rep (q : Rat) : Bool × List Int × List Int := (decide (q.num < 0), lb q.num.natAbs, lb q.den)
/-- A number with a sign. -/
def sg (neg : Bool) (n : Nat) : Int := if neg then -(n : Int) else (n : Int)
/-- The value of any data: 0 if the denominator is 0. -/
def rv (neg : Bool) (n d : List Int) : Rat := mkRat (sg neg (valn n)) (valn d)
/-- Numerator and denominator have at most m limbs. -/
def Sz (m : Nat) (q : Rat) : Prop := q.num.natAbs < pw m ∧ q.den < pw m
theorem sg_abs (neg : Bool) (n : Nat) : (sg neg n).natAbs = n := by cases neg <;> simp [sg]
theorem sg_self (z : Int) : sg (decide (z < 0)) z.natAbs = z := by
  by_cases h : z < 0
  · rw [decide_eq_true h]; simp only [sg, if_true]; omega
  · rw [decide_eq_false h]; simp only [sg, Bool.false_eq_true, if_false]; omega
theorem sg_zero (neg : Bool) : sg neg 0 = 0 := by cases neg <;> rfl
theorem sg_ne {neg : Bool} {n : Nat} (h : n ≠ 0) : sg neg n ≠ 0 := by cases neg <;> simp [sg, h]
theorem sg_div (neg : Bool) {m g : Nat} (h : g ∣ m) : sg neg m / (g : Int) = sg neg (m / g) := by
  cases neg
  · simp [sg]
  · simp only [sg, if_true]
    rw [Int.neg_ediv_of_dvd (Int.ofNat_dvd.mpr h)]; rfl
theorem rv_zero_num (neg : Bool) {n d : List Int} (h : valn n = 0) : rv neg n d = 0 := by rw [rv, h, sg_zero]; exact Rat.zero_mkRat _
theorem rv_zero_den (neg : Bool) {n d : List Int} (h : valn d = 0) : rv neg n d = 0 := by rw [rv, h]; exact Rat.mkRat_zero _
theorem rv_rep (q : Rat) : rv (rep q).1 (rep q).2.1 (rep q).2.2 = q := by
  simp only [rep, rv, valn_lb, sg_self]; exact Rat.mkRat_self q
theorem rep_zero : rep 0 = (false, [], [1]) := by
  simp only [rep, Rat.zero_num, Rat.zero_den]
  rw [show lb (0 : Int).natAbs = [] from lb_zero, show lb 1 = [1] from by rw [lb_pos (by decide), show (1 : Nat) / 4294967296 = 0 from rfl, lb_zero]; rfl]
  rfl
theorem rep_mkRat (neg : Bool) {n d : Nat} (hn : n ≠ 0) (hd : d ≠ 0) : rep (mkRat (sg neg n) d) = (neg, lb (n / n.gcd d), lb (d / n.gcd d)) := by
  have hg : d.gcd n = n.gcd d := Nat.gcd_comm d n
  have hdv : n.gcd d ∣ n := Nat.gcd_dvd_left n d
  have hq : n / n.gcd d ≠ 0 := Nat.ne_of_gt (Nat.div_pos (Nat.le_of_dvd (Nat.pos_of_ne_zero hn) hdv) (Nat.gcd_pos_of_pos_left _ (Nat.pos_of_ne_zero hn)))
  have hnum : (mkRat (sg neg n) d).num = sg neg (n / n.gcd d) := by
    rw [Rat.num_mkRat, if_neg hd, sg_abs, hg, sg_div neg hdv]
  have hden : (mkRat (sg neg n) d).den = d / n.gcd d := by
    rw [Rat.den_mkRat, if_neg hd, sg_abs, hg]
  have hs : decide (sg neg (n / n.gcd d) < 0) = neg := by
    generalize n / n.gcd d = x at hq
    cases neg
    · exact decide_eq_false (by simp [sg])
    · exact decide_eq_true (by simp only [sg, if_true]; omega)
  simp only [rep, hnum, hden, sg_abs, hs]
theorem mkRat_sz {neg : Bool} {n d m : Nat} (hn : n < pw m) (hd : d < pw m) (hm : 1 ≤ m) : Sz m (mkRat (sg neg n) d) := by
  have h1 : 1 < pw m := Nat.lt_of_lt_of_le (by rw [pw_succ, pw_zero]; decide) (pw_mono hm)
  refine ⟨?_, ?_⟩
  · rw [Rat.num_mkRat]
    split
    · exact pw_pos m
    · rw [sg_abs, sg_div neg (Nat.gcd_dvd_right d n), sg_abs]; exact Nat.lt_of_le_of_lt (Nat.div_le_self _ _) hn
  · rw [Rat.den_mkRat]
    split
    · exact h1
    · exact Nat.lt_of_le_of_lt (Nat.div_le_self _ _) hd
theorem Sz_rv {neg : Bool} {n d : List Int} {m : Nat} (hn : U n) (hd : U d) (ln : n.length ≤ m) (ld : d.length ≤ m) (hm : 1 ≤ m) : Sz m (rv neg n d) :=
  mkRat_sz (Nat.lt_of_lt_of_le (valn_lt hn) (pw_mono ln)) (Nat.lt_of_lt_of_le (valn_lt hd) (pw_mono ld)) hm
end Go.Proofs.Ytecfdemglbfnoaa.Num
end
section
namespace Go.Proofs.Ytecfdemglbfnoaa.Num
open Go.RowKit Go.Proofs.Ytecfdemglbfnoaa.PT Go.Proofs.YtecfdemglbfnoaaW.PrintWords Go.Proofs.YtecfdemglbfnoaaW.PrintLast Go.Proofs.YtecfdemglbfnoaaW.PrintMore
theorem Ev_pos {α : Type} {c : Prop} [Decidable c] {f g : Nat → Option α} {r : α} (h : c) (k : Ev f r) : Ev (fun n => if c then f n else g n) r := Ev.congr (fun _ => if_pos h) k
theorem Ev_neg {α : Type} {c : Prop} [Decidable c] {f g : Nat → Option α} {r : α} (h : ¬ c) (k : Ev g r) : Ev (fun n => if c then f n else g n) r := Ev.congr (fun _ => if_neg h) k
theorem two_pw (n : Nat) : pw n = 2 ^ (32 * n) := by rw [pw_eq, Nat.pow_mul]
/-- The last limb and the number of digits. -/
theorem sz_lb {v M : Nat} (hl : (lb v).length = M + 1) {t : Nat} (et : rd (lb v) (M : Int) = (t : Int)) (h0 : v ≠ 0) : sz v = 32 * M + sz t := by
  have h1 := top_val hl et
  rw [valn_lb] at h1
  have h2 := take_lt' (U_lb v) M
  have ht : t ≠ 0 := by
    intro h
    have h3 := rd_lb_last h0
    rw [hl, Nat.add_sub_cancel, et, h] at h3
    exact h3 rfl
  have e : v / 2 ^ (32 * M) = t := by
    rw [← two_pw, h1, Nat.add_mul_div_left _ _ (pw_pos M), Nat.div_eq_of_lt h2, Nat.zero_add]
  rw [sz_div (n := v) (k := 32 * M) (by rw [e]; exact ht), e]
theorem Bits_f {l : List Int} (ul : U l) (hl : l.length ≤ 100000000) : Ev (fun k => nat_Bits.f k l) ((sz (valn l) : Nat) : Int) := by
  have hs := short_f ul (by omega)
  have hL := lb_len ul
  generalize valn l = v at *
  by_cases h0 : v = 0
  · subst h0
    rw [lb_zero] at hs
    exact Ev.bind hs (Ev.now _)
  · obtain ⟨M, hM⟩ : ∃ M, (lb v).length = M + 1 := ⟨(lb v).length - 1, by
      have : (lb v).length ≠ 0 := fun h => h0 (lb_eq_nil.mp (List.length_eq_zero_iff.mp h))
      omega⟩
    obtain ⟨t, et, ht⟩ := rd_nat (U_lb v) (M : Int)
    have hz := sz_lb hM et h0
    have ht32 : sz t ≤ 32 := sz_le (b := 32) ht
    have c : ¬ (((M + 1 : Nat) : Int) = 0) ∧ (0 : Int) ≤ (M : Int) ∧ (M : Int) < ((M + 1 : Nat) : Int) ∧ M < 9223372036854775807 ∧ (32 : Int) * (M : Int) = ((32 * M : Nat) : Int) := by omega
    have ws : wrap64 (((M + 1 : Nat) : Int) - 1) = (M : Int) ∧ wrap64 ((32 * M : Nat) : Int) = ((32 * M : Nat) : Int) ∧ wrap64 (((32 * M : Nat) : Int) + ((sz t : Nat) : Int)) = ((32 * M + sz t : Nat) : Int) := ⟨dn M c.2.2.2.1, w64 (by omega) (by omega), by rw [w64 (by omega) (by omega)]; rfl⟩
    refine Ev.bind hs (Ev.congr (f := fun _ => some ((sz v : Nat) : Int)) (fun k => ?_) (Ev.now _))
    rw [hM, if_neg c.1, ws.1, if_pos c.2.1, if_pos c.2.2.1, et, Len32_f t ht, Option.bind_some, c.2.2.2.2, ws.2.1, ws.2.2, hz]
theorem mod32 (r : Nat) : r * 4294967296 % 2 ^ 32 = 0 := by rw [show (2 : Nat) ^ 32 = 4294967296 from rfl]; exact Nat.mul_mod_left ..
theorem or_rx {r x : Nat} (hr : r < 4294967296) (hx : x < 4294967296) : Go.bits .or .u64 (IntKind.u64.wrap ((r : Int) * 4294967296)) (IntKind.u64.wrap (x : Int)) = ((r * 4294967296 + x : Nat) : Int) := by
  have e : (r : Int) * 4294967296 = ((r * 4294967296 : Nat) : Int) := by simp
  rw [e, u64 (x := ((r * 4294967296 : Nat) : Int)) (by omega) (by omega), u64 (x := (x : Int)) (by omega) (by omega), or64 32 _ _ (mod32 r) (by omega) hx (by omega)]
theorem digit_l0 {a : List Int} (ua : U a) {b : Nat} (hb : 0 < b) (hb' : b < 4294967296) (hs : a.length ≤ 100000000) : ∀ (j : Nat) (out : List Int) (r : Nat), j ≤ a.length → out.length = a.length → U out → r = valn (a.drop j) % b → valn (out.drop j) = valn (a.drop j) / b →
    Ev (fun k => nat_digit.l0 k a (b : Int) out (r : Int) ((j : Int) - 1)) (lb (valn a / b), ((valn a % b : Nat) : Int)) := by
  intro j
  induction j with
  | zero =>
    intro out r _ hout uo hr hv
    rw [List.drop_zero] at hr hv
    rw [List.drop_zero] at hv
    have hsh := short_f uo (by omega)
    rw [hv] at hsh
    refine Ev_succ ?_
    refine Ev.congr (fun k => ?_) (Ev.bind (f := fun _ x => some (x, ((valn a % b : Nat) : Int))) hsh (Ev.now _))
    simp only [nat_digit.l0]
    have hrb : r < b := by rw [hr]; exact Nat.mod_lt _ hb
    have e : (r : Int) % 4294967296 = (r : Int) := by omega
    rw [if_neg (by omega), e, hr]
  | succ j ih =>
    intro out r hj hout uo hr hv
    obtain ⟨x, ex, hx⟩ := rd_nat ua (j : Int)
    have hrb : r < b := by rw [hr]; exact Nat.mod_lt _ hb
    have hd := valn_drop_rd a j
    rw [ex, Int.toNat_natCast] at hd
    have key : valn (a.drop j) = (r * 4294967296 + x) + b * (4294967296 * (valn (a.drop (j + 1)) / b)) := by
      have h1 := Nat.div_add_mod (valn (a.drop (j + 1))) b
      rw [← hr] at h1
      have h2 : b * (4294967296 * (valn (a.drop (j + 1)) / b)) = 4294967296 * (b * (valn (a.drop (j + 1)) / b)) := by ac_rfl
      rw [hd, h2]
      generalize b * (valn (a.drop (j + 1)) / b) = y at *
      omega
    have hrx : r * 4294967296 + x < b * 4294967296 := by
      have : (r + 1) * 4294967296 ≤ b * 4294967296 := Nat.mul_le_mul_right _ hrb
      omega
    have hq : (r * 4294967296 + x) / b < 4294967296 := (Nat.div_lt_iff_lt_mul hb).mpr (by rw [Nat.mul_comm 4294967296 b]; exact hrx)
    have k1 : valn (a.drop j) % b = (r * 4294967296 + x) % b := by rw [key, Nat.add_mul_mod_self_left]
    have k2 : valn (a.drop j) / b = (r * 4294967296 + x) / b + 4294967296 * (valn (a.drop (j + 1)) / b) := by rw [key, Nat.add_mul_div_left _ _ hb]
    obtain ⟨D, hD⟩ : ∃ D, (r * 4294967296 + x) / b = D := ⟨_, rfl⟩
    rw [hD] at hq k2
    have step := ih (out.set j (D : Int)) ((r * 4294967296 + x) % b) (by omega) (by rw [List.length_set]; exact hout) (U_set uo ⟨Int.natCast_nonneg _, by omega⟩ _) k1.symm (by
      rw [valn_drop_rd, rd_set_eq _ _ _ (by omega), Int.toNat_natCast, List.drop_set_of_lt (by omega), hv, k2])
    have rx64 : r * 4294967296 + x < 18446744073709551616 := by omega
    have et : Go.bits .or .u64 (IntKind.u64.wrap ((r : Int) * 4294967296)) (IntKind.u64.wrap (rd a (j : Int))) = ((r * 4294967296 + x : Nat) : Int) := by rw [ex]; exact or_rx (Nat.lt_trans hrb hb') hx
    have eb : IntKind.u64.wrap (b : Int) = (b : Int) := u64 (by omega) (by omega)
    have eD : IntKind.u64.wrap ((D : Nat) : Int) % 4294967296 = (D : Int) := by rw [u64 (by omega) (by omega)]; omega
    have ej : ((j + 1 : Nat) : Int) - 1 = (j : Int) := by omega
    have c : (j : Int) ≥ 0 ∧ (0 : Int) ≤ (j : Int) ∧ (j : Int) < (a.length : Int) ∧ ¬ ((b : Int) = 0) ∧ (j : Int) < (out.length : Int) := by omega
    have wj : wrap64 ((j : Int) - 1) = (j : Int) - 1 := w64 (by omega) (by omega)
    refine Ev_succ (Ev.congr (fun k => ?_) step)
    rw [nat_digit.l0, ej, if_pos c.1, if_pos c.2.1, if_pos c.2.2.1, eb, if_neg c.2.2.2.1, if_pos c.2.2.2.2, et, tdiv_cast, tmod_cast, hD, eD, wj, Int.toNat_natCast]
theorem digit_f {a : List Int} (ua : U a) {b : Nat} (hb : 0 < b) (hb' : b < 4294967296) (hs : a.length ≤ 100000000) : Ev (fun k => nat_digit.f k a (b : Int)) (lb (valn a / b), ((valn a % b : Nat) : Int)) := by
  have h := digit_l0 ua hb hb' hs a.length (List.replicate a.length 0) 0 (Nat.le_refl _) (by simp) (U_replicate _) (by rw [List.drop_eq_nil_of_le (Nat.le_refl _), valn_nil, Nat.zero_mod]) (by
    rw [show (List.replicate a.length (0 : Int)).drop a.length = [] from List.drop_eq_nil_of_le (by rw [List.length_replicate]; exact Nat.le_refl _), List.drop_eq_nil_of_le (Nat.le_refl _), valn_nil, Nat.zero_div])
  refine Ev.congr (fun k => ?_) h
  have c : (0 : Int) ≤ (a.length : Int) ∧ a.length ≤ 70368744177664 := by omega
  have wj : wrap64 ((a.length : Int) - 1) = (a.length : Int) - 1 := w64 (by omega) (by omega)
  unfold nat_digit.f
  rw [if_pos c.1, Int.toNat_natCast, if_pos c.2, wj]; rfl
theorem DivMod_f {a b : List Int} (ua : U a) (ub : U b) (la : a.length ≤ 1000000) (lb' : b.length ≤ 1000000) (h0 : valn b ≠ 0) :
    Ev (fun k => nat_DivMod.f k a b) (lb (valn a / valn b), lb (valn a % valn b), 0) := by
  have hsa := short_f ua (by omega)
  have hsb := short_f ub (by omega)
  have ha := lb_len ua
  have hb := lb_len ub
  generalize valn a = m at *
  generalize valn b = n at *
  have hn : (lb n).length ≠ 0 := fun h => h0 (lb_eq_nil.mp (List.length_eq_zero_iff.mp h))
  have hc := Cmp_f (U_lb m) (U_lb n) (by omega) (by omega)
  rw [valn_lb, valn_lb] at hc
  refine Ev.bind hsa (Ev.bind hsb ?_)
  have c0 : ¬ (((lb n).length : Int) = 0) := by omega
  by_cases hlt : m < n
  · have h1 : cmpn m n = -1 := by unfold cmpn; rw [if_pos hlt]
    rw [h1] at hc
    have ht := Trim_f (U_lb m) (by omega)
    rw [valn_lb] at ht
    refine Ev_neg c0 (Ev.bind hc (Ev_pos (by decide) (Ev.bind ht ?_)))
    rw [Nat.div_eq_of_lt hlt, Nat.mod_eq_of_lt hlt, lb_zero]; exact Ev.now _
  · have h1 : ¬ cmpn m n < 0 := by unfold cmpn; rw [if_neg hlt]; split <;> omega
    refine Ev_neg c0 (Ev.bind hc (Ev_neg h1 ?_))
    by_cases h2 : (lb n).length = 1
    · obtain ⟨t, et, ht⟩ := rd_nat (U_lb n) ((0 : Nat) : Int)
      have en : n = t := by
        have h3 := top_val (M := 0) h2 et
        rw [valn_lb, List.take_zero, valn_nil, pw_zero] at h3; omega
      have hd := digit_f (U_lb m) (b := t) (by omega) ht (by omega)
      rw [valn_lb, ← en] at hd
      have c2 : ((lb n).length : Int) = 1 ∧ (0 : Int) < ((lb n).length : Int) := by omega
      have et' : rd (lb n) 0 = (n : Int) := by rw [en]; rw [en] at et; exact et
      have hr : m % n < n := Nat.mod_lt _ (Nat.pos_of_ne_zero h0)
      have eo : IntKind.u64.wrap ((m % n : Nat) : Int) = ((m % n : Nat) : Int) := u64 (Int.natCast_nonneg _) (by omega)
      have ho := Of_f (m % n) (by omega)
      refine Ev_pos c2.1 (Ev_pos c2.2 ?_)
      rw [et']
      refine Ev.bind hd ?_
      rw [eo]
      exact Ev.bind ho (Ev.now _)
    · have c2 : ¬ ((lb n).length : Int) = 1 := by omega
      have hle : (lb n).length ≤ (lb m).length := by
        by_cases c : (lb n).length ≤ (lb m).length
        · exact c
        · exact absurd (len_lt_of_lt (by omega)) hlt
      have hl : nat_long.f (lb m) (lb n) = some (padn ((lb m).length + 1 - (lb n).length) (m / n), padn (lb n).length (m % n)) := by
        unfold nat_long.f
        rw [if_pos ⟨by omega, hle, by rw [← rd_getLastD]; exact rd_lb_last h0, U_lb m, U_lb n, by omega⟩, valn_lb, valn_lb]
      have hm := lt_pow_len m
      have hnl := lt_pow_len n
      have hq : m / n < pw ((lb m).length + 1 - (lb n).length) := by
        have h3 := pow_len_le h0
        have h4 : (lb m).length = ((lb n).length - 1) + ((lb m).length + 1 - (lb n).length) := by omega
        rw [h4, pw_add] at hm
        refine (Nat.div_lt_iff_lt_mul (Nat.pos_of_ne_zero h0)).mpr (Nat.lt_of_lt_of_le hm ?_)
        rw [Nat.mul_comm]; exact Nat.mul_le_mul_left _ h3
      have hr : m % n < pw (lb n).length := Nat.lt_trans (Nat.mod_lt _ (Nat.pos_of_ne_zero h0)) hnl
      have t1 := Trim_f (U_padn ((lb m).length + 1 - (lb n).length) (m / n)) (by rw [padn_len]; omega)
      have t2 := Trim_f (U_padn (lb n).length (m % n)) (by rw [padn_len]; omega)
      rw [valn_padn_lt hq] at t1
      rw [valn_padn_lt hr] at t2
      refine Ev_neg c2 ?_
      rw [hl]
      exact Ev.bind (Ev.now _) (Ev.bind t1 (Ev.bind t2 (Ev.now _)))
theorem Gcd_l0 : ∀ (n m : Nat), (lb m).length ≤ 1000000 → (lb n).length ≤ 1000000 → Ev (fun k => nat_Gcd.l0 k (lb m) (lb n)) (lb (Nat.gcd m n)) := by
  intro n
  induction n using Nat.strongRecOn with
  | _ n ih =>
    intro m hm hn
    refine Ev_succ ?_
    simp only [nat_Gcd.l0]
    by_cases h0 : n = 0
    · subst h0
      have ht := Trim_f (U_lb m) (by omega)
      rw [valn_lb] at ht
      have c : ¬ (((lb 0).length : Int) > 0) := by rw [lb_zero]; decide
      rw [Nat.gcd_zero_right]
      exact Ev_neg c (Ev.bind ht (Ev.now _))
    · have hl : (lb n).length ≠ 0 := fun h => h0 (lb_eq_nil.mp (List.length_eq_zero_iff.mp h))
      have c : ((lb n).length : Int) > 0 := by omega
      have hd := DivMod_f (U_lb m) (U_lb n) hm hn (by rw [valn_lb]; exact h0)
      rw [valn_lb, valn_lb] at hd
      have hr : m % n < n := Nat.mod_lt _ (Nat.pos_of_ne_zero h0)
      have hlr : (lb (m % n)).length ≤ 1000000 := Nat.le_trans (lb_len_le (Nat.lt_trans hr (lt_pow_len n))) hn
      refine Ev_pos c (Ev.bind hd ?_)
      rw [Nat.gcd_comm, Nat.gcd_rec, Nat.gcd_comm]
      exact ih (m % n) hr n hn hlr
theorem Gcd_f {a b : List Int} (ua : U a) (ub : U b) (la : a.length ≤ 1000000) (lb' : b.length ≤ 1000000) : Ev (fun k => nat_Gcd.f k a b) (lb (Nat.gcd (valn a) (valn b))) :=
  Ev.bind (short_f ua (by omega)) (Ev.bind (short_f ub (by omega)) (Gcd_l0 _ _ (Nat.le_trans (lb_len ua) la) (Nat.le_trans (lb_len ub) lb')))
end Go.Proofs.Ytecfdemglbfnoaa.Num
end
section
namespace Go.Proofs.Ytecfdemglbfnoaa.Num
open Go.RowKit Go.Proofs.Ytecfdemglbfnoaa.PT Go.Proofs.YtecfdemglbfnoaaW.PrintWords Go.Proofs.YtecfdemglbfnoaaW.PrintLast Go.Proofs.YtecfdemglbfnoaaW.PrintMore
theorem Ev_as {α : Type} {g : Nat → Option α} {a b : α} (h : Ev g a) (e : a = b) : Ev g b := e ▸ h
theorem lb_len_zero {n : Nat} : (lb n).length = 0 ↔ n = 0 := by rw [List.length_eq_zero_iff, lb_eq_nil]
theorem rZero_f {l : List Int} (ul : U l) (hl : l.length < 35184372088832) : Ev (fun k => codewrightref01_Zero.f k l) (decide (valn l = 0)) := by
  refine Ev.bind (rTrim_f ul hl) (Ev_as (Ev.now _) ?_)
  by_cases h : valn l = 0
  · rw [h, lb_zero]; rfl
  · rw [decide_eq_false h]
    have := mt lb_len_zero.mp h
    exact beq_eq_false_iff_ne.mpr (by omega)
theorem snoc_val (z : List Int) (d : Int) : valn (z ++ [d]) = valn z + pw z.length * d.toNat := by
  rw [valn_append, valn_cons, valn_nil]; simp
theorem U_snoc {z : List Int} (uz : U z) {d : Int} (h : 0 ≤ d ∧ d < 4294967296) : U (z ++ [d]) := U_append uz (U_cons h U_nil)
theorem sub_num {x y c : Nat} (hx : x < 4294967296) (hy : y < 4294967296) (hc : c ≤ 1) :
    ∃ d h : Nat, d < 4294967296 ∧ h ≤ 1 ∧ x + 4294967296 * h = d + y + c ∧
      Int.tmod (IntKind.u64.wrap (IntKind.u64.wrap (IntKind.u64.wrap ((x : Int) + 4294967296) - (y : Int)) - (c : Int))) 4294967296 % 4294967296 = (d : Int) ∧
      IntKind.u64.wrap (1 - IntKind.u64.wrap (Int.tdiv (IntKind.u64.wrap (IntKind.u64.wrap (IntKind.u64.wrap ((x : Int) + 4294967296) - (y : Int)) - (c : Int))) 4294967296)) = (h : Int) := by
  have e1 : (x : Int) + 4294967296 = ((x + 4294967296 : Nat) : Int) := by omega
  have e2 : ((x + 4294967296 : Nat) : Int) - (y : Int) = ((x + 4294967296 - y : Nat) : Int) := by omega
  have e3 : ((x + 4294967296 - y : Nat) : Int) - (c : Int) = ((x + 4294967296 - y - c : Nat) : Int) := by omega
  have w1 : IntKind.u64.wrap ((x + 4294967296 : Nat) : Int) = ((x + 4294967296 : Nat) : Int) ∧ IntKind.u64.wrap ((x + 4294967296 - y : Nat) : Int) = ((x + 4294967296 - y : Nat) : Int) ∧ IntKind.u64.wrap ((x + 4294967296 - y - c : Nat) : Int) = ((x + 4294967296 - y - c : Nat) : Int) :=
    ⟨u64 (by omega) (by omega), u64 (by omega) (by omega), u64 (by omega) (by omega)⟩
  rw [e1, w1.1, e2, w1.2.1, e3, w1.2.2, tmod_nat, tdiv_nat]
  obtain ⟨s, hs⟩ : ∃ s, x + 4294967296 - y - c = s := ⟨_, rfl⟩
  rw [hs]
  clear w1 e1 e2 e3
  have b1 : s / 4294967296 ≤ 1 := by omega
  have w2 : IntKind.u64.wrap ((s / 4294967296 : Nat) : Int) = ((s / 4294967296 : Nat) : Int) ∧ IntKind.u64.wrap ((1 - s / 4294967296 : Nat) : Int) = ((1 - s / 4294967296 : Nat) : Int) := ⟨u64 (by omega) (by omega), u64 (by omega) (by omega)⟩
  have e4 : (1 : Int) - ((s / 4294967296 : Nat) : Int) = ((1 - s / 4294967296 : Nat) : Int) := by omega
  refine ⟨s % 4294967296, 1 - s / 4294967296, by omega, by omega, by omega, by omega, ?_⟩
  rw [w2.1, e4, w2.2]
theorem rSub_l0 {a b : List Int} (ua : U a) (ub : U b) (hs : a.length ≤ 100000000) (hle : valn b ≤ valn a) (n : Nat) : ∀ (i : Nat) (z : List Int) (c : Nat), i + n = a.length → z.length = i → U z → c ≤ 1 →
    valn (a.take i) + pw i * c = valn z + valn (b.take i) → Ev (fun k => codewrightref01_Sub.l0 k a b z (c : Int) (i : Int)) (lb (valn a - valn b)) := by
  induction n with
  | zero =>
    intro i z c hi hz uz hc hv
    obtain rfl : i = a.length := by omega
    have hzl := valn_lt uz
    rw [hz] at hzl
    have va := valn_lt ua
    rw [List.take_of_length_le (Nat.le_refl _)] at hv
    have hb : valn (b.take a.length) = valn b := by
      have h1 := valn_splitD b a.length
      rcases Nat.eq_zero_or_pos (valn (b.drop a.length)) with h | h
      · rw [h] at h1; omega
      · exfalso
        have := Nat.mul_le_mul_left (pw a.length) h
        omega
    rw [hb] at hv
    have key : valn z = valn a - valn b := by
      rcases Nat.eq_zero_or_pos c with h | h
      · subst h; omega
      · obtain rfl : c = 1 := by omega
        omega
    have ht := rTrim_f uz (by omega)
    rw [key] at ht
    have c1 : ¬ ((a.length : Int) < (a.length : Int)) := by omega
    refine Ev_succ ?_
    simp only [codewrightref01_Sub.l0]
    exact Ev_neg c1 (Ev.bind ht (Ev.now _))
  | succ n ih =>
    intro i z c hi hz uz hc hv
    obtain ⟨x, ex, hx⟩ := rd_nat ua (i : Int)
    obtain ⟨y, ey, hy⟩ := rd_nat ub (i : Int)
    obtain ⟨d, h, hd, hh, heq, e1, e2⟩ := sub_num hx hy hc
    have step := ih (i + 1) (z ++ [(d : Int)]) h (by omega) (by simp [hz]) (U_snoc uz (by omega)) hh (by
      rw [snoc_val, hz, valn_take_succ, valn_take_succ, ex, ey, Int.toNat_natCast, Int.toNat_natCast, Int.toNat_natCast, pw_succ]
      have h3 : pw i * (x + 4294967296 * h) = pw i * (d + y + c) := by rw [heq]
      rw [Nat.mul_add, Nat.mul_add, Nat.mul_add, ← Nat.mul_assoc] at h3
      omega)
    have c1 : (i : Int) < (a.length : Int) ∧ z.length < 35184372088832 := by omega
    have wi : wrap64 ((i : Int) + 1) = ((i + 1 : Nat) : Int) := up i (by omega)
    refine Ev_succ ?_
    simp only [codewrightref01_Sub.l0, limb_f ua, limb_f ub, Option.bind_some]
    refine Ev_pos c1.1 (Ev_pos c1.2 ?_)
    rw [ex, ey, e1, e2, wi]; exact step
theorem rSub_f {a b : List Int} (ua : U a) (ub : U b) (hs : a.length ≤ 100000000) (hle : valn b ≤ valn a) : Ev (fun k => codewrightref01_Sub.f k a b) (lb (valn a - valn b)) :=
  rSub_l0 ua ub hs hle a.length 0 [] 0 (by omega) rfl U_nil (by omega) (by rw [List.take_zero, List.take_zero, Nat.mul_zero, valn_nil])
theorem sz_half {x : Nat} (h : x ≠ 0) : sz x = sz (x / 2) + 1 := by
  by_cases h1 : x / 2 = 0
  · obtain rfl : x = 1 := by omega
    rfl
  · rw [sz_div (n := x) (k := 1) h1]; exact Nat.add_comm _ _
theorem rBits_l0 (n : Nat) : ∀ (x s : Nat), x < 2 ^ n → n ≤ 32 → s + n ≤ 200000000000 → Ev (fun k => codewrightref01_Bits.l0 k (s : Int) (x : Int)) ((s + sz x : Nat) : Int) := by
  induction n with
  | zero =>
    intro x s hx _ _
    obtain rfl : x = 0 := by omega
    refine Ev_succ ?_
    simp only [codewrightref01_Bits.l0]
    exact Ev_neg (by omega) (Ev.now _)
  | succ n ih =>
    intro x s hx hn hs
    by_cases h0 : x = 0
    · subst h0
      refine Ev_succ ?_
      simp only [codewrightref01_Bits.l0]
      exact Ev_neg (by omega) (Ev.now _)
    · have hp : 2 ^ (n + 1) = 2 ^ n * 2 := Nat.pow_succ ..
      have h32 : 2 ^ (n + 1) ≤ 2 ^ 32 := Nat.pow_le_pow_right (by decide) hn
      have hx32 : x < 4294967296 := Nat.lt_of_lt_of_le hx h32
      have hx2 : x / 2 < 2 ^ n := by
        rw [hp] at hx
        exact (Nat.div_lt_iff_lt_mul (by decide)).mpr hx
      clear hp h32 hx
      have step := ih (x / 2) (s + 1) hx2 (by omega) (by clear hx2; omega)
      clear hx2
      have e : Int.tdiv (x : Int) 2 % 4294967296 = ((x / 2 : Nat) : Int) := by
        rw [show Int.tdiv (x : Int) 2 = ((x / 2 : Nat) : Int) from rfl]; omega
      have hz := sz_half h0
      refine Ev_succ ?_
      simp only [codewrightref01_Bits.l0]
      refine Ev_pos (by omega) ?_
      rw [e, up s (by omega), hz, show s + (sz (x / 2) + 1) = s + 1 + sz (x / 2) from by omega]
      exact step
theorem rBits_f {l : List Int} (ul : U l) (hl : l.length ≤ 100000000) : Ev (fun k => codewrightref01_Bits.f k l) ((sz (valn l) : Nat) : Int) := by
  have hs := rTrim_f ul (by omega)
  have hL := lb_len ul
  generalize valn l = v at *
  by_cases h0 : v = 0
  · subst h0
    rw [lb_zero] at hs
    exact Ev.bind hs (Ev.now _)
  · obtain ⟨M, hM⟩ : ∃ M, (lb v).length = M + 1 := ⟨(lb v).length - 1, by
      have : (lb v).length ≠ 0 := fun h => h0 (lb_len_zero.mp h)
      omega⟩
    obtain ⟨t, et, ht⟩ := rd_nat (U_lb v) (M : Int)
    have hz := sz_lb hM et h0
    have c : ¬ (((M + 1 : Nat) : Int) = 0) ∧ (0 : Int) ≤ (M : Int) ∧ (M : Int) < ((M + 1 : Nat) : Int) ∧ M < 9223372036854775807 ∧ (32 : Int) * (M : Int) = ((32 * M : Nat) : Int) ∧ 32 * M + 32 ≤ 200000000000 := by omega
    have w1 : wrap64 ((32 * M : Nat) : Int) = ((32 * M : Nat) : Int) := w64 (by omega) (by omega)
    have hb := rBits_l0 32 t (32 * M) ht (by omega) c.2.2.2.2.2
    rw [← hz] at hb
    refine Ev.bind hs ?_
    rw [hM, dn M c.2.2.2.1, c.2.2.2.2.1, w1, et]
    exact Ev_neg c.1 (Ev_pos c.2.1 (Ev_pos c.2.2.1 hb))
theorem shl_num {x r c : Nat} (hx : x < 4294967296) (hr : r ≤ 31) (hc : c < 2 ^ r) :
    ∃ d h : Nat, d < 4294967296 ∧ h < 2 ^ r ∧ x * 2 ^ r + c = d + 4294967296 * h ∧
      Int.tmod (IntKind.u64.wrap (shl .u64 (IntKind.u64.wrap (x : Int)) (r : Int) + (c : Int))) 4294967296 % 4294967296 = (d : Int) ∧
      IntKind.u64.wrap (Int.tdiv (IntKind.u64.wrap (shl .u64 (IntKind.u64.wrap (x : Int)) (r : Int) + (c : Int))) 4294967296) = (h : Int) := by
  have hp : 2 ^ r ≤ 2 ^ 31 := Nat.pow_le_pow_right (by decide) hr
  have hxp : x * 2 ^ r + 2 ^ r ≤ 4294967296 * 2 ^ r := by
    have : (x + 1) * 2 ^ r ≤ 4294967296 * 2 ^ r := Nat.mul_le_mul_right _ hx
    rwa [Nat.add_mul, Nat.one_mul] at this
  have e1 : IntKind.u64.wrap (x : Int) = (x : Int) := u64 (by omega) (by omega)
  rw [e1, shl64 x r hx hr]
  clear e1
  obtain ⟨y, hy⟩ : ∃ y, x * 2 ^ r = y := ⟨_, rfl⟩
  obtain ⟨q, hq⟩ : ∃ q, 2 ^ r = q := ⟨_, rfl⟩
  rw [hy, hq] at hxp
  rw [hq] at hp hc
  rw [hy, hq]
  clear hy hq
  have e2 : (y : Int) + (c : Int) = ((y + c : Nat) : Int) := by omega
  have b2 : y + c < 18446744073709551616 := by omega
  obtain ⟨s, hs⟩ : ∃ s, y + c = s := ⟨_, rfl⟩
  rw [hs] at e2 b2
  have e3 : IntKind.u64.wrap (s : Int) = (s : Int) ∧ IntKind.u64.wrap ((s / 4294967296 : Nat) : Int) = ((s / 4294967296 : Nat) : Int) := ⟨u64 (by omega) (by omega), u64 (by omega) (by omega)⟩
  rw [e2, e3.1, tmod_nat, tdiv_nat, e3.2]
  clear e3 e2
  exact ⟨s % 4294967296, s / 4294967296, by omega, by omega, by omega, by omega, rfl⟩
theorem rshift_l0 {a : List Int} (ua : U a) (hs : a.length ≤ 100000000) (m r : Nat) (hm : m ≤ 100000000) (hr : r ≤ 31) (n : Nat) : ∀ (i : Nat) (z : List Int) (c : Nat), i + n = a.length → z.length = m + i → U z → c < 2 ^ r →
    valn z + pw (m + i) * c = valn (a.take i) * (pw m * 2 ^ r) → Ev (fun k => codewrightref01_shift.l0 k a ((32 * m + r : Nat) : Int) z (c : Int) (i : Int)) (lb (valn a * (pw m * 2 ^ r))) := by
  have et : Int.tmod ((32 * m + r : Nat) : Int) 32 = (r : Int) := by
    rw [show Int.tmod ((32 * m + r : Nat) : Int) 32 = (((32 * m + r) % 32 : Nat) : Int) from rfl]; omega
  have hp : 2 ^ r ≤ 2 ^ 31 := Nat.pow_le_pow_right (by decide) hr
  induction n with
  | zero =>
    intro i z c hi hz uz hc hv
    obtain rfl : i = a.length := by omega
    rw [List.take_of_length_le (Nat.le_refl _)] at hv
    have hc4 : c < 4294967296 := by omega
    have ht := rTrim_f (U_snoc uz (d := (c : Int)) (by omega)) (by rw [List.length_append, hz]; simp only [List.length_cons, List.length_nil]; omega)
    rw [snoc_val, hz, Int.toNat_natCast, hv] at ht
    have c1 : ¬ ((a.length : Int) < (a.length : Int)) ∧ z.length < 35184372088832 ∧ (c : Int) % 4294967296 = (c : Int) := by omega
    refine Ev_succ ?_
    simp only [codewrightref01_shift.l0]
    refine Ev_neg c1.1 (Ev_pos c1.2.1 ?_)
    rw [c1.2.2]
    exact Ev.bind ht (Ev.now _)
  | succ n ih =>
    intro i z c hi hz uz hc hv
    obtain ⟨x, ex, hx⟩ := rd_nat ua (i : Int)
    obtain ⟨d, h, hd, hh, heq, e1, e2⟩ := shl_num hx hr hc
    have step := ih (i + 1) (z ++ [(d : Int)]) h (by omega) (by simp [hz]; omega) (U_snoc uz (by omega)) hh (by
      rw [snoc_val, hz, valn_take_succ, ex, Int.toNat_natCast, Int.toNat_natCast, ← Nat.add_assoc, pw_succ, Nat.add_mul, ← hv]
      have h3 : pw (m + i) * (x * 2 ^ r + c) = pw (m + i) * (d + 4294967296 * h) := by rw [heq]
      rw [Nat.mul_add, Nat.mul_add, ← Nat.mul_assoc (pw (m + i)) 4294967296] at h3
      have h4 : pw i * x * (pw m * 2 ^ r) = pw (m + i) * (x * 2 ^ r) := by rw [pw_add]; ac_rfl
      rw [h4]
      omega)
    have c1 : (i : Int) < (a.length : Int) ∧ (0 : Int) ≤ (i : Int) ∧ (0 : Int) ≤ (r : Int) ∧ z.length < 35184372088832 := by
      clear hv hh heq hp hc
      omega
    have wi : wrap64 ((i : Int) + 1) = ((i + 1 : Nat) : Int) := up i (by clear hv hh heq hp hc; omega)
    refine Ev_succ ?_
    simp only [codewrightref01_shift.l0, et]
    refine Ev_pos c1.1 (Ev_pos c1.2.1 (Ev_pos c1.2.2.1 (Ev_pos c1.2.2.2 ?_)))
    rw [ex, e1, e2, wi]; exact step
theorem rshift_f {a : List Int} (ua : U a) (hs : a.length ≤ 100000000) (n : Nat) (hn : n ≤ 3200000000) : Ev (fun k => codewrightref01_shift.f k a (n : Int)) (lb (valn a * 2 ^ n)) := by
  obtain ⟨m, r, hr, e⟩ : ∃ m r, r ≤ 31 ∧ n = 32 * m + r := ⟨n / 32, n % 32, by omega, by omega⟩
  subst e
  have h := rshift_l0 ua hs m r (by omega) hr a.length 0 (List.replicate m 0) 0 (by omega) (by simp) (U_replicate _) (Nat.two_pow_pos r) (by rw [valn_replicate, List.take_zero, valn_nil, Nat.mul_zero, Nat.zero_mul])
  rw [two_pw, ← Nat.pow_add] at h
  have ed : Int.tdiv ((32 * m + r : Nat) : Int) 32 = (m : Int) := by
    rw [show Int.tdiv ((32 * m + r : Nat) : Int) 32 = (((32 * m + r) / 32 : Nat) : Int) from rfl]; omega
  have wm : wrap64 (m : Int) = (m : Int) := w64 (by omega) (by omega)
  have c : (0 : Int) ≤ (m : Int) ∧ m ≤ 70368744177664 := by omega
  refine Ev.congr (fun k => ?_) h
  unfold codewrightref01_shift.f
  rw [ed, wm, if_pos c.1, Int.toNat_natCast, if_pos c.2]; rfl
end Go.Proofs.Ytecfdemglbfnoaa.Num
end
section
namespace Go.Proofs.Ytecfdemglbfnoaa.Num
open Go.RowKit Go.Proofs.Ytecfdemglbfnoaa.PT Go.Proofs.YtecfdemglbfnoaaW.PrintWords Go.Proofs.YtecfdemglbfnoaaW.PrintLast Go.Proofs.YtecfdemglbfnoaaW.PrintMore
theorem pow_lt_pw {n m : Nat} (h : n < 32 * m) : 2 ^ n < pw m := by rw [two_pw]; exact (Nat.pow_lt_pow_iff_right (by decide)).mpr h
theorem sz_le_pw {x m : Nat} (h : x < pw m) : sz x ≤ 32 * m := sz_le (by rw [← two_pw]; exact h)
/-- The loop of the specification's division: the divisor, shifted, is taken off from the greatest shift on. -/
theorem rDiv_l0 {b : List Int} (ub : U b) (hb0 : valn b ≠ 0) (L S : Nat) (hL : L ≤ 1000000) (lb' : b.length ≤ L) (hS : S < pw L) : ∀ (i Q R : Nat), i ≤ 32 * L → S = Q * valn b + R → R < valn b * 2 ^ i →
    Ev (fun k => codewrightref01_DivMod.l0 k b (lb Q) (lb R) ((i : Int) - 1)) (lb (S / valn b), lb (S % valn b)) := by
  have hvb := Nat.pos_of_ne_zero hb0
  intro i
  induction i with
  | zero =>
    intro Q R _ hQ hR
    rw [Nat.pow_zero, Nat.mul_one] at hR
    have hq := quo_of (u := S) (v := valn b) (q := Q) (by omega) (by omega)
    have hr : S % valn b = R := by rw [hq.2]; omega
    have hQS : Q ≤ S := by
      have : Q * 1 ≤ Q * valn b := Nat.mul_le_mul_left _ hvb
      omega
    have hlQ := lb_len_le (Nat.lt_of_le_of_lt hQS hS)
    have ht := rTrim_f (U_lb Q) (by omega)
    rw [valn_lb] at ht
    rw [hq.1, hr]
    refine Ev_succ ?_
    simp only [codewrightref01_DivMod.l0]
    exact Ev_neg (by omega) (Ev.bind ht (Ev.now _))
  | succ i ih =>
    intro Q R hi hQ hR
    have hQS : Q ≤ S := by
      have : Q * 1 ≤ Q * valn b := Nat.mul_le_mul_left _ hvb
      omega
    have hRS : R ≤ S := by omega
    have hlQ := lb_len_le (Nat.lt_of_le_of_lt hQS hS)
    have hlR := lb_len_le (Nat.lt_of_le_of_lt hRS hS)
    have hsh := rshift_f ub (by omega) i (by omega)
    have htb : valn b * 2 ^ i < pw (2 * L + 1) := by
      have h1 : 2 ^ i < pw (L + 1) := pow_lt_pw (by omega)
      have h2 := Nat.lt_of_lt_of_le (valn_lt ub) (pw_mono lb')
      rw [show 2 * L + 1 = L + (L + 1) from by omega, pw_add]
      exact Nat.mul_lt_mul'' h2 h1
    have hlt := lb_len_le htb
    have hc := rCmp_f (U_lb R) (U_lb (valn b * 2 ^ i)) (by omega) (by omega)
    have h1s := rshift_f (a := [1]) (U_cons (by decide) U_nil) (by simp) i (by omega)
    have hone : valn [1] * 2 ^ i = 2 ^ i := by rw [show valn [1] = 1 from rfl, Nat.one_mul]
    rw [hone] at h1s
    have hp2 : R < valn b * 2 ^ i * 2 := by rw [Nat.mul_assoc, ← Nat.pow_succ]; exact hR
    rw [valn_lb, valn_lb] at hc
    have ci : ((i + 1 : Nat) : Int) - 1 = (i : Int) ∧ (i : Int) ≥ 0 := by omega
    have wi : wrap64 ((i : Int) - 1) = (i : Int) - 1 := w64 (by omega) (by omega)
    obtain ⟨T, hT⟩ : ∃ T, valn b * 2 ^ i = T := ⟨_, rfl⟩
    have h1l : (lb (2 ^ i)).length ≤ L + 1 := lb_len_le (pow_lt_pw (by omega))
    refine Ev_succ ?_
    simp only [codewrightref01_DivMod.l0, ci.1]
    refine Ev_pos ci.2 (Ev.bind hsh (Ev.bind hc ?_))
    rw [wi]
    rw [hT] at hp2 ⊢
    by_cases hge : T ≤ R
    · have c1 : cmpn R T ≥ 0 := by unfold cmpn; rw [if_neg (by omega)]; split <;> omega
      have hsub := rSub_f (U_lb R) (U_lb T) (by omega) (by rw [valn_lb, valn_lb]; exact hge)
      have hadd := rAdd_f (U_lb Q) (U_lb (2 ^ i)) (by omega) (by omega)
      rw [valn_lb, valn_lb] at hsub hadd
      refine Ev_pos c1 (Ev.bind hsub (Ev.bind h1s (Ev.bind hadd ?_)))
      refine ih (Q + 2 ^ i) (R - T) (by omega) ?_ (by rw [hT]; omega)
      rw [Nat.add_mul, Nat.mul_comm (2 ^ i), hT]; omega
    · have c1 : ¬ cmpn R T ≥ 0 := by unfold cmpn; rw [if_pos (by omega)]; decide
      refine Ev_neg c1 (ih Q R (by omega) hQ (by rw [hT]; omega))
theorem rDivMod_f {a b : List Int} (ua : U a) (ub : U b) (la : a.length ≤ 1000000) (lb' : b.length ≤ 1000000) (h0 : valn b ≠ 0) :
    Ev (fun k => codewrightref01_DivMod.f k a b) (lb (valn a / valn b), lb (valn a % valn b)) := by
  have ht := rTrim_f ua (by omega)
  have ha := rBits_f ua (by omega)
  have hb := rBits_f ub (by omega)
  have hS := Nat.lt_of_lt_of_le (valn_lt ua) (pw_mono la)
  have hB := Nat.lt_of_lt_of_le (valn_lt ub) (pw_mono lb')
  have sa := sz_le_pw hS
  have sb := sz_le_pw hB
  have s1 := sz_pos h0
  refine Ev.bind ht (Ev.bind ha (Ev.bind hb ?_))
  by_cases c : sz (valn b) ≤ sz (valn a)
  · have e : ((sz (valn a) : Nat) : Int) - ((sz (valn b) : Nat) : Int) = ((sz (valn a) - sz (valn b) + 1 : Nat) : Int) - 1 := by omega
    have w : wrap64 (((sz (valn a) - sz (valn b) + 1 : Nat) : Int) - 1) = ((sz (valn a) - sz (valn b) + 1 : Nat) : Int) - 1 := w64 (by omega) (by omega)
    have hlt : valn a < valn b * 2 ^ (sz (valn a) - sz (valn b) + 1) := by
      have h1 := lt_sz (valn a)
      have h2 := (sz_spec h0).1
      have h3 : 2 ^ sz (valn a) = 2 ^ (sz (valn b) - 1) * 2 ^ (sz (valn a) - sz (valn b) + 1) := by rw [← Nat.pow_add]; congr 1; omega
      rw [h3] at h1
      exact Nat.lt_of_lt_of_le h1 (Nat.mul_le_mul_right _ h2)
    have hm := rDiv_l0 ub h0 1000000 (valn a) (by omega) lb' hS (sz (valn a) - sz (valn b) + 1) 0 (valn a) (by omega) (by omega) hlt
    rw [lb_zero] at hm
    rw [e, w]; exact hm
  · have e : wrap64 (((sz (valn a) : Nat) : Int) - ((sz (valn b) : Nat) : Int)) = ((sz (valn a) : Nat) : Int) - ((sz (valn b) : Nat) : Int) := w64 (by omega) (by omega)
    have c1 : ¬ ((sz (valn a) : Nat) : Int) - ((sz (valn b) : Nat) : Int) ≥ 0 := by omega
    have hlt : valn a < valn b := by
      by_cases h : valn a < valn b
      · exact h
      · exfalso
        have h1 := (sz_spec h0).1
        have h2 : 2 ^ sz (valn a) ≤ 2 ^ (sz (valn b) - 1) := Nat.pow_le_pow_right (by decide) (by omega)
        have h3 := lt_sz (valn a)
        omega
    have ht0 := rTrim_f U_nil (by simp)
    rw [valn_nil, lb_zero] at ht0
    rw [e, Nat.div_eq_of_lt hlt, Nat.mod_eq_of_lt hlt, lb_zero]
    refine Ev_succ ?_
    simp only [codewrightref01_DivMod.l0]
    exact Ev_neg c1 (Ev.bind ht0 (Ev.now _))
theorem rGcd_f : ∀ (n : Nat) {a b : List Int}, valn b = n → U a → U b → a.length ≤ 1000000 → b.length ≤ 1000000 → Ev (fun k => codewrightref01_Gcd.l0 k a b) (lb (Nat.gcd (valn a) (valn b))) := by
  intro n
  induction n using Nat.strongRecOn with
  | _ n ih =>
    intro a b hn ua ub la lb'
    have hz := rZero_f ub (by omega)
    refine Ev_succ ?_
    simp only [codewrightref01_Gcd.l0]
    by_cases h0 : valn b = 0
    · have ht := rTrim_f ua (by omega)
      rw [decide_eq_true h0] at hz
      rw [h0, Nat.gcd_zero_right]
      exact Ev.bind hz (Ev_pos rfl (Ev.bind ht (Ev.now _)))
    · have hd := rDivMod_f ua ub la lb' h0
      rw [decide_eq_false h0] at hz
      have hr : valn a % valn b < valn b := Nat.mod_lt _ (Nat.pos_of_ne_zero h0)
      refine Ev.bind hz (Ev_neg (by decide) (Ev.bind hd ?_))
      have := ih (valn a % valn b) (by omega) (a := b) (b := lb (valn a % valn b)) (valn_lb _) ub (U_lb _) lb' (Nat.le_trans (lb_len_le (Nat.lt_trans hr (valn_lt ub))) lb')
      rw [valn_lb] at this
      rw [Nat.gcd_comm, Nat.gcd_rec, Nat.gcd_comm]
      exact this
theorem rGcd_f' {a b : List Int} (ua : U a) (ub : U b) (la : a.length ≤ 1000000) (lb' : b.length ≤ 1000000) : Ev (fun k => codewrightref01_Gcd.f k a b) (lb (Nat.gcd (valn a) (valn b))) := rGcd_f _ rfl ua ub la lb'
end Go.Proofs.Ytecfdemglbfnoaa.Num
end
section
namespace Go.Proofs.Ytecfdemglbfnoaa.Num
open Go.RowKit Go.Proofs.Ytecfdemglbfnoaa.PT Go.Proofs.YtecfdemglbfnoaaW.PrintWords Go.Proofs.YtecfdemglbfnoaaW.PrintLast Go.Proofs.YtecfdemglbfnoaaW.PrintMore
theorem sz_eq_zero {n : Nat} : sz n = 0 ↔ n = 0 := by
  constructor
  · intro h
    by_cases c : n = 0
    · exact c
    · have := sz_pos c; omega
  · intro h; subst h; rfl
theorem rep_rv {neg : Bool} {n d : List Int} (hn : valn n ≠ 0) (hd : valn d ≠ 0) : rep (rv neg n d) = (neg, lb (valn n / Nat.gcd (valn n) (valn d)), lb (valn d / Nat.gcd (valn n) (valn d))) := rep_mkRat neg hn hd
theorem gcd_lb {n d : List Int} (un : U n) (ln : n.length ≤ 1000000) (hn : valn n ≠ 0) : (lb (Nat.gcd (valn n) (valn d))).length ≤ 1000000 ∧ Nat.gcd (valn n) (valn d) ≠ 0 :=
  ⟨Nat.le_trans (lb_len_le (Nat.lt_of_le_of_lt (Nat.le_of_dvd (Nat.pos_of_ne_zero hn) (Nat.gcd_dvd_left _ _)) (valn_lt un))) ln, Nat.ne_of_gt (Nat.gcd_pos_of_pos_left _ (Nat.pos_of_ne_zero hn))⟩
theorem canonical_j {neg : Bool} {n d : List Int} (un : U n) (ud : U d) (ln : n.length ≤ 1000000) (ld : d.length ≤ 1000000) (b : Bool) (hb : b = true ↔ valn n = 0 ∨ valn d = 0) :
    Ev (fun k => rational_canonical.j0 k neg n d b) (rep (rv neg n d)) := by
  refine Ev_succ ?_
  simp only [rational_canonical.j0]
  cases b with
  | true =>
    have h : rv neg n d = 0 := by
      rcases hb.mp rfl with h | h
      · exact rv_zero_num neg h
      · exact rv_zero_den neg h
    rw [h, rep_zero]
    exact Ev_pos rfl (Ev.bind (Ev.now _) (Ev.now _))
  | false =>
    have hn : valn n ≠ 0 := fun h => absurd (hb.mpr (.inl h)) (by decide)
    have hd : valn d ≠ 0 := fun h => absurd (hb.mpr (.inr h)) (by decide)
    obtain ⟨hg, hg0⟩ := gcd_lb un ln hn
    have h1 := Gcd_f un ud ln ld
    have h2 := DivMod_f un (U_lb (Nat.gcd (valn n) (valn d))) ln hg (by rw [valn_lb]; exact hg0)
    have h3 := DivMod_f ud (U_lb (Nat.gcd (valn n) (valn d))) ld hg (by rw [valn_lb]; exact hg0)
    rw [valn_lb] at h2 h3
    rw [rep_rv hn hd]
    exact Ev_neg (by decide) (Ev.bind h1 (Ev.bind h2 (Ev.bind h3 (Ev.now _))))
theorem canonical_f {neg : Bool} {n d : List Int} (un : U n) (ud : U d) (ln : n.length ≤ 1000000) (ld : d.length ≤ 1000000) :
    Ev (fun k => rational_canonical.f k neg n d) (rep (rv neg n d)) := by
  have b1 := Bits_f un (by omega)
  have b2 := Bits_f ud (by omega)
  refine Ev.bind b1 ?_
  by_cases h1 : valn n = 0
  · exact Ev_pos (by rw [h1]; rfl) (canonical_j un ud ln ld true ⟨fun _ => .inl h1, fun _ => rfl⟩)
  · have hz : ((sz (valn n) : Nat) : Int) ≠ 0 := fun h => h1 (sz_eq_zero.mp (Int.ofNat_eq_zero.mp h))
    refine Ev_neg hz (Ev.bind b2 (canonical_j un ud ln ld _ ?_))
    constructor
    · intro h
      exact .inr (sz_eq_zero.mp (Int.ofNat_eq_zero.mp (beq_iff_eq.mp h)))
    · intro h
      rcases h with h | h
      · exact absurd h h1
      · rw [h]; rfl
theorem Make_j {neg : Bool} {n d : List Int} (un : U n) (ud : U d) (ln : n.length ≤ 1000000) (ld : d.length ≤ 1000000) (b : Bool) (hb : b = true ↔ valn n = 0 ∨ valn d = 0) :
    Ev (fun k => codewrightref02_Make.j0 k neg n d b) (rep (rv neg n d)) := by
  refine Ev_succ ?_
  simp only [codewrightref02_Make.j0]
  cases b with
  | true =>
    have h : rv neg n d = 0 := by
      rcases hb.mp rfl with h | h
      · exact rv_zero_num neg h
      · exact rv_zero_den neg h
    rw [h, rep_zero]
    exact Ev_pos rfl (Ev.now _)
  | false =>
    have hn : valn n ≠ 0 := fun h => absurd (hb.mpr (.inl h)) (by decide)
    have hd : valn d ≠ 0 := fun h => absurd (hb.mpr (.inr h)) (by decide)
    obtain ⟨hg, hg0⟩ := gcd_lb un ln hn
    have h1 := rGcd_f' un ud ln ld
    have h2 := rDivMod_f un (U_lb (Nat.gcd (valn n) (valn d))) ln hg (by rw [valn_lb]; exact hg0)
    have h3 := rDivMod_f ud (U_lb (Nat.gcd (valn n) (valn d))) ld hg (by rw [valn_lb]; exact hg0)
    rw [valn_lb] at h2 h3
    rw [rep_rv hn hd]
    exact Ev_neg (by decide) (Ev.bind h1 (Ev.bind h2 (Ev.bind h3 (Ev.now _))))
theorem Make_f {neg : Bool} {n d : List Int} (un : U n) (ud : U d) (ln : n.length ≤ 1000000) (ld : d.length ≤ 1000000) :
    Ev (fun k => codewrightref02_Make.f k neg n d) (rep (rv neg n d)) := by
  have b1 := rZero_f un (by omega)
  have b2 := rZero_f ud (by omega)
  refine Ev.bind b1 ?_
  by_cases h1 : valn n = 0
  · exact Ev_pos (decide_eq_true h1) (Make_j un ud ln ld true ⟨fun _ => .inl h1, fun _ => rfl⟩)
  · refine Ev_neg (by rw [decide_eq_false h1]; decide) (Ev.bind b2 (Make_j un ud ln ld _ ?_))
    rw [decide_eq_true_iff]
    exact ⟨.inr, fun h => h.elim (fun h => absurd h h1) id⟩
end Go.Proofs.Ytecfdemglbfnoaa.Num
end
section
namespace Go.Proofs.Ytecfdemglbfnoaa.PT
open Go.RowKit Go.Proofs.YtecfdemglbfnoaaW.PrintWords Go.Proofs.YtecfdemglbfnoaaW.PrintLast Go.Proofs.YtecfdemglbfnoaaW.PrintMore
attribute [local go_sem] max2_int min2_int max_two min_two max_three min_three max_four min_four   -- for this text's walks alone
set_option linter.unusedVariables false
set_option linter.unusedSimpArgs false
end Go.Proofs.Ytecfdemglbfnoaa.PT
end
section
namespace Go.Proofs.Ytecfdemglbfnoaa.PT
open Go.RowKit Go.Proofs.YtecfdemglbfnoaaW.PrintWords Go.Proofs.YtecfdemglbfnoaaW.PrintLast Go.Proofs.YtecfdemglbfnoaaW.PrintMore
attribute [local go_sem] max2_int min2_int max_two min_two max_three min_three max_four min_four   -- for this text's walks alone
set_option linter.unusedVariables false
set_option linter.unusedSimpArgs false
end Go.Proofs.Ytecfdemglbfnoaa.PT
end
section
namespace Go.Proofs.Ytecfdemglbfnoaa.PT
open Go.RowKit Go.Proofs.YtecfdemglbfnoaaW.PrintWords Go.Proofs.YtecfdemglbfnoaaW.PrintLast Go.Proofs.YtecfdemglbfnoaaW.PrintMore
attribute [local go_sem] max2_int min2_int max_two min_two max_three min_three max_four min_four   -- for this text's walks alone
set_option linter.unusedVariables false
set_option linter.unusedSimpArgs false
end Go.Proofs.Ytecfdemglbfnoaa.PT
end
section
namespace Go.Proofs.Ytecfdemglbfnoaa.PT
open Go.RowKit Go.Proofs.YtecfdemglbfnoaaW.PrintWords Go.Proofs.YtecfdemglbfnoaaW.PrintLast Go.Proofs.YtecfdemglbfnoaaW.PrintMore
attribute [local go_sem] max2_int min2_int max_two min_two max_three min_three max_four min_four   -- for this text's walks alone
set_option linter.unusedVariables false
set_option linter.unusedSimpArgs false
end Go.Proofs.Ytecfdemglbfnoaa.PT
end
section
namespace Go.Proofs.Ytecfdemglbfnoaa.PT
open Go.RowKit Go.Proofs.YtecfdemglbfnoaaW.PrintWords Go.Proofs.YtecfdemglbfnoaaW.PrintLast Go.Proofs.YtecfdemglbfnoaaW.PrintMore
attribute [local go_sem] max2_int min2_int max_two min_two max_three min_three max_four min_four   -- for this text's walks alone
set_option linter.unusedVariables false
set_option linter.unusedSimpArgs false
end Go.Proofs.Ytecfdemglbfnoaa.PT
end
section
namespace Go.Proofs.Ytecfdemglbfnoaa.PT
open Go.RowKit Go.Proofs.YtecfdemglbfnoaaW.PrintWords Go.Proofs.YtecfdemglbfnoaaW.PrintLast Go.Proofs.YtecfdemglbfnoaaW.PrintMore
attribute [local go_sem] max2_int min2_int max_two min_two max_three min_three max_four min_four   -- for this text's walks alone
set_option linter.unusedVariables false
set_option linter.unusedSimpArgs false
end Go.Proofs.Ytecfdemglbfnoaa.PT
end
section
namespace Go.Proofs.Ytecfdemglbfnoaa.PT
open Go.RowKit Go.Proofs.YtecfdemglbfnoaaW.PrintWords Go.Proofs.YtecfdemglbfnoaaW.PrintLast Go.Proofs.YtecfdemglbfnoaaW.PrintMore
attribute [local go_sem] max2_int min2_int max_two min_two max_three min_three max_four min_four   -- for this text's walks alone
set_option linter.unusedVariables false
set_option linter.unusedSimpArgs false
end Go.Proofs.Ytecfdemglbfnoaa.PT
end
section
namespace Go.Proofs.Ytecfdemglbfnoaa.PT
open Go.RowKit Go.Proofs.YtecfdemglbfnoaaW.PrintWords Go.Proofs.YtecfdemglbfnoaaW.PrintLast Go.Proofs.YtecfdemglbfnoaaW.PrintMore
attribute [local go_sem] max2_int min2_int max_two min_two max_three min_three max_four min_four   -- for this text's walks alone
set_option linter.unusedVariables false
set_option linter.unusedSimpArgs false
end Go.Proofs.Ytecfdemglbfnoaa.PT
end
section
namespace Go.Proofs.Ytecfdemglbfnoaa.Num
open Go.RowKit Go.Proofs.Ytecfdemglbfnoaa.PT Go.Proofs.YtecfdemglbfnoaaW.PrintWords Go.Proofs.YtecfdemglbfnoaaW.PrintLast Go.Proofs.YtecfdemglbfnoaaW.PrintMore
/-- The sign of a fraction as a number. -/
def sgq (q : Rat) : Int := if q.num = 0 then 0 else if q.num < 0 then -1 else 1
theorem rTrim02_f {neg : Bool} {n d : List Int} (un : U n) (ud : U d) (ln : n.length ≤ 1000000) (ld : d.length ≤ 1000000) :
    Ev (fun k => codewrightref02_Trim.f k neg n d) (rep (rv neg n d)) := Ev.bind (Make_f un ud ln ld) (Ev.now _)
theorem sgq_zero {q : Rat} : sgq q = 0 ↔ q = 0 := by
  unfold sgq
  rw [← Rat.num_eq_zero]
  by_cases h : q.num = 0
  · simp [h]
  · rw [if_neg h]; constructor
    · intro h1; split at h1 <;> omega
    · intro h1; exact absurd h1 h
theorem same02_f {x y : Bool} {a b c d : List Int} (la : a.length ≤ 100000000) (lc : b.length ≤ 100000000) : Ev (fun k => codewrightlaw02_same.f k x a b y c d) (decide ((x, a, b) = (y, c, d))) := by
  have h1 := Same_f (a := a) (b := c) (by omega)
  have h2 := Same_f (a := b) (b := d) (by omega)
  refine Ev.bind (a := decide ((x, a, b) = (y, c, d))) ?_ (Ev.now _)
  by_cases c1 : x = y
  · by_cases c2 : a = c
    · refine Ev_pos (by rw [c1]; simp) (Ev.bind h1 (Ev_pos (decide_eq_true c2) (Ev.bind h2 (Ev_as (Ev.now _) ?_))))
      rw [c1, c2]; simp
    · refine Ev_pos (by rw [c1]; simp) (Ev.bind h1 (Ev_neg (by rw [decide_eq_false c2]; decide) (Ev_as (Ev.now _) ?_)))
      rw [decide_eq_false]; intro h; injection h with _ h; injection h with h _; exact c2 h
  · refine Ev_neg (by simp [c1]) (Ev_as (Ev.now _) ?_)
    rw [decide_eq_false]; intro h; injection h with h _; exact c1 h
theorem rep_len {q : Rat} {m : Nat} (h : Sz m q) : (rep q).2.1.length ≤ m ∧ (rep q).2.2.length ≤ m := ⟨lb_len_le h.1, lb_len_le h.2⟩
/-- An int in the machine's range. -/
def I64 (x : Int) : Prop := -9223372036854775808 ≤ x ∧ x ≤ 9223372036854775807
end Go.Proofs.Ytecfdemglbfnoaa.Num
end
section
namespace Go.Proofs.Ytecfdemglbfnoaa.PT
open Go.RowKit Go.Proofs.YtecfdemglbfnoaaW.PrintWords Go.Proofs.YtecfdemglbfnoaaW.PrintLast Go.Proofs.YtecfdemglbfnoaaW.PrintMore
attribute [local go_sem] max2_int min2_int max_two min_two max_three min_three max_four min_four   -- for this text's walks alone
set_option linter.unusedVariables false
set_option linter.unusedSimpArgs false
end Go.Proofs.Ytecfdemglbfnoaa.PT
end
section
namespace Go.Proofs.Ytecfdemglbfnoaa.PT
open Go.RowKit Go.Proofs.YtecfdemglbfnoaaW.PrintWords Go.Proofs.YtecfdemglbfnoaaW.PrintLast Go.Proofs.YtecfdemglbfnoaaW.PrintMore
attribute [local go_sem] max2_int min2_int max_two min_two max_three min_three max_four min_four   -- for this text's walks alone
set_option linter.unusedVariables false
set_option linter.unusedSimpArgs false
end Go.Proofs.Ytecfdemglbfnoaa.PT
end
section
namespace Go.Proofs.Ytecfdemglbfnoaa.PT
open Go.RowKit Go.Proofs.YtecfdemglbfnoaaW.PrintWords Go.Proofs.YtecfdemglbfnoaaW.PrintLast Go.Proofs.YtecfdemglbfnoaaW.PrintMore
attribute [local go_sem] max2_int min2_int max_two min_two max_three min_three max_four min_four   -- for this text's walks alone
set_option linter.unusedVariables false
set_option linter.unusedSimpArgs false
end Go.Proofs.Ytecfdemglbfnoaa.PT
end
section
namespace Go.Proofs.Ytecfdemglbfnoaa.PT
open Go.RowKit Go.Proofs.YtecfdemglbfnoaaW.PrintWords Go.Proofs.YtecfdemglbfnoaaW.PrintLast Go.Proofs.YtecfdemglbfnoaaW.PrintMore
attribute [local go_sem] max2_int min2_int max_two min_two max_three min_three max_four min_four   -- for this text's walks alone
set_option linter.unusedVariables false
set_option linter.unusedSimpArgs false
end Go.Proofs.Ytecfdemglbfnoaa.PT
end
section
namespace Go.Proofs.Ytecfdemglbfnoaa.PT
open Go.RowKit Go.Proofs.YtecfdemglbfnoaaW.PrintWords Go.Proofs.YtecfdemglbfnoaaW.PrintLast Go.Proofs.YtecfdemglbfnoaaW.PrintMore
attribute [local go_sem] max2_int min2_int max_two min_two max_three min_three max_four min_four   -- for this text's walks alone
set_option linter.unusedVariables false
set_option linter.unusedSimpArgs false
end Go.Proofs.Ytecfdemglbfnoaa.PT
end
section
namespace Go.Proofs.Ytecfdemglbfnoaa.Num
open Go.RowKit Go.Proofs.Ytecfdemglbfnoaa.PT Go.Proofs.YtecfdemglbfnoaaW.PrintWords Go.Proofs.YtecfdemglbfnoaaW.PrintLast Go.Proofs.YtecfdemglbfnoaaW.PrintMore
theorem Trim02_f {neg : Bool} {n d : List Int} (un : U n) (ud : U d) (ln : n.length ≤ 1000000) (ld : d.length ≤ 1000000) :
    Ev (fun k => rational_Trim.f k neg n d) (rep (rv neg n d)) := Ev.bind (canonical_f un ud ln ld) (Ev.now _)
theorem sgq_rv0 {neg : Bool} {n d : List Int} (h : valn n = 0 ∨ valn d = 0) : sgq (rv neg n d) = 0 := by
  rcases h with h | h
  · rw [rv_zero_num neg h]; rfl
  · rw [rv_zero_den neg h]; rfl
theorem sgq_rep {q : Rat} (h : q ≠ 0) : sgq q = if (rep q).1 = true then -1 else 1 := by
  have h0 : q.num ≠ 0 := fun e => h (Rat.num_eq_zero.mp e)
  unfold sgq
  rw [if_neg h0]
  simp only [rep, decide_eq_true_iff]
theorem rv_ne {neg : Bool} {n d : List Int} (hn : valn n ≠ 0) (hd : valn d ≠ 0) : rv neg n d ≠ 0 := by
  unfold rv
  rw [Rat.mkRat_ne_zero hd]
  exact sg_ne hn
theorem Sign_j {neg : Bool} {n d : List Int} (b : Bool) (hb : b = true ↔ valn n = 0 ∨ valn d = 0) : Ev (fun k => rational_Sign.j0 k b neg n d) (sgq (rv neg n d)) := by
  refine Ev_succ ?_
  simp only [rational_Sign.j0]
  cases b with
  | true => rw [sgq_rv0 (hb.mp rfl)]; exact Ev_pos rfl (Ev.now _)
  | false =>
    have hn : valn n ≠ 0 := fun h => absurd (hb.mpr (.inl h)) (by decide)
    have hd : valn d ≠ 0 := fun h => absurd (hb.mpr (.inr h)) (by decide)
    rw [sgq_rep (rv_ne hn hd), rep_rv hn hd]
    refine Ev_neg (by decide) ?_
    cases neg
    · exact Ev_neg (by decide) (Ev.now _)
    · exact Ev_pos rfl (Ev.now _)
theorem Sign_f {neg : Bool} {n d : List Int} (un : U n) (ud : U d) (ln : n.length ≤ 1000000) (ld : d.length ≤ 1000000) :
    Ev (fun k => rational_Sign.f k neg n d) (sgq (rv neg n d)) := by
  have b1 := Bits_f un (by omega)
  have b2 := Bits_f ud (by omega)
  refine Ev.bind b1 ?_
  by_cases h1 : valn n = 0
  · exact Ev_pos (by rw [h1]; rfl) (Sign_j true ⟨fun _ => .inl h1, fun _ => rfl⟩)
  · have hz : ((sz (valn n) : Nat) : Int) ≠ 0 := fun h => h1 (sz_eq_zero.mp (Int.ofNat_eq_zero.mp h))
    refine Ev_neg hz (Ev.bind b2 (Sign_j _ ?_))
    constructor
    · intro h
      exact .inr (sz_eq_zero.mp (Int.ofNat_eq_zero.mp (beq_iff_eq.mp h)))
    · intro h
      rcases h with h | h
      · exact absurd h h1
      · rw [h]; rfl
/-- The guard: has a fraction of the list more limbs than m? -/
theorem long02_l0 (m : Nat) (l : List S67) (hl : l.length < 4611686018427387904) (hs : ∀ x ∈ l, x.f1.length < 2305843009213693952 ∧ x.f2.length < 2305843009213693952) (n : Nat) : ∀ i : Nat, i + n = l.length →
    Ev (fun k => codewrightlaw02_long.l0 k (m : Int) l (i : Int)) ((l.drop i).any fun x => decide (m < x.f1.length + x.f2.length)) := by
  induction n with
  | zero =>
    intro i hi
    rw [List.drop_eq_nil_of_le (by omega)]
    refine Ev_succ ?_
    simp only [codewrightlaw02_long.l0]
    exact Ev_neg (by omega) (Ev.now _)
  | succ n ih =>
    intro i hi
    have e : rd_T67 l (i : Int) = l[i]'(by omega) := by simp [rd_T67, show i < l.length from by omega]
    have hm : l[i]'(by omega) ∈ l := List.getElem_mem _
    have hx := hs _ hm
    have hd : l.drop i = l[i]'(by omega) :: l.drop (i + 1) := by rw [List.drop_eq_getElem_cons]
    rw [hd, List.any_cons]
    generalize l[i]'(by omega) = x at *
    have c : (i : Int) < (l.length : Int) ∧ (0 : Int) ≤ (i : Int) := by omega
    have step := ih (i + 1) (by omega)
    have wi : wrap64 ((i : Int) + 1) = ((i + 1 : Nat) : Int) := up i (by omega)
    have ws : wrap64 ((x.f1.length : Int) + (x.f2.length : Int)) = ((x.f1.length + x.f2.length : Nat) : Int) := by rw [w64 (by omega) (by omega)]; rfl
    refine Ev_succ ?_
    simp only [codewrightlaw02_long.l0]
    refine Ev_pos c.1 (Ev_pos c.2 ?_)
    rw [e, ws, wi]
    clear ws wi
    by_cases h : m < x.f1.length + x.f2.length
    · rw [decide_eq_true h]
      exact Ev_pos (by omega) (Ev.now _)
    · rw [decide_eq_false h, Bool.false_or]
      exact Ev_neg (by omega) step
theorem long02_f (m : Nat) (l : List S67) (hl : l.length < 4611686018427387904) (hs : ∀ x ∈ l, x.f1.length < 2305843009213693952 ∧ x.f2.length < 2305843009213693952) :
    Ev (fun k => codewrightlaw02_long.f k (m : Int) l) (l.any fun x => decide (m < x.f1.length + x.f2.length)) := long02_l0 m l hl hs l.length 0 (by omega)
end Go.Proofs.Ytecfdemglbfnoaa.Num
end
section
namespace Go.Proofs.Ytecfdemglbfnoaa.Num
open Go.RowKit Go.Proofs.Ytecfdemglbfnoaa.PT Go.Proofs.YtecfdemglbfnoaaW.PrintWords Go.Proofs.YtecfdemglbfnoaaW.PrintLast Go.Proofs.YtecfdemglbfnoaaW.PrintMore
/-- What both powers answer. -/
def powr (v m : Nat) : List Int × Int := if m = 0 then ([1], 0) else if v ≤ 1 then (lb v, 0) else if 131072 < m then ([], 8) else (lb (v ^ m), 0)
/-- The power is small where it is told. -/
def Fit (v m : Nat) : Prop := 2 ≤ v → m ≤ 131072 → v ^ m < pw 125 ∧ sz v * m ≤ 4000
theorem and_one (m : Nat) (h : m < 9223372036854775808) : Go.bits .and .i64 (m : Int) 1 = ((m % 2 : Nat) : Int) := by
  have hw : ∀ n : Int, 0 ≤ n → n < 2 ^ 63 → IntKind.i64.wrap n = n := fun n h0 h1 => by rw [i64_w]; exact w64 (by omega) (by omega)
  have := (bits_nat .i64 63 (by decide) hw m 1 h (by decide)).1
  have e : ((1 : Nat) : Int) = (1 : Int) := rfl
  rw [e] at this
  rw [this, Nat.and_one_is_mod]
theorem one_lb : ([1] : List Int) = lb 1 := by rw [lb_pos (by decide), show (1 : Nat) / 4294967296 = 0 from rfl, lb_zero]; rfl
theorem pow_l0 (R : Nat) (hR : R < pw 125) : ∀ (m : Nat), m ≠ 0 → m ≤ 131072 → ∀ (o s : Nat), 1 ≤ o → 1 ≤ s → o * s ^ m = R → Ev (fun k => nat_Pow.l0 k (m : Int) (lb o) (lb s)) (lb R, 0) := by
  intro m
  induction m using Nat.strongRecOn with
  | _ m ih =>
    intro hm0 hm o s ho hs hv
    have hp : 1 ≤ s ^ m := Nat.one_le_pow _ _ hs
    have hoR : o ≤ R := by rw [← hv]; exact Nat.le_mul_of_pos_right _ hp
    have hsm : s ≤ s ^ m := Nat.le_self_pow hm0 s
    have hsR : s ≤ R := by rw [← hv]; exact Nat.le_trans hsm (Nat.le_mul_of_pos_left _ ho)
    have lo := lb_len_le (Nat.lt_of_le_of_lt hoR hR)
    have ls := lb_len_le (Nat.lt_of_le_of_lt hsR hR)
    have lR := lb_len_le hR
    have hsq := times_f (U_lb s) (U_lb s) (by omega)
    have hos := times_f (U_lb o) (U_lb s) (by omega)
    rw [valn_lb] at hsq
    rw [valn_lb, valn_lb] at hos
    have htR := Trim_f (U_lb R) (by omega)
    rw [valn_lb] at htR
    have ha := and_one m (by omega)
    have hd : (m : Int) / 2 = ((m / 2 : Nat) : Int) := rfl
    have hmod : m = 2 * (m / 2) + m % 2 := by omega
    have hsp : s ^ m = (s * s) ^ (m / 2) * s ^ (m % 2) := by
      conv => lhs; rw [hmod]
      rw [Nat.pow_add, Nat.pow_mul, Nat.pow_two]
    have c4 : ¬ (((lb R).length : Int) > 4096) := by omega
    refine Ev_succ ?_
    simp only [nat_Pow.l0]
    rw [ha, hd]
    by_cases hodd : m % 2 = 1
    · refine Ev_pos (by rw [hodd]; rfl) (Ev.bind hos ?_)
      rw [hodd, Nat.pow_one] at hsp
      by_cases h2 : m / 2 = 0
      · have e : o * s = R := by rw [← hv, hsp, h2, Nat.pow_zero, Nat.one_mul]
        rw [e]
        exact Ev_pos (by rw [h2]; rfl) (Ev_neg c4 (Ev.bind htR (Ev.now _)))
      · have e : o * s * (s * s) ^ (m / 2) = R := by rw [← hv, hsp]; ac_rfl
        exact Ev_neg (fun h => h2 (Int.ofNat_eq_zero.mp h)) (Ev.bind hsq (ih (m / 2) (by omega) h2 (by omega) (o * s) (s * s) (Nat.mul_pos ho hs) (Nat.mul_pos hs hs) e))
    · have h0 : m % 2 = 0 := by omega
      rw [h0, Nat.pow_zero, Nat.mul_one] at hsp
      have h2 : m / 2 ≠ 0 := by omega
      refine Ev_neg (by rw [h0]; decide) (Ev_neg (fun h => h2 (Int.ofNat_eq_zero.mp h)) (Ev.bind hsq (ih (m / 2) (by omega) h2 (by omega) o (s * s) ho (Nat.mul_pos hs hs) ?_)))
      rw [← hv, hsp]
theorem sz_one {v : Nat} : sz v = 1 ↔ v = 1 := by
  constructor
  · intro h
    have h0 : v ≠ 0 := fun e => by rw [e] at h; exact absurd h (by decide)
    have := sz_spec h0
    rw [h] at this
    omega
  · intro h; subst h; rfl
theorem natPow_j {a : List Int} (ua : U a) (la : a.length ≤ 1000000) {m : Nat} (hm : m < 9223372036854775808) (hf : Fit (valn a) m) (b : Bool) (hb : b = true ↔ m = 0 ∨ valn a = 1) :
    Ev (fun k => nat_Pow.j0 k a (m : Int) ((sz (valn a) : Nat) : Int) b) (powr (valn a) m) := by
  have hsh := short_f ua (by omega)
  have hszb := sz_le_pw (Nat.lt_of_lt_of_le (valn_lt ua) (pw_mono la))
  generalize valn a = v at *
  refine Ev_succ ?_
  simp only [nat_Pow.j0]
  cases b with
  | true =>
    refine Ev_pos rfl (Ev_as (Ev.now _) ?_)
    unfold powr
    rcases hb.mp rfl with h | h
    · rw [if_pos h]
    · by_cases h0 : m = 0
      · rw [if_pos h0]
      · rw [if_neg h0, h, if_pos (Nat.le_refl 1), one_lb]
  | false =>
    have h0 : m ≠ 0 := fun h => absurd (hb.mpr (.inl h)) (by decide)
    have h1 : v ≠ 1 := fun h => absurd (hb.mpr (.inr h)) (by decide)
    unfold powr
    rw [if_neg h0]
    refine Ev_neg (by decide) ?_
    by_cases hz : v = 0
    · subst hz
      rw [if_pos (by omega), lb_zero]
      exact Ev_pos rfl (Ev.now _)
    · rw [if_neg (by omega)]
      refine Ev_neg (fun h => hz (sz_eq_zero.mp (Int.ofNat_eq_zero.mp h))) ?_
      by_cases hbig : 131072 < m
      · rw [if_pos hbig]; exact Ev_pos (by omega) (Ev.now _)
      · rw [if_neg hbig]
        obtain ⟨f1, f2⟩ := hf (by omega) (by omega)
        have hs1 := sz_pos hz
        obtain ⟨z, hzz⟩ : ∃ z, sz v = z + 1 := ⟨sz v - 1, by omega⟩
        have hzm : z * m ≤ 4000 := by
          rw [hzz, Nat.add_mul] at f2; omega
        have e1 : wrap64 (((sz v : Nat) : Int) - 1) = (z : Int) := by rw [hzz]; exact dn z (by omega)
        have e2 : (z : Int) * (m : Int) = ((z * m : Nat) : Int) := (Int.natCast_mul z m).symm
        have e3 : wrap64 ((z * m : Nat) : Int) = ((z * m : Nat) : Int) := w64 (by omega) (by omega)
        have c : ¬ (((z * m : Nat) : Int) ≥ 131072) ∧ ¬ ((m : Int) > 131072) := by clear e1 e2 e3; omega
        rw [e1, e2, e3]
        refine Ev_neg c.2 (Ev_neg c.1 (Ev.bind hsh ?_))
        rw [one_lb]
        exact pow_l0 (v ^ m) f1 m h0 (by clear e1 e2 e3; omega) 1 v (Nat.le_refl 1) (by clear e1 e2 e3; omega) (Nat.one_mul _)
theorem natPow_f {a : List Int} (ua : U a) (la : a.length ≤ 1000000) {m : Nat} (hm : m < 9223372036854775808) (hf : Fit (valn a) m) : Ev (fun k => nat_Pow.f k a (m : Int)) (powr (valn a) m) := by
  have hb := Bits_f ua (by omega)
  refine Ev_neg (by omega) (Ev.bind hb ?_)
  by_cases h0 : m = 0
  · exact Ev_pos (by omega) (natPow_j ua la hm hf true ⟨fun _ => .inl h0, fun _ => rfl⟩)
  · refine Ev_neg (by omega) (natPow_j ua la hm hf _ ?_)
    rw [beq_iff_eq]
    constructor
    · intro h; exact .inr (sz_one.mp (by omega))
    · intro h; rcases h with h | h
      · exact absurd h h0
      · rw [h]; rfl
theorem rpow_l0 {a : List Int} (ua : U a) (la : a.length ≤ 1000000) (n : Nat) (hn : n ≤ 131072) (hR : valn a ^ n < pw 125) (h1 : 1 ≤ valn a) : ∀ j : Nat, j ≤ 19 → Ev (fun k => codewrightref01_Pow.l0 k a (n : Int) (lb (valn a ^ (n / 2 ^ j))) ((2 ^ j / 2 : Nat) : Int)) (lb (valn a ^ n), 0) := by
  intro j
  induction j with
  | zero =>
    intro _
    refine Ev_succ ?_
    simp only [codewrightref01_Pow.l0]
    refine Ev_neg (by decide) (Ev_as (Ev.now _) ?_)
    rw [Nat.pow_zero, Nat.div_one]
  | succ j ih =>
    intro hj
    have step := ih (by omega)
    have hle : ∀ i, i ≤ n → valn a ^ i < pw 125 := fun i hi => Nat.lt_of_le_of_lt (Nat.pow_le_pow_right h1 hi) hR
    have hp : 2 ^ (j + 1) / 2 = 2 ^ j := by rw [Nat.pow_succ]; exact Nat.mul_div_cancel _ (by decide)
    have hpj := Nat.two_pow_pos j
    have hj18 : 2 ^ j ≤ 2 ^ 18 := Nat.pow_le_pow_right (by decide) (by omega)
    obtain ⟨D, hD⟩ : ∃ D, 2 ^ j = D := ⟨_, rfl⟩
    have hsplit : n / 2 ^ j = 2 * (n / 2 ^ (j + 1)) + n / 2 ^ j % 2 := by
      rw [Nat.pow_succ, ← Nat.div_div_eq_div_mul]; omega
    have hnd : n / 2 ^ j ≤ n := Nat.div_le_self _ _
    obtain ⟨E, hE⟩ : ∃ E, n / 2 ^ (j + 1) = E := ⟨_, rfl⟩
    obtain ⟨F, hF⟩ : ∃ F, n / 2 ^ j = F := ⟨_, rfl⟩
    have hdm : Int.tdiv (n : Int) ((2 ^ j : Nat) : Int) = (F : Int) := by rw [tdiv_cast, hF]
    rw [hE, hp, hD]
    rw [hF] at step hsplit hnd
    rw [hE] at hsplit
    rw [hD] at step hpj hj18 hdm
    have lE := lb_len_le (hle E (by omega))
    have l2E := lb_len_le (hle (2 * E) (by omega))
    have lF := lb_len_le (hle F hnd)
    have hsq := rMul_f (U_lb (valn a ^ E)) (U_lb (valn a ^ E)) (by omega)
    rw [valn_lb, ← Nat.pow_add, ← Nat.two_mul] at hsq
    have hml := rMul_f (U_lb (valn a ^ (2 * E))) ua (by omega)
    rw [valn_lb, ← Nat.pow_succ, Nat.succ_eq_add_one] at hml
    have wF : wrap64 (F : Int) = (F : Int) := w64 (by omega) (by omega)
    have hD2 : Int.tdiv (D : Int) 2 = ((D / 2 : Nat) : Int) := rfl
    have wD : wrap64 ((D / 2 : Nat) : Int) = ((D / 2 : Nat) : Int) := w64 (by clear wF; omega) (by clear wF; omega)
    have hm2 : Int.tmod (F : Int) 2 = ((F % 2 : Nat) : Int) := rfl
    have c : (D : Int) > 0 ∧ ¬ ((D : Int) = 0) := by clear wF wD; omega
    refine Ev_succ ?_
    simp only [codewrightref01_Pow.l0]
    refine Ev_pos c.1 (Ev.bind hsq (Ev_neg c.2 ?_))
    rw [hdm, wF, hm2, hD2, wD]
    clear wF wD
    by_cases hodd : F % 2 = 1
    · have e : F = 2 * E + 1 := by omega
      rw [e] at step lF
      exact Ev_pos (by omega) (Ev.bind hml (Ev_neg (by omega) step))
    · have e : F = 2 * E := by omega
      rw [e] at step lF
      exact Ev_neg (by omega) (Ev_neg (by omega) step)
theorem refPow_f {a : List Int} (ua : U a) (la : a.length ≤ 1000000) {m : Nat} (hm : m < 9223372036854775808) (hf : Fit (valn a) m) : Ev (fun k => codewrightref01_Pow.f k a (m : Int)) (powr (valn a) m) := by
  have ht := rTrim_f ua (by omega)
  have hl := lb_len ua
  generalize valn a = v at *
  have hb := rBits_f (U_lb v) (by omega)
  rw [valn_lb] at hb
  refine Ev_neg (by omega) (Ev.bind ht ?_)
  unfold powr
  by_cases h0 : m = 0
  · rw [if_pos h0]; exact Ev_pos (by omega) (Ev.now _)
  · rw [if_neg h0]
    refine Ev_neg (by omega) (Ev.bind hb ?_)
    by_cases h1 : v ≤ 1
    · rw [if_pos h1]
      have : sz v ≤ 1 := by
        have : v = 0 ∨ v = 1 := by omega
        rcases this with h | h <;> subst h <;> decide
      exact Ev_pos (by omega) (Ev.now _)
    · rw [if_neg h1]
      have h2 : ¬ (sz v ≤ 1) := fun h => by
        have h3 : v ≠ 0 := by omega
        have := sz_pos h3
        exact h1 (Nat.le_of_eq (sz_one.mp (by omega)))
      refine Ev_neg (by omega) ?_
      by_cases hbig : 131072 < m
      · rw [if_pos hbig]; exact Ev_pos (by omega) (Ev.now _)
      · rw [if_neg hbig]
        obtain ⟨f1, _⟩ := hf (by omega) (by omega)
        have := rpow_l0 (U_lb v) (by omega) m (by omega) (by rw [valn_lb]; exact f1) (by rw [valn_lb]; omega) 19 (Nat.le_refl _)
        rw [valn_lb, show m / 2 ^ 19 = 0 from Nat.div_eq_of_lt (by omega), Nat.pow_zero, ← one_lb] at this
        exact Ev_neg (by omega) this
end Go.Proofs.Ytecfdemglbfnoaa.Num
end
section
namespace Go.Proofs.Ytecfdemglbfnoaa.Num
open Go.RowKit Go.Proofs.Ytecfdemglbfnoaa.PT Go.Proofs.YtecfdemglbfnoaaW.PrintWords Go.Proofs.YtecfdemglbfnoaaW.PrintLast Go.Proofs.YtecfdemglbfnoaaW.PrintMore
theorem powr_err (v m : Nat) : (powr v m).2 = 0 ∨ (powr v m).2 = 8 := by
  unfold powr
  split
  · exact .inl rfl
  · split
    · exact .inl rfl
    · split
      · exact .inr rfl
      · exact .inl rfl
theorem powr_big {v m n : Nat} (hm : 131072 < m) (hn : 131072 < n) : powr v m = powr v n := by
  unfold powr
  rw [if_neg (show ¬ m = 0 by omega), if_neg (show ¬ n = 0 by omega), if_pos hm, if_pos hn]
theorem powr_ok {v m : Nat} (hv : v < pw 1000) (hf : Fit v m) : U (powr v m).1 ∧ (powr v m).1.length ≤ 1000000 := by
  unfold powr
  split
  · exact ⟨U_cons (by decide) U_nil, by simp⟩
  · split
    · exact ⟨U_lb v, Nat.le_trans (lb_len_le hv) (by decide)⟩
    · split
      · exact ⟨U_nil, by simp⟩
      · exact ⟨U_lb _, Nat.le_trans (lb_len_le (hf (by omega) (by omega)).1) (by decide)⟩
/-- The power's data, or the error. -/
def powq (neg odd : Bool) (x y m : Nat) : Bool × List Int × List Int × Int :=
  if (powr x m).2 = 0 ∧ (powr y m).2 = 0 then ((rep (rv (neg && odd) (powr x m).1 (powr y m).1)).1, (rep (rv (neg && odd) (powr x m).1 (powr y m).1)).2.1, (rep (rv (neg && odd) (powr x m).1 (powr y m).1)).2.2, 0) else (false, [], [], 8)
theorem pow_j3 {neg odd : Bool} {x y m : Nat} (hx : x < pw 1000) (hy : y < pw 1000) (hm : m < 9223372036854775808) (fx : Fit x m) (fy : Fit y m) :
    Ev (fun k => rational_Pow.j3 k (m : Int) odd neg (lb x) (lb y)) (powq neg odd x y m) := by
  have px := natPow_f (U_lb x) (Nat.le_trans (lb_len_le hx) (by decide)) hm (by rw [valn_lb]; exact fx)
  have py := natPow_f (U_lb y) (Nat.le_trans (lb_len_le hy) (by decide)) hm (by rw [valn_lb]; exact fy)
  rw [valn_lb] at px py
  obtain ⟨ux, lx⟩ := powr_ok hx fx
  obtain ⟨uy, ly⟩ := powr_ok hy fy
  have hc : ∀ b, Ev (fun k => rational_canonical.f k b (powr x m).1 (powr y m).1) (rep (rv b (powr x m).1 (powr y m).1)) := fun b => canonical_f ux uy lx ly
  refine Ev_succ ?_
  simp only [rational_Pow.j3]
  unfold powq
  refine Ev.bind px ?_
  by_cases h1 : (powr x m).2 = 0
  · refine Ev_pos h1 (Ev.bind py ?_)
    by_cases h2 : (powr y m).2 = 0
    · rw [if_pos ⟨h1, h2⟩]
      refine Ev_pos h2 ?_
      cases neg
      · exact Ev_neg (by decide) (Ev.bind (hc false) (Ev.now _))
      · exact Ev_pos rfl (Ev.bind (hc odd) (Ev.now _))
    · rw [if_neg (fun h => h2 h.2)]
      refine Ev_neg h2 (Ev_as (Ev.now _) ?_)
      rcases powr_err y m with h | h
      · exact absurd h h2
      · rw [h]
  · rw [if_neg (fun h => h1 h.1)]
    refine Ev_neg h1 (Ev_as (Ev.now _) ?_)
    rcases powr_err x m with h | h
    · exact absurd h h1
    · rw [h]
theorem rpow_j1 {neg odd : Bool} {x y m : Nat} (hx : x < pw 1000) (hy : y < pw 1000) (hm : m < 9223372036854775808) (fx : Fit x m) (fy : Fit y m) :
    Ev (fun k => codewrightref02_Pow.j1 k (m : Int) odd neg (lb x) (lb y)) (powq neg odd x y m) := by
  have px := refPow_f (U_lb x) (Nat.le_trans (lb_len_le hx) (by decide)) hm (by rw [valn_lb]; exact fx)
  have py := refPow_f (U_lb y) (Nat.le_trans (lb_len_le hy) (by decide)) hm (by rw [valn_lb]; exact fy)
  rw [valn_lb] at px py
  obtain ⟨ux, lx⟩ := powr_ok hx fx
  obtain ⟨uy, ly⟩ := powr_ok hy fy
  have hc : ∀ b, Ev (fun k => codewrightref02_Make.f k b (powr x m).1 (powr y m).1) (rep (rv b (powr x m).1 (powr y m).1)) := fun b => Make_f ux uy lx ly
  refine Ev_succ ?_
  simp only [codewrightref02_Pow.j1]
  unfold powq
  refine Ev.bind px (Ev.bind py ?_)
  by_cases h1 : (powr x m).2 = 0
  · refine Ev_pos h1 ?_
    by_cases h2 : (powr y m).2 = 0
    · rw [if_pos ⟨h1, h2⟩]
      refine Ev_pos h2 ?_
      cases neg
      · exact Ev_neg (by decide) (Ev.bind (hc false) (Ev.now _))
      · exact Ev_pos rfl (Ev.bind (hc odd) (Ev.now _))
    · rw [if_neg (fun h => h2 h.2)]
      exact Ev_neg h2 (Ev.now _)
  · rw [if_neg (fun h => h1 h.1)]
    exact Ev_neg h1 (Ev.now _)
theorem powq_big {neg odd : Bool} {x y m n : Nat} (hm : 131072 < m) (hn : 131072 < n) : powq neg odd x y m = powq neg odd x y n := by
  unfold powq
  rw [powr_big (v := x) hm hn, powr_big (v := y) hm hn]
theorem powq_one {neg : Bool} {m : Nat} : powq neg false 1 1 m = (false, [1], [1], 0) := by
  have h : powr 1 m = ([1], 0) := by
    unfold powr
    split
    · rfl
    · rw [if_pos (Nat.le_refl 1), ← one_lb]
  unfold powq
  rw [h, if_pos ⟨rfl, rfl⟩, Bool.and_false]
  have e : rep (rv false [1] [1]) = (false, [1], [1]) := by
    have := rep_rv (neg := false) (n := [1]) (d := [1]) (by decide) (by decide)
    rw [this, show valn [1] / Nat.gcd (valn [1]) (valn [1]) = 1 from by decide, ← one_lb]
  rw [e]
theorem Fit_big {v m : Nat} (h : 131072 < m) : Fit v m := fun _ h' => absurd h' (by omega)
theorem pow_j2 {neg odd : Bool} {x y : Nat} (hx : x < pw 1000) (hy : y < pw 1000) {n : Int} (h1 : -9223372036854775808 < n) (h2 : n ≤ 9223372036854775807) (fx : Fit x n.natAbs) (fy : Fit y n.natAbs) :
    Ev (fun k => rational_Pow.j2 k n odd neg (lb x) (lb y)) (powq neg odd x y n.natAbs) := by
  have hj := pow_j3 (neg := neg) (odd := odd) hx hy (m := n.natAbs) (by omega) fx fy
  refine Ev_succ ?_
  simp only [rational_Pow.j2]
  by_cases c : n < 0
  · have e : wrap64 (-n) = ((n.natAbs : Nat) : Int) := by rw [w64 (by omega) (by omega)]; omega
    refine Ev_pos c ?_
    rw [e]; exact hj
  · have e : ((n.natAbs : Nat) : Int) = n := by omega
    rw [e] at hj
    exact Ev_neg c hj
theorem pow_j0 {neg : Bool} {x y : Nat} (hx : x < pw 1000) (hy : y < pw 1000) {n : Int} (hn : I64 n) (fx : Fit x n.natAbs) (fy : Fit y n.natAbs) :
    Ev (fun k => rational_Pow.j0 k n neg (lb x) (lb y)) (powq neg ((Int.tmod n 2) != 0) x y n.natAbs) := by
  have lx := lb_len_le hx
  have ly := lb_len_le hy
  have bx := Bits_f (U_lb x) (by omega)
  have by' := Bits_f (U_lb y) (by omega)
  rw [valn_lb] at bx by'
  refine Ev_succ ?_
  simp only [rational_Pow.j0]
  by_cases c : n = -9223372036854775808
  · subst c
    have ho : ((Int.tmod (-9223372036854775808) 2) != 0) = false := by decide
    have e1 : wrap64 ((-9223372036854775808 : Int) + 1) = -9223372036854775807 := by rw [w64 (by omega) (by omega)]; rfl
    rw [ho, e1]
    have hj := pow_j2 (neg := neg) (odd := false) hx hy (n := -9223372036854775807) (by decide) (by decide) (Fit_big (by decide)) (Fit_big (by decide))
    have hbig : powq neg false x y (-9223372036854775807 : Int).natAbs = powq neg false x y (-9223372036854775808 : Int).natAbs := powq_big (by decide) (by decide)
    rw [hbig] at hj
    have hj1 : ∀ b : Bool, (b = true → x = 1 ∧ y = 1) → Ev (fun k => rational_Pow.j1 k (-9223372036854775807) false b neg (lb x) (lb y)) (powq neg false x y (-9223372036854775808 : Int).natAbs) := by
      intro b hb
      refine Ev_succ ?_
      simp only [rational_Pow.j1]
      cases b with
      | true =>
        obtain ⟨rfl, rfl⟩ := hb rfl
        rw [powq_one]
        exact Ev_pos rfl (Ev.bind (Ev.now _) (Ev.bind (Ev.now _) (Ev.now _)))
      | false => exact Ev_neg (by decide) hj
    refine Ev_pos rfl (Ev.bind bx ?_)
    by_cases h1 : x = 1
    · refine Ev_pos (by rw [h1]; rfl) (Ev.bind by' (hj1 _ ?_))
      intro h
      exact ⟨h1, sz_one.mp (Int.ofNat_inj.mp (beq_iff_eq.mp h))⟩
    · exact Ev_neg (fun h => h1 (sz_one.mp (Int.ofNat_inj.mp h))) (hj1 false (fun h => absurd h (by decide)))
  · unfold I64 at hn
    exact Ev_neg c (pow_j2 hx hy (by omega) (by omega) fx fy)
theorem rpow_j0 {neg : Bool} {x y : Nat} (hx : x < pw 1000) (hy : y < pw 1000) {n : Int} (hn : I64 n) (fx : Fit x n.natAbs) (fy : Fit y n.natAbs) :
    Ev (fun k => codewrightref02_Pow.j0 k n neg (lb x) (lb y)) (powq neg ((Int.tmod n 2) != 0) x y n.natAbs) := by
  unfold I64 at hn
  refine Ev_succ ?_
  simp only [codewrightref02_Pow.j0]
  by_cases c : n < 0
  · refine Ev_pos c ?_
    by_cases c2 : n < -4611686018427387904
    · have e : wrap64 (-(mx n (-4611686018427387904))) = ((4611686018427387904 : Nat) : Int) := by
        unfold mx; rw [if_pos c2, w64 (by omega) (by omega)]; rfl
      have hj := rpow_j1 (neg := neg) (odd := (Int.tmod n 2) != 0) hx hy (m := 4611686018427387904) (by decide) (Fit_big (by decide)) (Fit_big (by decide))
      rw [powq_big (n := n.natAbs) (by decide) (by omega)] at hj
      rw [e]; exact hj
    · have e : wrap64 (-(mx n (-4611686018427387904))) = ((n.natAbs : Nat) : Int) := by
        unfold mx; rw [if_neg c2, w64 (by omega) (by omega)]; omega
      rw [e]; exact rpow_j1 hx hy (by clear e; omega) fx fy
  · have e : ((n.natAbs : Nat) : Int) = n := by omega
    have hj := rpow_j1 (neg := neg) (odd := (Int.tmod n 2) != 0) hx hy (m := n.natAbs) (by omega) fx fy
    rw [e] at hj
    exact Ev_neg c hj
/-- The power of a fraction. -/
def qpow (q : Rat) (n : Int) : Bool × List Int × List Int × Int :=
  if n < 0 then (if q.num = 0 then (false, [], [], 7) else powq (decide (q.num < 0)) ((Int.tmod n 2) != 0) q.den q.num.natAbs n.natAbs) else powq (decide (q.num < 0)) ((Int.tmod n 2) != 0) q.num.natAbs q.den n.natAbs
theorem sgq_zero' {q : Rat} : sgq q = 0 ↔ q.num = 0 := by rw [sgq_zero, Rat.num_eq_zero]
theorem Pow_f {neg : Bool} {a d : List Int} (un : U a) (ud : U d) (ln : a.length ≤ 1000) (ld : d.length ≤ 1000) {n : Int} (hn : I64 n) (fx : Fit (rv neg a d).num.natAbs n.natAbs) (fy : Fit (rv neg a d).den n.natAbs) :
    Ev (fun k => rational_Pow.f k neg a d n) (qpow (rv neg a d) n) := by
  have hs : Sz 1000 (rv neg a d) := Sz_rv un ud ln ld (by omega)
  have ht := Trim02_f (neg := neg) un ud (by omega) (by omega)
  have hrl := rep_len hs
  have hsg := Sign_f (neg := (rep (rv neg a d)).1) (n := (rep (rv neg a d)).2.1) (d := (rep (rv neg a d)).2.2) (U_lb _) (U_lb _) (by omega) (by omega)
  rw [rv_rep] at hsg
  generalize rv neg a d = q at *
  refine Ev.bind ht ?_
  unfold qpow
  by_cases c : n < 0
  · rw [if_pos c]
    refine Ev_pos c (Ev.bind hsg ?_)
    by_cases h0 : q.num = 0
    · rw [if_pos h0]; exact Ev_pos (sgq_zero'.mpr h0) (Ev.now _)
    · rw [if_neg h0]; exact Ev_neg (fun h => h0 (sgq_zero'.mp h)) (pow_j0 hs.2 hs.1 hn fy fx)
  · rw [if_neg c]; exact Ev_neg c (pow_j0 hs.1 hs.2 hn fx fy)
theorem rPow_f {neg : Bool} {a d : List Int} (un : U a) (ud : U d) (ln : a.length ≤ 1000) (ld : d.length ≤ 1000) {n : Int} (hn : I64 n) (fx : Fit (rv neg a d).num.natAbs n.natAbs) (fy : Fit (rv neg a d).den n.natAbs) :
    Ev (fun k => codewrightref02_Pow.f k neg a d n) (qpow (rv neg a d) n) := by
  have hs : Sz 1000 (rv neg a d) := Sz_rv un ud ln ld (by omega)
  have ht := rTrim02_f (neg := neg) un ud (by omega) (by omega)
  have hrl := rep_len hs
  have ht2 := rTrim02_f (neg := (rep (rv neg a d)).1) (n := (rep (rv neg a d)).2.1) (d := (rep (rv neg a d)).2.2) (U_lb _) (U_lb _) (by omega) (by omega)
  rw [rv_rep] at ht2
  generalize rv neg a d = q at *
  refine Ev.bind ht ?_
  unfold qpow
  by_cases c : n < 0
  · rw [if_pos c]
    refine Ev_pos c ?_
    by_cases h0 : q.num = 0
    · rw [if_pos h0]
      have : (rep q).2.1.length = 0 := lb_len_zero.mpr (by rw [h0]; rfl)
      exact Ev_pos (by omega) (Ev.now _)
    · rw [if_neg h0]
      have : (rep q).2.1.length ≠ 0 := fun e => h0 (Int.natAbs_eq_zero.mp (lb_len_zero.mp e))
      refine Ev_neg (by omega) (Ev.bind (a := ((rep q).1, (rep q).2.2, (rep q).2.1)) (Ev.bind ht2 (Ev.now _)) ?_)
      exact rpow_j0 hs.2 hs.1 hn fy fx
  · rw [if_neg c]; exact Ev_neg c (rpow_j0 hs.1 hs.2 hn fx fy)
end Go.Proofs.Ytecfdemglbfnoaa.Num
end
section
namespace Go.Proofs.Ytecfdemglbfnoaa.Num
open Go.RowKit Go.Proofs.Ytecfdemglbfnoaa.PT Go.Proofs.YtecfdemglbfnoaaW.PrintWords Go.Proofs.YtecfdemglbfnoaaW.PrintLast Go.Proofs.YtecfdemglbfnoaaW.PrintMore
theorem pw_pow (L m : Nat) : pw L ^ m = pw (L * m) := by rw [pw_eq, pw_eq, Nat.pow_mul]
theorem fit_small {v L m : Nat} (hv : v < pw L) (hm : 32 * L * m ≤ 4000) : Fit v m := by
  intro h2 _
  have hL : L ≠ 0 := by intro h; subst h; rw [pw_zero] at hv; omega
  have hz : sz v * m ≤ 4000 := Nat.le_trans (Nat.mul_le_mul_right _ (sz_le_pw hv)) hm
  have hLm : L * m ≤ 125 := by
    have : 32 * (L * m) ≤ 4000 := by rw [← Nat.mul_assoc]; exact hm
    omega
  refine ⟨?_, hz⟩
  by_cases h0 : m = 0
  · subst h0; rw [Nat.pow_zero]; exact Nat.lt_of_lt_of_le (by decide : 1 < 4294967296) (by rw [← Nat.one_mul 4294967296, ← pw_zero, ← pw_succ]; exact pw_mono (by omega))
  · refine Nat.lt_of_lt_of_le (Nat.pow_lt_pow_left hv h0) ?_
    rw [pw_pow]; exact pw_mono hLm
theorem fit_one {v m : Nat} (hv : v ≤ 1) : Fit v m := fun h => absurd h (by omega)
/-- The parts of a fraction whose data have few limbs. -/
theorem fit_rv {neg : Bool} {a d : List Int} (ua : U a) (ud : U d) {m : Nat} (h : 131072 < m ∨ 32 * (a.length + d.length) * m ≤ 4000) : Fit (rv neg a d).num.natAbs m ∧ Fit (rv neg a d).den m := by
  rcases h with h | h
  · exact ⟨Fit_big h, Fit_big h⟩
  · by_cases h0 : a.length + d.length = 0
    · have e : rv neg a d = 0 := rv_zero_num neg (by rw [List.length_eq_zero_iff.mp (by omega : a.length = 0)]; rfl)
      rw [e]; exact ⟨fit_one (by decide), fit_one (by decide)⟩
    · have hs : Sz (a.length + d.length) (rv neg a d) := Sz_rv ua ud (by omega) (by omega) (by omega)
      exact ⟨fit_small hs.1 h, fit_small hs.2 h⟩
theorem same_any {x : Bool} {a b : List Int} (la : a.length ≤ 100000000) (lc : b.length ≤ 100000000) : Ev (fun k => codewrightlaw02_same.f k x a b x a b) true := Ev_as (same02_f la lc) (decide_eq_true rfl)
theorem powq_len {neg odd : Bool} {x y m : Nat} (hx : x < pw 1000) (hy : y < pw 1000) (fx : Fit x m) (fy : Fit y m) : (powq neg odd x y m).2.1.length ≤ 100000000 ∧ (powq neg odd x y m).2.2.1.length ≤ 100000000 := by
  obtain ⟨ux, lx⟩ := powr_ok hx fx
  obtain ⟨uy, ly⟩ := powr_ok hy fy
  unfold powq
  split
  · have := rep_len (Sz_rv (neg := neg && odd) ux uy lx ly (by omega))
    exact ⟨by show (rep _).2.1.length ≤ _; omega, by show (rep _).2.2.length ≤ _; omega⟩
  · exact ⟨by simp, by simp⟩
theorem qpow_len {q : Rat} {n : Int} (hs : Sz 1000 q) (fx : Fit q.num.natAbs n.natAbs) (fy : Fit q.den n.natAbs) : (qpow q n).2.1.length ≤ 100000000 ∧ (qpow q n).2.2.1.length ≤ 100000000 := by
  unfold qpow
  split
  · split
    · exact ⟨by simp, by simp⟩
    · exact powq_len hs.2 hs.1 fy fx
  · exact powq_len hs.1 hs.2 fx fy
theorem powers_j {neg : Bool} {a d : List Int} (ua : U a) (ud : U d) (la : a.length + d.length ≤ 6) {n : Int} (hn : I64 n) (b : Bool) (hb : b = true ∨ (131072 < n.natAbs ∨ 32 * (a.length + d.length) * n.natAbs ≤ 4000)) :
    Ev (fun k => codewrightlaw02_RationalPowers.j0 k n b neg a d) true := by
  refine Ev_succ ?_
  simp only [codewrightlaw02_RationalPowers.j0]
  cases b with
  | true => exact Ev_pos (by first | trivial | rfl) (Ev.now _)
  | false =>
    have h : 131072 < n.natAbs ∨ 32 * (a.length + d.length) * n.natAbs ≤ 4000 := hb.resolve_left (by decide)
    obtain ⟨fx, fy⟩ := fit_rv (neg := neg) ua ud h
    have hs : Sz 1000 (rv neg a d) := Sz_rv ua ud (by omega) (by omega) (by omega)
    have hl := qpow_len hs fx fy
    have p1 := Pow_f (neg := neg) ua ud (by omega) (by omega) hn fx fy
    have p2 := rPow_f (neg := neg) ua ud (by omega) (by omega) hn fx fy
    exact Ev_neg (by decide) (Ev.bind p1 (Ev.bind p2 (Ev_pos rfl (Ev.bind (same_any hl.1 hl.2) (Ev.now _)))))
theorem powers_f {neg : Bool} {a d : List Int} (ua : U a) (ud : U d) (ln : a.length < 2305843009213693952) (ld : d.length < 2305843009213693952) {n : Int} (hn : I64 n) : Ev (fun k => codewrightlaw02_RationalPowers.f k neg a d n) true := by
  have hg := long02_f 6 [(⟨neg, a, d⟩ : S67)] (by simp) (by intro x hx; simp only [List.mem_singleton] at hx; subst hx; exact ⟨ln, ld⟩)
  simp only [List.any_cons, List.any_nil, Bool.or_false] at hg
  refine Ev.bind hg ?_
  by_cases c : 6 < a.length + d.length
  · refine Ev_pos (decide_eq_true c) (Ev_succ ?_)
    simp only [codewrightlaw02_RationalPowers.j0]
    exact Ev_pos (by first | trivial | rfl) (Ev.now _)
  · refine Ev_neg (by rw [decide_eq_false c]; decide) ?_
    have hn' := hn
    unfold I64 at hn
    by_cases hmin : n = -9223372036854775808
    · subst hmin
      have em : mx (-9223372036854775808) (wrap64 (-(-9223372036854775808))) = -9223372036854775808 := by
        have : wrap64 (-(-9223372036854775808)) = -9223372036854775808 := by unfold wrap64; rfl
        rw [this]; rfl
      rw [em]
      exact Ev_pos (by decide) (powers_j ua ud (by omega) hn' _ (.inr (.inl (by decide))))
    · have wn : wrap64 (-n) = -n := w64 (by omega) (by omega)
      have em : mx n (-n) = ((n.natAbs : Nat) : Int) := by unfold mx; split <;> omega
      rw [wn, em]
      clear wn em
      by_cases hs : ((n.natAbs : Nat) : Int) ≤ 140000
      · refine Ev_pos hs (powers_j ua ud (by omega) hn' _ ?_)
        have e1 : wrap64 ((a.length : Int) + (d.length : Int)) = ((a.length + d.length : Nat) : Int) := by rw [w64 (by omega) (by omega)]; rfl
        rw [e1]
        clear e1
        obtain ⟨L, hL⟩ : ∃ L, a.length + d.length = L := ⟨_, rfl⟩
        rw [hL] at c ⊢
        obtain ⟨m, hm⟩ : ∃ m, n.natAbs = m := ⟨_, rfl⟩
        rw [hm] at hs ⊢
        have e2 : wrap64 (32 * ((L : Nat) : Int)) = ((32 * L : Nat) : Int) := by rw [w64 (by omega) (by omega)]; omega
        have b3 : 32 * L * m ≤ 192 * 140000 := Nat.mul_le_mul (by clear e2; omega) (by clear e2; omega)
        rw [e2, ← Int.natCast_mul]
        clear e2
        obtain ⟨z, hz⟩ : ∃ z, 32 * L * m = z := ⟨_, rfl⟩
        rw [hz] at b3 ⊢
        have e3 : wrap64 ((z : Nat) : Int) = ((z : Nat) : Int) := w64 (by omega) (by omega)
        rw [e3]
        clear e3
        by_cases h4 : (z : Int) > 4000
        · exact .inl (decide_eq_true h4)
        · exact .inr (.inr (by omega))
      · exact Ev_neg hs (powers_j ua ud (by omega) hn' false (.inr (.inl (by omega))))
end Go.Proofs.Ytecfdemglbfnoaa.Num
namespace Go.Proofs.Ytecfdemglbfnoaa.Pure
open Go.RowKit Go.Proofs.Ytecfdemglbfnoaa.PT Go.Proofs.Ytecfdemglbfnoaa.Num
theorem u32_U {l : List Int} (h : ∀ x ∈ l, IntKind.u32.min ≤ x ∧ x ≤ IntKind.u32.max) : U l := by
  intro x hx
  have h1 := h x hx
  have e1 : IntKind.u32.min = 0 := rfl
  have e2 : IntKind.u32.max = 4294967295 := rfl
  omega
theorem i64_I {x : Int} (h : (Lit.int .i64 x).wf = true) : I64 x := by
  simp [Lit.wf, IntKind.min, IntKind.max, IntKind.signed, IntKind.bits] at h
  unfold I64; omega
theorem RationalPowers (b : Bool) (l0 l1 : List Int) (h : True ∧ (l0.length * 4 ≤ reachBytes ∧ ∀ x ∈ l0, IntKind.u32.min ≤ x ∧ x ≤ IntKind.u32.max) ∧ (l1.length * 4 ≤ reachBytes ∧ ∀ x ∈ l1, IntKind.u32.min ≤ x ∧ x ≤ IntKind.u32.max)) (n : Int) (w : (Lit.int .i64 n).wf = true) : ∃ k, codewrightlaw02_RationalPowers.f k b l0 l1 n = some true := by
  have hR : reachBytes = 140737488351232 := rfl
  obtain ⟨_, h0, h1⟩ := h
  exact (powers_f (u32_U h0.2) (u32_U h1.2) (by have := h0.1; omega) (by have := h1.1; omega) (i64_I w)).rounds
end Go.Proofs.Ytecfdemglbfnoaa.Pure
end
section
namespace Go.Proofs.Ytecfdemglbfnoaa.Open
open Go.ChangeShapes Go.WideShapes Go.Deep Go.Proofs.YtecfdemglbfnoaaW.PrintWords
section
variable {H : Type} (enc : TypeId × Value → H) (P : Program) (W : World)
/-- What reads as data of type t, within the reach, holds a value of kind d that meets Q. -/
def Op {α : Type} (d : Kd α) (Q : α → Prop) (t : TypeId) : Prop :=
  ∀ (fuel : Nat) (cs : List Value) (x : DataW H × List MemPlace), DataW.trod enc P W 0 (fun _ => true) true fuel t cs = some x → (∀ n ∈ x.1.weights P t, n ≤ reachBytes) → ∃ y, d.K W y cs ∧ Q y
end
section
variable {H : Type} {enc : TypeId × Value → H} {P : Program} {W : World}
theorem op_int {t : TypeId} {k : IntKind} (ht : P.underlying t = some (.int k)) : Op enc P W (Kd.int k) (fun n => k.min ≤ n ∧ n ≤ k.max) t := by
  intro fuel cs x h _
  obtain ⟨n, rfl, _, hw⟩ := DataW.trod_int ht h
  exact ⟨n, rfl, by simpa [Lit.wf] using hw⟩
theorem op_bool {t : TypeId} (ht : P.underlying t = some .bool) : Op enc P W Kd.bool (fun _ => True) t := by
  intro fuel cs x h _
  obtain ⟨n, rfl, _⟩ := DataW.trod_bool ht h
  exact ⟨n, rfl, trivial⟩
theorem mem_weightsAll {e : TypeId} {D : DataW H} : ∀ {l : List (DataW H)}, D ∈ l → ∀ n ∈ D.weights P e, n ∈ DataW.weightsAll P e l
  | d :: r, h, n, hn => by
    simp only [DataW.weightsAll, List.mem_append]
    rcases List.mem_cons.1 h with rfl | h
    · exact .inl hn
    · exact .inr (mem_weightsAll h n hn)
theorem op_slice {α : Type} {d : Kd α} {Q : α → Prop} {t e B : Nat} (ht : P.underlying t = some (.slice e)) (he : Op enc P W d Q e) (hc : P.cellsOf e = d.sz) (hB : P.bytesOf e = B) :
    Op enc P W (Kd.slice e d) (fun l => l.length * B ≤ reachBytes ∧ ∀ x ∈ l, Q x) t := by
  intro fuel cs x h hw
  rcases open_slice ht h with ⟨rfl, _⟩ | ⟨a, len, cap, m, n, D, Pl, rfl, _, hl, hm, hmm, rfl, hi⟩
  · exact ⟨[], ⟨none, 0, rfl, Nat.le_refl _, Kd.C_nil d W⟩, by simp, by simp⟩
  · simp only [if_true] at hmm
    subst hmm
    have hwl : ((DataW.slice ((List.range len).map D) ((List.range (m - len)).map fun j => D (len + j))).weights P t) = ((List.range len).map D).length.add ((List.range (m - len)).map fun j => D (len + j)).length * P.bytesOf e :: (DataW.weightsAll P e ((List.range len).map D) ++ DataW.weightsAll P e ((List.range (m - len)).map fun j => D (len + j))) := by
      simp only [DataW.weights, ht]; rfl
    rw [hwl] at hw
    have each : ∀ i, i < len → ∃ y : α, (∃ cs', W.cells? 0 (a.add (i * P.cellsOf e)) (P.cellsOf e) = some cs' ∧ d.K W y cs') ∧ Q y := by
      intro i hlt
      obtain ⟨cs', h1, h2⟩ := hi i (by omega)
      obtain ⟨y, hK, hq⟩ := he _ _ _ h2 (fun n hn => hw n (List.mem_cons_of_mem _ (List.mem_append.2 (.inl (mem_weightsAll (List.mem_map.2 ⟨i, List.mem_range.2 hlt, rfl⟩) n hn)))))
      exact ⟨y, ⟨cs', h1, hK⟩, hq⟩
    have hf : ∃ f : Nat → Option α, ∀ i, i < len → ∃ y, f i = some y ∧ (∃ cs', W.cells? 0 (a.add (i * P.cellsOf e)) (P.cellsOf e) = some cs' ∧ d.K W y cs') ∧ Q y := by
      refine ⟨fun i => if h : i < len then some (Classical.choose (each i h)) else none, fun i hlt => ⟨_, dif_pos hlt, Classical.choose_spec (each i hlt)⟩⟩
    obtain ⟨f, hf⟩ := hf
    have hl1 : ((List.range len).filterMap f).length = len ∧ ∀ i, i < len → ((List.range len).filterMap f)[i]? = f i := by
      clear hw hwl each hi h hl hm
      induction len with
      | zero => simp
      | succ k ih =>
        obtain ⟨h1, h2⟩ := ih (fun i hi => hf i (by omega))
        obtain ⟨y, hy, _⟩ := hf k (by omega)
        rw [List.range_succ, List.filterMap_append]
        have e : List.filterMap f [k] = [y] := by simp [List.filterMap, hy]
        rw [e]
        refine ⟨by simp [h1], fun i hi => ?_⟩
        by_cases hk : i < k
        · rw [List.getElem?_append_left (by omega), h2 i hk]
        · obtain rfl : i = k := by omega
          rw [List.getElem?_append_right (by omega), h1]; simp [hy]
    refine ⟨(List.range len).filterMap f, ⟨some a, m, by rw [hl1.1], by rw [hl1.1]; exact hl, rfl, ?_, fun hp => ⟨a, rfl, fun j p hj => ?_⟩⟩, ?_, fun y hy => ?_⟩
    · rw [hl1.1]; unfold maxLen at hm; omega
    · have hjl : j < len := by have := (List.getElem?_eq_some_iff.1 hj).1; rw [hl1.1] at this; exact this
      obtain ⟨y, hy, ⟨cs', hc1, hK⟩, _⟩ := hf j hjl
      rw [hl1.2 j hjl, hy] at hj
      obtain rfl := Option.some.inj hj
      obtain ⟨_, hcl, hat⟩ := World.cells?_some hc1
      refine ⟨cs', d.K_len hK, hK, fun i u hu => ?_⟩
      have hil : i < P.cellsOf e := by have := (List.getElem?_eq_some_iff.1 hu).1; omega
      rw [← hc, ← Go.Deep.add_add]
      rw [hat i hil, hu]
    · have := hw _ (List.mem_cons_self ..)
      rw [hl1.1]
      have h3 : ((List.range len).map D).length.add ((List.range (m - len)).map fun j => D (len + j)).length = m := by simp; omega
      rw [h3, hB] at this
      exact Nat.le_trans (Nat.mul_le_mul_right _ hl) this
    · obtain ⟨i, hi1, hi2⟩ := List.mem_filterMap.1 hy
      obtain ⟨y', hy', _, hq⟩ := hf i (List.mem_range.1 hi1)
      rw [hy'] at hi2
      obtain rfl := Option.some.inj hi2
      exact hq
theorem take_split {cs : List Value} {a b : Nat} (h : cs.length = a + b) : cs = (cs.drop 0).take a ++ (cs.drop a).take b := by
  rw [List.drop_zero, List.take_of_length_le (l := cs.drop a) (by rw [List.length_drop]; omega), List.take_append_drop]
theorem op_triple {α β γ : Type} {a : Kd α} {b : Kd β} {c : Kd γ} {Qa : α → Prop} {Qb : β → Prop} {Qc : γ → Prop} {t : TypeId} {f0 f1 f2 : Field} (ht : P.underlying t = some (.struct #[f0, f1, f2])) (h0 : Op enc P W a Qa f0.type) (h1 : Op enc P W b Qb f1.type) (h2 : Op enc P W c Qc f2.type)
    (o0 : f0.offset = 0) (s0 : P.cellsOf f0.type = a.sz) (o1 : f1.offset = a.sz) (s1 : P.cellsOf f1.type = b.sz) (o2 : f2.offset = a.sz + b.sz) (s2 : P.cellsOf f2.type = c.sz) (st : P.cellsOf t = a.sz + (b.sz + c.sz)) :
    Op enc P W (Kd.pair a (Kd.pair b c)) (fun y => Qa y.1 ∧ Qb y.2.1 ∧ Qc y.2.2) t := by
  intro fuel cs x hx hw
  obtain ⟨xs, n, _, rfl, hcl, hlen, hf⟩ := DataW.trod_struct ht hx
  have hwl : ((DataW.agg (xs.map (·.1)) : DataW H).weights P t) = DataW.weightsEach P [f0.type, f1.type, f2.type] (xs.map (·.1)) := by
    simp only [DataW.weights, ht]; rfl
  rw [hwl] at hw
  obtain ⟨y0, y1, y2, rfl⟩ : ∃ y0 y1 y2, xs = [y0, y1, y2] := by
    match xs, hlen with
    | [y0, y1, y2], _ => exact ⟨y0, y1, y2, rfl⟩
  · have e0 := hf 0 f0 rfl
    have e1 := hf 1 f1 rfl
    have e2 := hf 2 f2 rfl
    rw [o0, s0] at e0
    rw [o1, s1] at e1
    rw [o2, s2] at e2
    simp only [List.map_cons, List.map_nil, DataW.weightsEach, List.mem_append] at hw
    obtain ⟨z0, k0, q0⟩ := h0 _ _ _ e0 (fun n hn => hw n (.inl hn))
    obtain ⟨z1, k1, q1⟩ := h1 _ _ _ e1 (fun n hn => hw n (.inr (.inl hn)))
    obtain ⟨z2, k2, q2⟩ := h2 _ _ _ e2 (fun n hn => hw n (.inr (.inr (.inl hn))))
    refine ⟨(z0, z1, z2), ⟨_, _, take_split (a := a.sz) (b := b.sz + c.sz) (by rw [hcl, st]), k0, _, _, ?_, k1, k2⟩, q0, q1, q2⟩
    rw [List.take_of_length_le (l := cs.drop a.sz) (by rw [List.length_drop, hcl, st]; omega)]
    have h4 := take_split (cs := cs.drop a.sz) (a := b.sz) (b := c.sz) (by rw [List.length_drop, hcl, st]; omega)
    rw [List.drop_zero, List.drop_drop] at h4
    exact h4
end
end Go.Proofs.Ytecfdemglbfnoaa.Open
end
