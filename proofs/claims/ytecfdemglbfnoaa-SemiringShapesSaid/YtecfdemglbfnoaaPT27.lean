/- Walks of functions of the program, printed by a program of this session out of the translation: each call of such a function comes to what the function of the same name beside it says. No condition beyond those that each theorem names. -/
import Derived.Test.YtecfdemglbfnoaaPT0
namespace Go.Proofs.Ytecfdemglbfnoaa.PT
open Go.RowKit Go.Proofs.YtecfdemglbfnoaaW.PrintWords Go.Proofs.YtecfdemglbfnoaaW.PrintLast Go.Proofs.YtecfdemglbfnoaaW.PrintMore
attribute [local go_sem] max2_int min2_int max_two min_two max_three min_three max_four min_four   -- for this text's walks alone
set_option linter.unusedVariables false
set_option linter.unusedSimpArgs false

/-! ### codewrightref46_Shape: function 48 -/
mutual
def codewrightref46_Shape.j0 : Nat → Bool → List Int → List (List (S124)) → Option (Int)
  | 0, _, _, _ => none
  | k + 1, x24, x230000, x230001 => if x24 = true then (some 3) else (codewrightref46_Shape.l0 k 0 0 x230000 x230001)
def codewrightref46_Shape.l0 : Nat → Int → Int → List Int → List (List (S124)) → Option (Int)
  | 0, _, _, _, _ => none
  | k + 1, x3, x4, x230000, x230001 => if x4 < (x230000.length : Int) then (if 0 ≤ x4 then (if (rd x230000 x4) < 1 then (some 6) else (codewrightref46_Shape.l0 k x3 (wrap64 (x4 + 1)) x230000 x230001)) else (none)) else (codewrightref46_Shape.l1 k x3 0 x230000 x230001)
def codewrightref46_Shape.l1 : Nat → Int → Int → List Int → List (List (S124)) → Option (Int)
  | 0, _, _, _, _ => none
  | k + 1, x3, x5, x230000, x230001 => if x5 < (x230000.length : Int) then (if 0 ≤ x5 then (if (rd x230000 x5) > (wrap64 (65536 - x3)) then (some 8) else (codewrightref46_Shape.l1 k (wrap64 (x3 + (rd x230000 x5))) (wrap64 (x5 + 1)) x230000 x230001)) else (none)) else (codewrightref46_Shape.l2 k 0 0 x230000 x230001)
def codewrightref46_Shape.l2 : Nat → Int → Int → List Int → List (List (S124)) → Option (Int)
  | 0, _, _, _, _ => none
  | k + 1, x6, x7, x230000, x230001 => if x7 < (x230001.length : Int) then (if 0 ≤ x7 then (if ((rd_L2 x230001 x7).length : Int) > (wrap64 (262144 - x6)) then (some 8) else (codewrightref46_Shape.l2 k (wrap64 (x6 + ((rd_L2 x230001 x7).length : Int))) (wrap64 (x7 + 1)) x230000 x230001)) else (none)) else (codewrightref46_Shape.l3 k 0 x230000 x230001)
def codewrightref46_Shape.l3 : Nat → Int → List Int → List (List (S124)) → Option (Int)
  | 0, _, _, _ => none
  | k + 1, x8, x230000, x230001 => if x8 < (x230001.length : Int) then (codewrightref46_Shape.l4 k x8 0 x230000 x230001) else (some 0)
def codewrightref46_Shape.l4 : Nat → Int → Int → List Int → List (List (S124)) → Option (Int)
  | 0, _, _, _, _ => none
  | k + 1, x8, x9, x230000, x230001 => if 0 ≤ x8 then (if x8 < (x230001.length : Int) then (if x9 < ((rd_L2 x230001 x8).length : Int) then (if 0 ≤ x9 then (if ((rd_T124 (rd_L2 x230001 x8) x9).f0) < 0 then (some 6) else (if x8 < (x230000.length : Int) then (if ((rd_T124 (rd_L2 x230001 x8) x9).f0) ≥ (rd x230000 x8) then (some 6) else (if ((rd_T124 (rd_L2 x230001 x8) x9).f2) < 0 then (some 6) else (if 0 ≤ (wrap64 (x8 + 1)) then (if (wrap64 (x8 + 1)) < (x230000.length : Int) then (if ((rd_T124 (rd_L2 x230001 x8) x9).f2) ≥ (rd x230000 (wrap64 (x8 + 1))) then (some 6) else (codewrightref46_Shape.l4 k x8 (wrap64 (x9 + 1)) x230000 x230001)) else (none)) else (none)))) else (none))) else (none)) else (codewrightref46_Shape.l3 k (wrap64 (x8 + 1)) x230000 x230001)) else (none)) else (none)
end
def codewrightref46_Shape.f (k : Nat) (l0_0 : List Int) (l0_1 : List (List (S124))) : Option (Int) := if (l0_1.length : Int) > 64 then (codewrightref46_Shape.j0 k true l0_0 l0_1) else (codewrightref46_Shape.j0 k ((l0_0.length : Int) != (wrap64 ((l0_1.length : Int) + 1))) l0_0 l0_1)
theorem codewrightref46_Shape.mono_l : ∀ k, (∀ y0 y1 y2, LeO (codewrightref46_Shape.j0 k y0 y1 y2) (codewrightref46_Shape.j0 (k + 1) y0 y1 y2)) ∧ (∀ y0 y1 y2 y3, LeO (codewrightref46_Shape.l0 k y0 y1 y2 y3) (codewrightref46_Shape.l0 (k + 1) y0 y1 y2 y3)) ∧ (∀ y0 y1 y2 y3, LeO (codewrightref46_Shape.l1 k y0 y1 y2 y3) (codewrightref46_Shape.l1 (k + 1) y0 y1 y2 y3)) ∧ (∀ y0 y1 y2 y3, LeO (codewrightref46_Shape.l2 k y0 y1 y2 y3) (codewrightref46_Shape.l2 (k + 1) y0 y1 y2 y3)) ∧ (∀ y0 y1 y2, LeO (codewrightref46_Shape.l3 k y0 y1 y2) (codewrightref46_Shape.l3 (k + 1) y0 y1 y2)) ∧ (∀ y0 y1 y2 y3, LeO (codewrightref46_Shape.l4 k y0 y1 y2 y3) (codewrightref46_Shape.l4 (k + 1) y0 y1 y2 y3))
  | 0 => ⟨fun _ _ _ r h => by simp [codewrightref46_Shape.j0] at h, fun _ _ _ _ r h => by simp [codewrightref46_Shape.l0] at h, fun _ _ _ _ r h => by simp [codewrightref46_Shape.l1] at h, fun _ _ _ _ r h => by simp [codewrightref46_Shape.l2] at h, fun _ _ _ r h => by simp [codewrightref46_Shape.l3] at h, fun _ _ _ _ r h => by simp [codewrightref46_Shape.l4] at h⟩
  | k + 1 => by
    obtain ⟨ih0, ih1, ih2, ih3, ih4, ih5⟩ := codewrightref46_Shape.mono_l k
    refine ⟨?_, ?_, ?_, ?_, ?_, ?_⟩
    · intro y0 y1 y2
      unfold codewrightref46_Shape.j0
      repeat' first
      | (with_reducible exact ih0 _ _ _)
      | (with_reducible exact ih1 _ _ _ _)
      | (with_reducible exact ih2 _ _ _ _)
      | (with_reducible exact ih3 _ _ _ _)
      | (with_reducible exact ih4 _ _ _)
      | (with_reducible exact ih5 _ _ _ _)
      | (with_reducible exact LeO.refl _)
      | (with_reducible exact LeO.none _)
      | (with_reducible refine LeO.ite ?_ ?_)
      | (with_reducible refine LeO.bind ?_ (fun _ => ?_))
      | exact ih0 _ _ _
      | exact ih1 _ _ _ _
      | exact ih2 _ _ _ _
      | exact ih3 _ _ _ _
      | exact ih4 _ _ _
      | exact ih5 _ _ _ _
      | exact LeO.none _
      | refine LeO.ite ?_ ?_
      | refine LeO.bind ?_ (fun _ => ?_)
    · intro y0 y1 y2 y3
      unfold codewrightref46_Shape.l0
      repeat' first
      | (with_reducible exact ih0 _ _ _)
      | (with_reducible exact ih1 _ _ _ _)
      | (with_reducible exact ih2 _ _ _ _)
      | (with_reducible exact ih3 _ _ _ _)
      | (with_reducible exact ih4 _ _ _)
      | (with_reducible exact ih5 _ _ _ _)
      | (with_reducible exact LeO.refl _)
      | (with_reducible exact LeO.none _)
      | (with_reducible refine LeO.ite ?_ ?_)
      | (with_reducible refine LeO.bind ?_ (fun _ => ?_))
      | exact ih0 _ _ _
      | exact ih1 _ _ _ _
      | exact ih2 _ _ _ _
      | exact ih3 _ _ _ _
      | exact ih4 _ _ _
      | exact ih5 _ _ _ _
      | exact LeO.none _
      | refine LeO.ite ?_ ?_
      | refine LeO.bind ?_ (fun _ => ?_)
    · intro y0 y1 y2 y3
      unfold codewrightref46_Shape.l1
      repeat' first
      | (with_reducible exact ih0 _ _ _)
      | (with_reducible exact ih1 _ _ _ _)
      | (with_reducible exact ih2 _ _ _ _)
      | (with_reducible exact ih3 _ _ _ _)
      | (with_reducible exact ih4 _ _ _)
      | (with_reducible exact ih5 _ _ _ _)
      | (with_reducible exact LeO.refl _)
      | (with_reducible exact LeO.none _)
      | (with_reducible refine LeO.ite ?_ ?_)
      | (with_reducible refine LeO.bind ?_ (fun _ => ?_))
      | exact ih0 _ _ _
      | exact ih1 _ _ _ _
      | exact ih2 _ _ _ _
      | exact ih3 _ _ _ _
      | exact ih4 _ _ _
      | exact ih5 _ _ _ _
      | exact LeO.none _
      | refine LeO.ite ?_ ?_
      | refine LeO.bind ?_ (fun _ => ?_)
    · intro y0 y1 y2 y3
      unfold codewrightref46_Shape.l2
      repeat' first
      | (with_reducible exact ih0 _ _ _)
      | (with_reducible exact ih1 _ _ _ _)
      | (with_reducible exact ih2 _ _ _ _)
      | (with_reducible exact ih3 _ _ _ _)
      | (with_reducible exact ih4 _ _ _)
      | (with_reducible exact ih5 _ _ _ _)
      | (with_reducible exact LeO.refl _)
      | (with_reducible exact LeO.none _)
      | (with_reducible refine LeO.ite ?_ ?_)
      | (with_reducible refine LeO.bind ?_ (fun _ => ?_))
      | exact ih0 _ _ _
      | exact ih1 _ _ _ _
      | exact ih2 _ _ _ _
      | exact ih3 _ _ _ _
      | exact ih4 _ _ _
      | exact ih5 _ _ _ _
      | exact LeO.none _
      | refine LeO.ite ?_ ?_
      | refine LeO.bind ?_ (fun _ => ?_)
    · intro y0 y1 y2
      unfold codewrightref46_Shape.l3
      repeat' first
      | (with_reducible exact ih0 _ _ _)
      | (with_reducible exact ih1 _ _ _ _)
      | (with_reducible exact ih2 _ _ _ _)
      | (with_reducible exact ih3 _ _ _ _)
      | (with_reducible exact ih4 _ _ _)
      | (with_reducible exact ih5 _ _ _ _)
      | (with_reducible exact LeO.refl _)
      | (with_reducible exact LeO.none _)
      | (with_reducible refine LeO.ite ?_ ?_)
      | (with_reducible refine LeO.bind ?_ (fun _ => ?_))
      | exact ih0 _ _ _
      | exact ih1 _ _ _ _
      | exact ih2 _ _ _ _
      | exact ih3 _ _ _ _
      | exact ih4 _ _ _
      | exact ih5 _ _ _ _
      | exact LeO.none _
      | refine LeO.ite ?_ ?_
      | refine LeO.bind ?_ (fun _ => ?_)
    · intro y0 y1 y2 y3
      unfold codewrightref46_Shape.l4
      repeat' first
      | (with_reducible exact ih0 _ _ _)
      | (with_reducible exact ih1 _ _ _ _)
      | (with_reducible exact ih2 _ _ _ _)
      | (with_reducible exact ih3 _ _ _ _)
      | (with_reducible exact ih4 _ _ _)
      | (with_reducible exact ih5 _ _ _ _)
      | (with_reducible exact LeO.refl _)
      | (with_reducible exact LeO.none _)
      | (with_reducible refine LeO.ite ?_ ?_)
      | (with_reducible refine LeO.bind ?_ (fun _ => ?_))
      | exact ih0 _ _ _
      | exact ih1 _ _ _ _
      | exact ih2 _ _ _ _
      | exact ih3 _ _ _ _
      | exact ih4 _ _ _
      | exact ih5 _ _ _ _
      | exact LeO.none _
      | refine LeO.ite ?_ ?_
      | refine LeO.bind ?_ (fun _ => ?_)
theorem codewrightref46_Shape.mono : ∀ a0 a1 k, LeO (codewrightref46_Shape.f k a0 a1) (codewrightref46_Shape.f (k + 1) a0 a1) := by
  intro a0 a1 k
  obtain ⟨ih0, ih1, ih2, ih3, ih4, ih5⟩ := codewrightref46_Shape.mono_l k
  unfold codewrightref46_Shape.f
  repeat' first
      | (with_reducible exact ih0 _ _ _)
      | (with_reducible exact ih1 _ _ _ _)
      | (with_reducible exact ih2 _ _ _ _)
      | (with_reducible exact ih3 _ _ _ _)
      | (with_reducible exact ih4 _ _ _)
      | (with_reducible exact ih5 _ _ _ _)
      | (with_reducible exact LeO.refl _)
      | (with_reducible exact LeO.none _)
      | (with_reducible refine LeO.ite ?_ ?_)
      | (with_reducible refine LeO.bind ?_ (fun _ => ?_))
      | exact ih0 _ _ _
      | exact ih1 _ _ _ _
      | exact ih2 _ _ _ _
      | exact ih3 _ _ _ _
      | exact ih4 _ _ _
      | exact ih5 _ _ _ _
      | exact LeO.none _
      | refine LeO.ite ?_ ?_
      | refine LeO.bind ?_ (fun _ => ?_)
set_option maxHeartbeats 8000000 in
set_option maxRecDepth 100000 in
theorem codewrightref46_Shape.calls (k : Nat) (A0_0 : Option Addr) (c0_0 : Nat) (l0_0 : List Int) (A0_1 : Option Addr) (c0_1 : Nat) (l0_1 : List (List (S124))) (r : Int) (w : World) (hr0_0 : Kd.C (Kd.int .i64) w A0_0 l0_0.length l0_0) (hc0_0 : l0_0.length ≤ c0_0) (hr0_1 : Kd.C (Kd.slice 124 k124) w A0_1 l0_1.length l0_1) (hc0_1 : l0_1.length ≤ c0_1) (h : codewrightref46_Shape.f k l0_0 l0_1 = some r) :
    Calls Try.prog 48 #[.agg #[.slice A0_0 l0_0.length c0_0, .slice A0_1 l0_1.length c0_1]] w fun e w' => e = .returned (.int .i64 r) ∧ Below w.heap.size w w' := by
  have hu37 := Try.underlying37
  have hu124 := Try.underlying124
  have HR0_0 := Aside0.mk hr0_0
  have HC0_0 := Aside0.mk hc0_0
  clear hr0_0 hc0_0
  have HR0_1 := Aside0.mk hr0_1
  have HC0_1 := Aside0.mk hc0_1
  clear hr0_1 hc0_1
  have HB := Aside0.mk (Below.refl w.heap.size w)
  have H : (if (l0_1.length : Int) > 64 then (codewrightref46_Shape.j0 k true l0_0 l0_1) else (codewrightref46_Shape.j0 k ((l0_0.length : Int) != (wrap64 ((l0_1.length : Int) + 1))) l0_0 l0_1)) = some r := h
  clear h
  have HC2 := Aside0.mk H
  clear H
  go_enter Try.func48, Try.ntmps48
  go_upto_region 1 with (first | ((with_reducible refine gate_dst (N := 1) rfl ?_); (try (refine gate_guard (by rfl) ?_; dsimp only)); refine box_event ?hg (N := 1) ?hd (cs := #[.slice A0_0 l0_0.length c0_0, .slice A0_1 l0_1.length c0_1]) (t := 37) ?hr ?_; (case hd => rfl); (case hg => rfl); (case hr => first | (go_simp; done) | (go_simp; rfl)); intro gb229 hg w3 hbox hb; have n0_ := Aside0.mk (below_step (by repeat (first | (with_reducible first | exact HB.out | apply below_alloc | apply pw_below_drewN | apply below_drew1) | exact HB.out)) hb); have n1_ := Aside0.mk (hbox); have n2_ := Aside0.mk ((by rw [hg]; exact (below_size (by repeat (first | (with_reducible first | exact HB.out | apply below_alloc | apply pw_below_drewN | apply below_drew1) | exact HB.out))) : w.heap.size ≤ gb229)); have n3_ := Aside0.mk ((by rw [hg]; exact (below_size (by repeat (first | (with_reducible first | exact HB.out | apply below_alloc | apply pw_below_drewN | apply below_drew1) | exact HB.out))) : w.heap.size ≤ gb229)); clear HB; have HB := n0_; have BK229 := n1_; have GW229 := n2_; have GE229 := n3_; clear n0_ n1_ n2_ n3_; clear hb hbox hg))
  repeat (go_quiet (first | ((with_reducible refine gate_dst (N := 1) rfl ?_); (try (refine gate_guard (by rfl) ?_; dsimp only)); refine box_event ?hg (N := 1) ?hd (cs := #[.slice A0_0 l0_0.length c0_0, .slice A0_1 l0_1.length c0_1]) (t := 37) ?hr ?_; (case hd => rfl); (case hg => rfl); (case hr => first | (go_simp; done) | (go_simp; rfl)); intro gb229 hg w3 hbox hb; have n0_ := Aside0.mk (below_step (by repeat (first | (with_reducible first | exact HB.out | apply below_alloc | apply pw_below_drewN | apply below_drew1) | exact HB.out)) hb); have n1_ := Aside0.mk (hbox); have n2_ := Aside0.mk ((by rw [hg]; exact (below_size (by repeat (first | (with_reducible first | exact HB.out | apply below_alloc | apply pw_below_drewN | apply below_drew1) | exact HB.out))) : w.heap.size ≤ gb229)); have n3_ := Aside0.mk ((by rw [hg]; exact (below_size (by repeat (first | (with_reducible first | exact HB.out | apply below_alloc | apply pw_below_drewN | apply below_drew1) | exact HB.out))) : w.heap.size ≤ gb229)); clear HB; have HB := n0_; have BK229 := n1_; have GW229 := n2_; have GE229 := n3_; clear n0_ n1_ n2_ n3_; clear hb hbox hg)); go_upto_region 1 with (first | ((with_reducible refine gate_dst (N := 1) rfl ?_); (try (refine gate_guard (by rfl) ?_; dsimp only)); refine box_event ?hg (N := 1) ?hd (cs := #[.slice A0_0 l0_0.length c0_0, .slice A0_1 l0_1.length c0_1]) (t := 37) ?hr ?_; (case hd => rfl); (case hg => rfl); (case hr => first | (go_simp; done) | (go_simp; rfl)); intro gb229 hg w3 hbox hb; have n0_ := Aside0.mk (below_step (by repeat (first | (with_reducible first | exact HB.out | apply below_alloc | apply pw_below_drewN | apply below_drew1) | exact HB.out)) hb); have n1_ := Aside0.mk (hbox); have n2_ := Aside0.mk ((by rw [hg]; exact (below_size (by repeat (first | (with_reducible first | exact HB.out | apply below_alloc | apply pw_below_drewN | apply below_drew1) | exact HB.out))) : w.heap.size ≤ gb229)); have n3_ := Aside0.mk ((by rw [hg]; exact (below_size (by repeat (first | (with_reducible first | exact HB.out | apply below_alloc | apply pw_below_drewN | apply below_drew1) | exact HB.out))) : w.heap.size ≤ gb229)); clear HB; have HB := n0_; have BK229 := n1_; have GW229 := n2_; have GE229 := n3_; clear n0_ n1_ n2_ n3_; clear hb hbox hg)))
  (try simp only [Act.put, List.setIfInBounds_toArray, List.set_cons_zero, List.set_cons_succ])
  go_cut [24] (fun v24 wc => ∃ (kq : Nat) (x24_1 : Bool), v24 = .bool x24_1 ∧ Aside0 (codewrightref46_Shape.j0 kq x24_1 l0_0 l0_1 = some r) ∧ Aside0 (kq ≤ k) ∧ Aside0 (wc.heap[gb229]? = some (.cells #[(.slice A0_0 l0_0.length c0_0), (.slice A0_1 l0_1.length c0_1)] 37 (0, 0))) ∧ Aside0 (Below w.heap.size w wc))
  case first =>
    have H := HC2.out
    clear HC2
    by_cases c4 : (l0_1.length : Int) > 64
    · rw [if_pos c4] at H
      have c4b0 : decide (64 < (l0_1.length : Int)) = true := decide_eq_true c4
      have c4b1 : decide (64 < l0_1.length) = true := decide_eq_true (by omega)
      clear c4
      (first | rw [c4b0] | rw [c4b1] | (simp only [i64_w, i32_w]; rw [c4b0]) | skip)
      have H' := Aside0.mk H
      clear H
      have hcz5_0 : w3.cell? ⟨gb229, 0, none⟩ = some (.slice A0_0 l0_0.length c0_0) := (blk_cell BK229.out 0).trans rfl
      have hcz5_1 : w3.cell? ⟨gb229, 1, none⟩ = some (.slice A0_1 l0_1.length c0_1) := (blk_cell BK229.out 1).trans rfl
      have hfz5_0 := blk_frozen BK229.out 0
      have hfz5_1 := blk_frozen BK229.out 1
      go_wp2
      repeat (go_quiet (fail); try go_wp2)
      go_meet
      case rel => exact ⟨_, (true), (by first | rfl | (simp; done) | (simp [*]; done)), H', ⟨by first | omega | exact Nat.le_refl _⟩, ⟨by (with_reducible repeat (first | refine blk_drewN ?_ _ | refine blk_drew ?_ | refine blk_alloc ?_ _)); exact BK229.out⟩, ⟨by repeat (first | (with_reducible first | exact HB.out | apply below_alloc | apply pw_below_drewN | apply below_drew1 | refine below_set ?_ GE229.out) | exact HB.out)⟩⟩
    · rw [if_neg c4] at H
      have c4b0 : decide (64 < (l0_1.length : Int)) = false := decide_eq_false c4
      have c4b1 : decide (64 < l0_1.length) = false := decide_eq_false (by omega)
      clear c4
      (first | rw [c4b0] | rw [c4b1] | (simp only [i64_w, i32_w]; rw [c4b0]) | skip)
      have H' := Aside0.mk H
      clear H
      have hcz6_0 : w3.cell? ⟨gb229, 0, none⟩ = some (.slice A0_0 l0_0.length c0_0) := (blk_cell BK229.out 0).trans rfl
      have hcz6_1 : w3.cell? ⟨gb229, 1, none⟩ = some (.slice A0_1 l0_1.length c0_1) := (blk_cell BK229.out 1).trans rfl
      have hfz6_0 := blk_frozen BK229.out 0
      have hfz6_1 := blk_frozen BK229.out 1
      go_wp2
      repeat (go_quiet (fail); try go_wp2)
      go_meet
      case rel => exact ⟨_, (((l0_0.length : Int) != (wrap64 ((l0_1.length : Int) + 1)))), (by first | rfl | (simp; done) | (simp [*]; done)), H', ⟨by first | omega | exact Nat.le_refl _⟩, ⟨by (with_reducible repeat (first | refine blk_drewN ?_ _ | refine blk_drew ?_ | refine blk_alloc ?_ _)); exact BK229.out⟩, ⟨by repeat (first | (with_reducible first | exact HB.out | apply below_alloc | apply pw_below_drewN | apply below_drew1 | refine below_set ?_ GE229.out) | exact HB.out)⟩⟩
  case rest =>
    clear HC2
    try clear p2
    try clear c4
    try clear c4b0
    try clear c4b1
    try clear p6
    try clear hcz5_0
    try clear hcz5_1
    try clear hcz6_0
    try clear hcz6_1
    try clear hfz5_0
    try clear hfz5_1
    try clear hfz6_0
    try clear hfz6_1
    obtain ⟨kq, x24_1, rfl, HA, HJ1, BK229, HB⟩ := hcut
    cases kq with
    | zero => exact absurd HA.out (by simp [codewrightref46_Shape.j0])
    | succ kj1 =>
      have H := HA.out
      clear HA
      simp only [codewrightref46_Shape.j0] at H
      by_cases c7 : x24_1 = true
      · subst c7
        have H1 : (some 3) = some r := by rw [if_pos rfl] at H; exact H
        clear H
        have H := H1
        clear H1
        obtain rfl := Option.some.inj H
        go_wp2
        repeat (go_quiet (fail); try go_wp2)
        go_ret
        exact ⟨by first | rfl | (simp [errW_none, errW_some] <;> rfl) | (simp [*, errW_none, errW_some] <;> rfl), by repeat (first | (with_reducible first | exact HB.out | apply below_alloc | apply pw_below_drewN | apply below_drew1 | refine below_set ?_ GE229.out) | exact HB.out)⟩
      · replace c7 := Bool.eq_false_iff.mpr c7
        subst c7
        have H1 : (codewrightref46_Shape.l0 kj1 0 0 l0_0 l0_1) = some r := by rw [if_neg (show ¬ (false = true) by decide)] at H; exact H
        clear H
        have H := H1
        clear H1
        have H' := Aside0.mk H
        clear H
        go_wp2
        repeat (go_quiet (fail); try go_wp2)
        go_loopg [4] kj1 (fun kq v4 w' => ∃ (x4_2 : Int), v4 = .int .i64 x4_2 ∧ Aside0 (codewrightref46_Shape.l0 kq 0 x4_2 l0_0 l0_1 = some r) ∧ Aside0 (kq ≤ kj1) ∧ Aside0 (w'.heap[gb229]? = some (.cells #[(.slice A0_0 l0_0.length c0_0), (.slice A0_1 l0_1.length c0_1)] 37 (0, 0))) ∧ Aside0 (Below w.heap.size w w'))
        case atStart => exact ⟨(0), (by first | rfl | (simp; done) | (simp [*]; done)), H', ⟨Nat.le_refl _⟩, ⟨by (with_reducible repeat (first | refine blk_drewN ?_ _ | refine blk_drew ?_ | refine blk_alloc ?_ _)); exact BK229.out⟩, ⟨by repeat (first | (with_reducible first | exact HB.out | apply below_alloc | apply pw_below_drewN | apply below_drew1 | refine below_set ?_ GE229.out) | exact HB.out)⟩⟩
        case round =>
          clear H'
          try clear p2
          try clear c4
          try clear c4b0
          try clear c4b1
          try clear p6
          try clear c7
          try clear hcz5_0
          try clear hcz5_1
          try clear hcz6_0
          try clear hcz6_1
          try clear hfz5_0
          try clear hfz5_1
          try clear hfz6_0
          try clear hfz6_1
          try clear p2
          try clear p6
          obtain ⟨x4_2, rfl, HA, HK2, BK229, HB⟩ := hrel
          cases gk with
          | zero => exact absurd HA.out (by simp [codewrightref46_Shape.l0])
          | succ k2 =>
            have H := HA.out
            clear HA
            simp only [codewrightref46_Shape.l0] at H
            by_cases c8 : x4_2 < (l0_0.length : Int)
            · rw [if_pos c8] at H
              have c8b0 : decide (x4_2 < (l0_0.length : Int)) = true := decide_eq_true c8
              clear c8
              by_cases c9 : 0 ≤ x4_2
              · rw [if_pos c9] at H
                have c9b0 : decide (0 ≤ x4_2) = true := decide_eq_true c9
                clear c9
                by_cases c10 : (rd l0_0 x4_2) < 1
                · rw [if_pos c10] at H
                  have c10b0 : decide ((rd l0_0 x4_2) < 1) = true := decide_eq_true c10
                  clear c10
                  obtain rfl := Option.some.inj H
                  have hcz11_0 : wr.cell? ⟨gb229, 0, none⟩ = some (.slice A0_0 l0_0.length c0_0) := (blk_cell BK229.out 0).trans rfl
                  have hcz11_1 : wr.cell? ⟨gb229, 1, none⟩ = some (.slice A0_1 l0_1.length c0_1) := (blk_cell BK229.out 1).trans rfl
                  have hfz11_0 := blk_frozen BK229.out 0
                  have hfz11_1 := blk_frozen BK229.out 1
                  have p230 : 0 ≤ (x4_2 : Int) := of_decide_eq_true (by first | (with_reducible assumption) | assumption)
                  have q230 : x4_2 < (l0_0.length : Int) := of_decide_eq_true (by first | (with_reducible assumption) | assumption)
                  obtain ⟨ad230, e230, hx230_0⟩ := Kd.at_int HR0_0.out x4_2 p230 q230
                  cases e230
                  replace hx230_0 := (HB.out.cell (World.block_lt_of_cell? w _ hx230_0)).trans hx230_0
                  replace p230 := eq_true p230
                  replace q230 := eq_true q230
                  go_wp2
                  repeat (go_quiet (fail); try go_wp2)
                  go_ret
                  exact ⟨by first | rfl | (simp [errW_none, errW_some] <;> rfl) | (simp [*, errW_none, errW_some] <;> rfl), by repeat (first | (with_reducible first | exact HB.out | apply below_alloc | apply pw_below_drewN | apply below_drew1 | refine below_set ?_ GE229.out) | exact HB.out)⟩
                · rw [if_neg c10] at H
                  have c10b0 : decide ((rd l0_0 x4_2) < 1) = false := decide_eq_false c10
                  clear c10
                  have H' := Aside0.mk H
                  clear H
                  have hcz12_0 : wr.cell? ⟨gb229, 0, none⟩ = some (.slice A0_0 l0_0.length c0_0) := (blk_cell BK229.out 0).trans rfl
                  have hcz12_1 : wr.cell? ⟨gb229, 1, none⟩ = some (.slice A0_1 l0_1.length c0_1) := (blk_cell BK229.out 1).trans rfl
                  have hfz12_0 := blk_frozen BK229.out 0
                  have hfz12_1 := blk_frozen BK229.out 1
                  have p230 : 0 ≤ (x4_2 : Int) := of_decide_eq_true (by first | (with_reducible assumption) | assumption)
                  have q230 : x4_2 < (l0_0.length : Int) := of_decide_eq_true (by first | (with_reducible assumption) | assumption)
                  obtain ⟨ad230, e230, hx230_0⟩ := Kd.at_int HR0_0.out x4_2 p230 q230
                  cases e230
                  replace hx230_0 := (HB.out.cell (World.block_lt_of_cell? w _ hx230_0)).trans hx230_0
                  replace p230 := eq_true p230
                  replace q230 := eq_true q230
                  go_wp2
                  repeat (go_quiet (fail); try go_wp2)
                  go_roundg k2
                  case measure => have := HJ1.out; have := HK2.out; omega
                  case rel => exact ⟨(wrap64 (x4_2 + 1)), (by first | rfl | (simp; done) | (simp [*]; done)), H', ⟨by have := HJ1.out; have := HK2.out; omega⟩, ⟨by (with_reducible repeat (first | refine blk_drewN ?_ _ | refine blk_drew ?_ | refine blk_alloc ?_ _)); exact BK229.out⟩, ⟨by repeat (first | (with_reducible first | exact HB.out | apply below_alloc | apply pw_below_drewN | apply below_drew1 | refine below_set ?_ GE229.out) | exact HB.out)⟩⟩
              · rw [if_neg c9] at H
                exact absurd H (by simp)
            · rw [if_neg c8] at H
              have c8b0 : decide (x4_2 < (l0_0.length : Int)) = false := decide_eq_false c8
              clear c8
              have H' := Aside0.mk H
              clear H
              have hcz13_0 : wr.cell? ⟨gb229, 0, none⟩ = some (.slice A0_0 l0_0.length c0_0) := (blk_cell BK229.out 0).trans rfl
              have hcz13_1 : wr.cell? ⟨gb229, 1, none⟩ = some (.slice A0_1 l0_1.length c0_1) := (blk_cell BK229.out 1).trans rfl
              have hfz13_0 := blk_frozen BK229.out 0
              have hfz13_1 := blk_frozen BK229.out 1
              go_wp2
              repeat (go_quiet (fail); try go_wp2)
              go_loopg [3, 5] k2 (fun kq v3 v5 w' => ∃ (x3_3 : Int) (x5_3 : Int), v3 = .int .i64 x3_3 ∧ v5 = .int .i64 x5_3 ∧ Aside0 (codewrightref46_Shape.l1 kq x3_3 x5_3 l0_0 l0_1 = some r) ∧ Aside0 (kq ≤ k2) ∧ Aside0 (w'.heap[gb229]? = some (.cells #[(.slice A0_0 l0_0.length c0_0), (.slice A0_1 l0_1.length c0_1)] 37 (0, 0))) ∧ Aside0 (Below w.heap.size w w'))
              case atStart => exact ⟨(0), (0), (by first | rfl | (simp; done) | (simp [*]; done)), (by first | rfl | (simp; done) | (simp [*]; done)), H', ⟨Nat.le_refl _⟩, ⟨by (with_reducible repeat (first | refine blk_drewN ?_ _ | refine blk_drew ?_ | refine blk_alloc ?_ _)); exact BK229.out⟩, ⟨by repeat (first | (with_reducible first | exact HB.out | apply below_alloc | apply pw_below_drewN | apply below_drew1 | refine below_set ?_ GE229.out) | exact HB.out)⟩⟩
              case round =>
                clear H'
                try clear c1
                try clear p2
                try clear q2
                try clear hx2
                try clear c4
                try clear c4b0
                try clear c4b1
                try clear p6
                try clear c7
                try clear c8
                try clear c8b0
                try clear c9
                try clear c9b0
                try clear c10
                try clear c10b0
                try clear hcz11_0
                try clear hcz11_1
                try clear hcz12_0
                try clear hcz12_1
                try clear hcz13_0
                try clear hcz13_1
                try clear hcz5_0
                try clear hcz5_1
                try clear hcz6_0
                try clear hcz6_1
                try clear hfz11_0
                try clear hfz11_1
                try clear hfz12_0
                try clear hfz12_1
                try clear hfz13_0
                try clear hfz13_1
                try clear hfz5_0
                try clear hfz5_1
                try clear hfz6_0
                try clear hfz6_1
                try clear hx230_0
                try clear p2
                try clear p230
                try clear p6
                try clear q230
                obtain ⟨x3_3, x5_3, rfl, rfl, HA, HK3, BK229, HB⟩ := hrel
                cases gk with
                | zero => exact absurd HA.out (by simp [codewrightref46_Shape.l1])
                | succ k3 =>
                  have H := HA.out
                  clear HA
                  simp only [codewrightref46_Shape.l1] at H
                  by_cases c14 : x5_3 < (l0_0.length : Int)
                  · rw [if_pos c14] at H
                    have c14b0 : decide (x5_3 < (l0_0.length : Int)) = true := decide_eq_true c14
                    clear c14
                    by_cases c15 : 0 ≤ x5_3
                    · rw [if_pos c15] at H
                      have c15b0 : decide (0 ≤ x5_3) = true := decide_eq_true c15
                      clear c15
                      by_cases c16 : (rd l0_0 x5_3) > (wrap64 (65536 - x3_3))
                      · rw [if_pos c16] at H
                        have c16b0 : decide ((wrap64 (65536 - x3_3)) < (rd l0_0 x5_3)) = true := decide_eq_true c16
                        clear c16
                        obtain rfl := Option.some.inj H
                        have hcz17_0 : wr.cell? ⟨gb229, 0, none⟩ = some (.slice A0_0 l0_0.length c0_0) := (blk_cell BK229.out 0).trans rfl
                        have hcz17_1 : wr.cell? ⟨gb229, 1, none⟩ = some (.slice A0_1 l0_1.length c0_1) := (blk_cell BK229.out 1).trans rfl
                        have hfz17_0 := blk_frozen BK229.out 0
                        have hfz17_1 := blk_frozen BK229.out 1
                        have p231 : 0 ≤ (x5_3 : Int) := of_decide_eq_true (by first | (with_reducible assumption) | assumption)
                        have q231 : x5_3 < (l0_0.length : Int) := of_decide_eq_true (by first | (with_reducible assumption) | assumption)
                        obtain ⟨ad231, e231, hx231_0⟩ := Kd.at_int HR0_0.out x5_3 p231 q231
                        cases e231
                        replace hx231_0 := (HB.out.cell (World.block_lt_of_cell? w _ hx231_0)).trans hx231_0
                        replace p231 := eq_true p231
                        replace q231 := eq_true q231
                        go_wp2
                        repeat (go_quiet (fail); try go_wp2)
                        go_ret
                        exact ⟨by first | rfl | (simp [errW_none, errW_some] <;> rfl) | (simp [*, errW_none, errW_some] <;> rfl), by repeat (first | (with_reducible first | exact HB.out | apply below_alloc | apply pw_below_drewN | apply below_drew1 | refine below_set ?_ GE229.out) | exact HB.out)⟩
                      · rw [if_neg c16] at H
                        have c16b0 : decide ((wrap64 (65536 - x3_3)) < (rd l0_0 x5_3)) = false := decide_eq_false c16
                        clear c16
                        have H' := Aside0.mk H
                        clear H
                        have hcz18_0 : wr.cell? ⟨gb229, 0, none⟩ = some (.slice A0_0 l0_0.length c0_0) := (blk_cell BK229.out 0).trans rfl
                        have hcz18_1 : wr.cell? ⟨gb229, 1, none⟩ = some (.slice A0_1 l0_1.length c0_1) := (blk_cell BK229.out 1).trans rfl
                        have hfz18_0 := blk_frozen BK229.out 0
                        have hfz18_1 := blk_frozen BK229.out 1
                        have p231 : 0 ≤ (x5_3 : Int) := of_decide_eq_true (by first | (with_reducible assumption) | assumption)
                        have q231 : x5_3 < (l0_0.length : Int) := of_decide_eq_true (by first | (with_reducible assumption) | assumption)
                        obtain ⟨ad231, e231, hx231_0⟩ := Kd.at_int HR0_0.out x5_3 p231 q231
                        cases e231
                        replace hx231_0 := (HB.out.cell (World.block_lt_of_cell? w _ hx231_0)).trans hx231_0
                        replace p231 := eq_true p231
                        replace q231 := eq_true q231
                        have p232 : 0 ≤ (x5_3 : Int) := of_decide_eq_true (by first | (with_reducible assumption) | assumption)
                        have q232 : x5_3 < (l0_0.length : Int) := of_decide_eq_true (by first | (with_reducible assumption) | assumption)
                        obtain ⟨ad232, e232, hx232_0⟩ := Kd.at_int HR0_0.out x5_3 p232 q232
                        obtain rfl : ad231 = ad232 := (by injection e232)
                        replace hx232_0 := (HB.out.cell (World.block_lt_of_cell? w _ hx232_0)).trans hx232_0
                        replace p232 := eq_true p232
                        replace q232 := eq_true q232
                        go_wp2
                        repeat (go_quiet (fail); try go_wp2)
                        go_roundg k3
                        case measure => have := HJ1.out; have := HK2.out; have := HK3.out; omega
                        case rel => exact ⟨(wrap64 (x3_3 + (rd l0_0 x5_3))), (wrap64 (x5_3 + 1)), (by first | rfl | (simp; done) | (simp [*]; done)), (by first | rfl | (simp; done) | (simp [*]; done)), H', ⟨by have := HJ1.out; have := HK2.out; have := HK3.out; omega⟩, ⟨by (with_reducible repeat (first | refine blk_drewN ?_ _ | refine blk_drew ?_ | refine blk_alloc ?_ _)); exact BK229.out⟩, ⟨by repeat (first | (with_reducible first | exact HB.out | apply below_alloc | apply pw_below_drewN | apply below_drew1 | refine below_set ?_ GE229.out) | exact HB.out)⟩⟩
                    · rw [if_neg c15] at H
                      exact absurd H (by simp)
                  · rw [if_neg c14] at H
                    have c14b0 : decide (x5_3 < (l0_0.length : Int)) = false := decide_eq_false c14
                    clear c14
                    have H' := Aside0.mk H
                    clear H
                    have hcz19_0 : wr.cell? ⟨gb229, 0, none⟩ = some (.slice A0_0 l0_0.length c0_0) := (blk_cell BK229.out 0).trans rfl
                    have hcz19_1 : wr.cell? ⟨gb229, 1, none⟩ = some (.slice A0_1 l0_1.length c0_1) := (blk_cell BK229.out 1).trans rfl
                    have hfz19_0 := blk_frozen BK229.out 0
                    have hfz19_1 := blk_frozen BK229.out 1
                    go_wp2
                    repeat (go_quiet (fail); try go_wp2)
                    go_loopg [6, 7] k3 (fun kq v6 v7 w' => ∃ (x6_4 : Int) (x7_4 : Int), v6 = .int .i64 x6_4 ∧ v7 = .int .i64 x7_4 ∧ Aside0 (codewrightref46_Shape.l2 kq x6_4 x7_4 l0_0 l0_1 = some r) ∧ Aside0 (kq ≤ k3) ∧ Aside0 (w'.heap[gb229]? = some (.cells #[(.slice A0_0 l0_0.length c0_0), (.slice A0_1 l0_1.length c0_1)] 37 (0, 0))) ∧ Aside0 (Below w.heap.size w w'))
                    case atStart => exact ⟨(0), (0), (by first | rfl | (simp; done) | (simp [*]; done)), (by first | rfl | (simp; done) | (simp [*]; done)), H', ⟨Nat.le_refl _⟩, ⟨by (with_reducible repeat (first | refine blk_drewN ?_ _ | refine blk_drew ?_ | refine blk_alloc ?_ _)); exact BK229.out⟩, ⟨by repeat (first | (with_reducible first | exact HB.out | apply below_alloc | apply pw_below_drewN | apply below_drew1 | refine below_set ?_ GE229.out) | exact HB.out)⟩⟩
                    case round =>
                      clear H'
                      try clear c1
                      try clear p2
                      try clear q2
                      try clear hx2
                      try clear c4
                      try clear c4b0
                      try clear c4b1
                      try clear p6
                      try clear c7
                      try clear c8
                      try clear c8b0
                      try clear c9
                      try clear c9b0
                      try clear c10
                      try clear c10b0
                      try clear c14
                      try clear c14b0
                      try clear c15
                      try clear c15b0
                      try clear c16
                      try clear c16b0
                      try clear hcz11_0
                      try clear hcz11_1
                      try clear hcz12_0
                      try clear hcz12_1
                      try clear hcz13_0
                      try clear hcz13_1
                      try clear hcz17_0
                      try clear hcz17_1
                      try clear hcz18_0
                      try clear hcz18_1
                      try clear hcz19_0
                      try clear hcz19_1
                      try clear hcz5_0
                      try clear hcz5_1
                      try clear hcz6_0
                      try clear hcz6_1
                      try clear hfz11_0
                      try clear hfz11_1
                      try clear hfz12_0
                      try clear hfz12_1
                      try clear hfz13_0
                      try clear hfz13_1
                      try clear hfz17_0
                      try clear hfz17_1
                      try clear hfz18_0
                      try clear hfz18_1
                      try clear hfz19_0
                      try clear hfz19_1
                      try clear hfz5_0
                      try clear hfz5_1
                      try clear hfz6_0
                      try clear hfz6_1
                      try clear hx230_0
                      try clear hx231_0
                      try clear hx232_0
                      try clear p2
                      try clear p230
                      try clear p231
                      try clear p232
                      try clear p6
                      try clear q2
                      try clear q230
                      try clear q231
                      try clear q232
                      obtain ⟨x6_4, x7_4, rfl, rfl, HA, HK4, BK229, HB⟩ := hrel
                      cases gk with
                      | zero => exact absurd HA.out (by simp [codewrightref46_Shape.l2])
                      | succ k4 =>
                        have H := HA.out
                        clear HA
                        simp only [codewrightref46_Shape.l2] at H
                        by_cases c20 : x7_4 < (l0_1.length : Int)
                        · rw [if_pos c20] at H
                          have c20b0 : decide (x7_4 < (l0_1.length : Int)) = true := decide_eq_true c20
                          clear c20
                          by_cases c21 : 0 ≤ x7_4
                          · rw [if_pos c21] at H
                            have c21b0 : decide (0 ≤ x7_4) = true := decide_eq_true c21
                            clear c21
                            by_cases c22 : ((rd_L2 l0_1 x7_4).length : Int) > (wrap64 (262144 - x6_4))
                            · rw [if_pos c22] at H
                              have c22b0 : decide ((wrap64 (262144 - x6_4)) < ((rd_L2 l0_1 x7_4).length : Int)) = true := decide_eq_true c22
                              clear c22
                              obtain rfl := Option.some.inj H
                              have hcz23_0 : wr.cell? ⟨gb229, 0, none⟩ = some (.slice A0_0 l0_0.length c0_0) := (blk_cell BK229.out 0).trans rfl
                              have hcz23_1 : wr.cell? ⟨gb229, 1, none⟩ = some (.slice A0_1 l0_1.length c0_1) := (blk_cell BK229.out 1).trans rfl
                              have hfz23_0 := blk_frozen BK229.out 0
                              have hfz23_1 := blk_frozen BK229.out 1
                              have p233 : 0 ≤ (x7_4 : Int) := of_decide_eq_true (by first | (with_reducible assumption) | assumption)
                              have q233 : x7_4 < (l0_1.length : Int) := of_decide_eq_true (by first | (with_reducible assumption) | assumption)
                              obtain ⟨ad233, A233_0, c233_0, e233, hx233_0, hl233_0, hi233_0⟩ := at_L2 HR0_1.out x7_4 p233 q233
                              cases e233
                              replace hx233_0 := (HB.out.cell (World.block_lt_of_cell? w _ hx233_0)).trans hx233_0
                              have HR233_0 := Aside0.mk hi233_0
                              have HC233_0 := Aside0.mk hl233_0
                              clear hi233_0 hl233_0
                              replace p233 := eq_true p233
                              replace q233 := eq_true q233
                              go_wp2
                              repeat (go_quiet (fail); try go_wp2)
                              go_ret
                              exact ⟨by first | rfl | (simp [errW_none, errW_some] <;> rfl) | (simp [*, errW_none, errW_some] <;> rfl), by repeat (first | (with_reducible first | exact HB.out | apply below_alloc | apply pw_below_drewN | apply below_drew1 | refine below_set ?_ GE229.out) | exact HB.out)⟩
                            · rw [if_neg c22] at H
                              have c22b0 : decide ((wrap64 (262144 - x6_4)) < ((rd_L2 l0_1 x7_4).length : Int)) = false := decide_eq_false c22
                              clear c22
                              have H' := Aside0.mk H
                              clear H
                              have hcz24_0 : wr.cell? ⟨gb229, 0, none⟩ = some (.slice A0_0 l0_0.length c0_0) := (blk_cell BK229.out 0).trans rfl
                              have hcz24_1 : wr.cell? ⟨gb229, 1, none⟩ = some (.slice A0_1 l0_1.length c0_1) := (blk_cell BK229.out 1).trans rfl
                              have hfz24_0 := blk_frozen BK229.out 0
                              have hfz24_1 := blk_frozen BK229.out 1
                              have p233 : 0 ≤ (x7_4 : Int) := of_decide_eq_true (by first | (with_reducible assumption) | assumption)
                              have q233 : x7_4 < (l0_1.length : Int) := of_decide_eq_true (by first | (with_reducible assumption) | assumption)
                              obtain ⟨ad233, A233_0, c233_0, e233, hx233_0, hl233_0, hi233_0⟩ := at_L2 HR0_1.out x7_4 p233 q233
                              cases e233
                              replace hx233_0 := (HB.out.cell (World.block_lt_of_cell? w _ hx233_0)).trans hx233_0
                              have HR233_0 := Aside0.mk hi233_0
                              have HC233_0 := Aside0.mk hl233_0
                              clear hi233_0 hl233_0
                              replace p233 := eq_true p233
                              replace q233 := eq_true q233
                              have p234 : 0 ≤ (x7_4 : Int) := of_decide_eq_true (by first | (with_reducible assumption) | assumption)
                              have q234 : x7_4 < (l0_1.length : Int) := of_decide_eq_true (by first | (with_reducible assumption) | assumption)
                              obtain ⟨ad234, A234_0, c234_0, e234, hx234_0, hl234_0, hi234_0⟩ := at_L2 HR0_1.out x7_4 p234 q234
                              obtain rfl : ad233 = ad234 := (by injection e234)
                              replace hx234_0 := (HB.out.cell (World.block_lt_of_cell? w _ hx234_0)).trans hx234_0
                              have HR234_0 := Aside0.mk hi234_0
                              have HC234_0 := Aside0.mk hl234_0
                              clear hi234_0 hl234_0
                              replace p234 := eq_true p234
                              replace q234 := eq_true q234
                              have ea_ := Option.some.inj (hx233_0.symm.trans hx234_0)
                              injection ea_ with ea_ en_ ec_
                              subst ea_
                              subst ec_
                              clear en_
                              go_wp2
                              repeat (go_quiet (fail); try go_wp2)
                              go_roundg k4
                              case measure => have := HJ1.out; have := HK2.out; have := HK3.out; have := HK4.out; omega
                              case rel => exact ⟨(wrap64 (x6_4 + ((rd_L2 l0_1 x7_4).length : Int))), (wrap64 (x7_4 + 1)), (by first | rfl | (simp; done) | (simp [*]; done)), (by first | rfl | (simp; done) | (simp [*]; done)), H', ⟨by have := HJ1.out; have := HK2.out; have := HK3.out; have := HK4.out; omega⟩, ⟨by (with_reducible repeat (first | refine blk_drewN ?_ _ | refine blk_drew ?_ | refine blk_alloc ?_ _)); exact BK229.out⟩, ⟨by repeat (first | (with_reducible first | exact HB.out | apply below_alloc | apply pw_below_drewN | apply below_drew1 | refine below_set ?_ GE229.out) | exact HB.out)⟩⟩
                          · rw [if_neg c21] at H
                            exact absurd H (by simp)
                        · rw [if_neg c20] at H
                          have c20b0 : decide (x7_4 < (l0_1.length : Int)) = false := decide_eq_false c20
                          clear c20
                          have H' := Aside0.mk H
                          clear H
                          have hcz25_0 : wr.cell? ⟨gb229, 0, none⟩ = some (.slice A0_0 l0_0.length c0_0) := (blk_cell BK229.out 0).trans rfl
                          have hcz25_1 : wr.cell? ⟨gb229, 1, none⟩ = some (.slice A0_1 l0_1.length c0_1) := (blk_cell BK229.out 1).trans rfl
                          have hfz25_0 := blk_frozen BK229.out 0
                          have hfz25_1 := blk_frozen BK229.out 1
                          go_wp2
                          repeat (go_quiet (fail); try go_wp2)
                          go_loopg [8] k4 (fun kq v8 w' => ∃ (x8_5 : Int), v8 = .int .i64 x8_5 ∧ Aside0 (codewrightref46_Shape.l3 kq x8_5 l0_0 l0_1 = some r) ∧ Aside0 (kq ≤ k4) ∧ Aside0 (w'.heap[gb229]? = some (.cells #[(.slice A0_0 l0_0.length c0_0), (.slice A0_1 l0_1.length c0_1)] 37 (0, 0))) ∧ Aside0 (Below w.heap.size w w'))
                          case atStart => exact ⟨(0), (by first | rfl | (simp; done) | (simp [*]; done)), H', ⟨Nat.le_refl _⟩, ⟨by (with_reducible repeat (first | refine blk_drewN ?_ _ | refine blk_drew ?_ | refine blk_alloc ?_ _)); exact BK229.out⟩, ⟨by repeat (first | (with_reducible first | exact HB.out | apply below_alloc | apply pw_below_drewN | apply below_drew1 | refine below_set ?_ GE229.out) | exact HB.out)⟩⟩
                          case round =>
                            clear H'
                            try clear c1
                            try clear c2
                            try clear p2
                            try clear q2
                            try clear hx2
                            try clear c4
                            try clear c4b0
                            try clear c4b1
                            try clear p6
                            try clear c7
                            try clear c8
                            try clear c8b0
                            try clear c9
                            try clear c9b0
                            try clear c10
                            try clear c10b0
                            try clear c14
                            try clear c14b0
                            try clear c15
                            try clear c15b0
                            try clear c16
                            try clear c16b0
                            try clear c20
                            try clear c20b0
                            try clear c21
                            try clear c21b0
                            try clear c22
                            try clear c22b0
                            try clear c23
                            try clear p23
                            try clear q23
                            try clear hx23
                            try clear hcz11_0
                            try clear hcz11_1
                            try clear hcz12_0
                            try clear hcz12_1
                            try clear hcz13_0
                            try clear hcz13_1
                            try clear hcz17_0
                            try clear hcz17_1
                            try clear hcz18_0
                            try clear hcz18_1
                            try clear hcz19_0
                            try clear hcz19_1
                            try clear hcz23_0
                            try clear hcz23_1
                            try clear hcz24_0
                            try clear hcz24_1
                            try clear hcz25_0
                            try clear hcz25_1
                            try clear hcz5_0
                            try clear hcz5_1
                            try clear hcz6_0
                            try clear hcz6_1
                            try clear hfz11_0
                            try clear hfz11_1
                            try clear hfz12_0
                            try clear hfz12_1
                            try clear hfz13_0
                            try clear hfz13_1
                            try clear hfz17_0
                            try clear hfz17_1
                            try clear hfz18_0
                            try clear hfz18_1
                            try clear hfz19_0
                            try clear hfz19_1
                            try clear hfz23_0
                            try clear hfz23_1
                            try clear hfz24_0
                            try clear hfz24_1
                            try clear hfz25_0
                            try clear hfz25_1
                            try clear hfz5_0
                            try clear hfz5_1
                            try clear hfz6_0
                            try clear hfz6_1
                            try clear hx230_0
                            try clear hx231_0
                            try clear hx232_0
                            try clear hx233_0
                            try clear hx234_0
                            try clear p2
                            try clear p230
                            try clear p231
                            try clear p232
                            try clear p233
                            try clear p234
                            try clear p6
                            try clear q2
                            try clear q230
                            try clear q231
                            try clear q232
                            try clear q233
                            try clear q234
                            obtain ⟨x8_5, rfl, HA, HK5, BK229, HB⟩ := hrel
                            cases gk with
                            | zero => exact absurd HA.out (by simp [codewrightref46_Shape.l3])
                            | succ k5 =>
                              have H := HA.out
                              clear HA
                              simp only [codewrightref46_Shape.l3] at H
                              by_cases c26 : x8_5 < (l0_1.length : Int)
                              · rw [if_pos c26] at H
                                have c26b0 : decide (x8_5 < (l0_1.length : Int)) = true := decide_eq_true c26
                                clear c26
                                have H' := Aside0.mk H
                                clear H
                                have hcz27_0 : wr.cell? ⟨gb229, 0, none⟩ = some (.slice A0_0 l0_0.length c0_0) := (blk_cell BK229.out 0).trans rfl
                                have hcz27_1 : wr.cell? ⟨gb229, 1, none⟩ = some (.slice A0_1 l0_1.length c0_1) := (blk_cell BK229.out 1).trans rfl
                                have hfz27_0 := blk_frozen BK229.out 0
                                have hfz27_1 := blk_frozen BK229.out 1
                                go_wp2
                                repeat (go_quiet (fail); try go_wp2)
                                go_loopg [9] k5 (fun kq v9 w' => ∃ (x9_6 : Int), v9 = .int .i64 x9_6 ∧ Aside0 (codewrightref46_Shape.l4 kq x8_5 x9_6 l0_0 l0_1 = some r) ∧ Aside0 (kq ≤ k5) ∧ Aside0 (w'.heap[gb229]? = some (.cells #[(.slice A0_0 l0_0.length c0_0), (.slice A0_1 l0_1.length c0_1)] 37 (0, 0))) ∧ Aside0 (Below w.heap.size w w'))
                                case atStart => exact ⟨(0), (by first | rfl | (simp; done) | (simp [*]; done)), H', ⟨Nat.le_refl _⟩, ⟨by (with_reducible repeat (first | refine blk_drewN ?_ _ | refine blk_drew ?_ | refine blk_alloc ?_ _)); exact BK229.out⟩, ⟨by repeat (first | (with_reducible first | exact HB.out | apply below_alloc | apply pw_below_drewN | apply below_drew1 | refine below_set ?_ GE229.out) | exact HB.out)⟩⟩
                                case round =>
                                  clear H'
                                  try clear c1
                                  try clear c2
                                  try clear p2
                                  try clear q2
                                  try clear hx2
                                  try clear c4
                                  try clear c4b0
                                  try clear c4b1
                                  try clear p6
                                  try clear c7
                                  try clear c8
                                  try clear c8b0
                                  try clear c9
                                  try clear c9b0
                                  try clear c10
                                  try clear c10b0
                                  try clear c14
                                  try clear c14b0
                                  try clear c15
                                  try clear c15b0
                                  try clear c16
                                  try clear c16b0
                                  try clear c20
                                  try clear c20b0
                                  try clear c21
                                  try clear c21b0
                                  try clear c22
                                  try clear c22b0
                                  try clear c23
                                  try clear p23
                                  try clear q23
                                  try clear hx23
                                  try clear c26
                                  try clear c26b0
                                  try clear hcz11_0
                                  try clear hcz11_1
                                  try clear hcz12_0
                                  try clear hcz12_1
                                  try clear hcz13_0
                                  try clear hcz13_1
                                  try clear hcz17_0
                                  try clear hcz17_1
                                  try clear hcz18_0
                                  try clear hcz18_1
                                  try clear hcz19_0
                                  try clear hcz19_1
                                  try clear hcz23_0
                                  try clear hcz23_1
                                  try clear hcz24_0
                                  try clear hcz24_1
                                  try clear hcz25_0
                                  try clear hcz25_1
                                  try clear hcz27_0
                                  try clear hcz27_1
                                  try clear hcz5_0
                                  try clear hcz5_1
                                  try clear hcz6_0
                                  try clear hcz6_1
                                  try clear hfz11_0
                                  try clear hfz11_1
                                  try clear hfz12_0
                                  try clear hfz12_1
                                  try clear hfz13_0
                                  try clear hfz13_1
                                  try clear hfz17_0
                                  try clear hfz17_1
                                  try clear hfz18_0
                                  try clear hfz18_1
                                  try clear hfz19_0
                                  try clear hfz19_1
                                  try clear hfz23_0
                                  try clear hfz23_1
                                  try clear hfz24_0
                                  try clear hfz24_1
                                  try clear hfz25_0
                                  try clear hfz25_1
                                  try clear hfz27_0
                                  try clear hfz27_1
                                  try clear hfz5_0
                                  try clear hfz5_1
                                  try clear hfz6_0
                                  try clear hfz6_1
                                  try clear hx230_0
                                  try clear hx231_0
                                  try clear hx232_0
                                  try clear hx233_0
                                  try clear hx234_0
                                  try clear p2
                                  try clear p23
                                  try clear p230
                                  try clear p231
                                  try clear p232
                                  try clear p233
                                  try clear p234
                                  try clear p6
                                  try clear q2
                                  try clear q23
                                  try clear q230
                                  try clear q231
                                  try clear q232
                                  try clear q233
                                  try clear q234
                                  obtain ⟨x9_6, rfl, HA, HK6, BK229, HB⟩ := hrel
                                  cases gk with
                                  | zero => exact absurd HA.out (by simp [codewrightref46_Shape.l4])
                                  | succ k6 =>
                                    have H := HA.out
                                    clear HA
                                    simp only [codewrightref46_Shape.l4] at H
                                    by_cases c28 : 0 ≤ x8_5
                                    · rw [if_pos c28] at H
                                      have c28b0 : decide (0 ≤ x8_5) = true := decide_eq_true c28
                                      clear c28
                                      by_cases c29 : x8_5 < (l0_1.length : Int)
                                      · rw [if_pos c29] at H
                                        have c29b0 : decide (x8_5 < (l0_1.length : Int)) = true := decide_eq_true c29
                                        clear c29
                                        by_cases c30 : x9_6 < ((rd_L2 l0_1 x8_5).length : Int)
                                        · rw [if_pos c30] at H
                                          have c30b0 : decide (x9_6 < ((rd_L2 l0_1 x8_5).length : Int)) = true := decide_eq_true c30
                                          clear c30
                                          by_cases c31 : 0 ≤ x9_6
                                          · rw [if_pos c31] at H
                                            have c31b0 : decide (0 ≤ x9_6) = true := decide_eq_true c31
                                            clear c31
                                            by_cases c32 : ((rd_T124 (rd_L2 l0_1 x8_5) x9_6).f0) < 0
                                            · rw [if_pos c32] at H
                                              have c32b0 : decide (((rd_T124 (rd_L2 l0_1 x8_5) x9_6).f0) < 0) = true := decide_eq_true c32
                                              clear c32
                                              obtain rfl := Option.some.inj H
                                              have hcz33_0 : wr.cell? ⟨gb229, 0, none⟩ = some (.slice A0_0 l0_0.length c0_0) := (blk_cell BK229.out 0).trans rfl
                                              have hcz33_1 : wr.cell? ⟨gb229, 1, none⟩ = some (.slice A0_1 l0_1.length c0_1) := (blk_cell BK229.out 1).trans rfl
                                              have hfz33_0 := blk_frozen BK229.out 0
                                              have hfz33_1 := blk_frozen BK229.out 1
                                              have p235 : 0 ≤ (x8_5 : Int) := of_decide_eq_true (by first | (with_reducible assumption) | assumption)
                                              have q235 : x8_5 < (l0_1.length : Int) := of_decide_eq_true (by first | (with_reducible assumption) | assumption)
                                              obtain ⟨ad235, A235_0, c235_0, e235, hx235_0, hl235_0, hi235_0⟩ := at_L2 HR0_1.out x8_5 p235 q235
                                              cases e235
                                              replace hx235_0 := (HB.out.cell (World.block_lt_of_cell? w _ hx235_0)).trans hx235_0
                                              have HR235_0 := Aside0.mk hi235_0
                                              have HC235_0 := Aside0.mk hl235_0
                                              clear hi235_0 hl235_0
                                              replace p235 := eq_true p235
                                              replace q235 := eq_true q235
                                              have p236 : 0 ≤ (x8_5 : Int) := of_decide_eq_true (by first | (with_reducible assumption) | assumption)
                                              have q236 : x8_5 < (l0_1.length : Int) := of_decide_eq_true (by first | (with_reducible assumption) | assumption)
                                              obtain ⟨ad236, A236_0, c236_0, e236, hx236_0, hl236_0, hi236_0⟩ := at_L2 HR0_1.out x8_5 p236 q236
                                              obtain rfl : ad235 = ad236 := (by injection e236)
                                              replace hx236_0 := (HB.out.cell (World.block_lt_of_cell? w _ hx236_0)).trans hx236_0
                                              have HR236_0 := Aside0.mk hi236_0
                                              have HC236_0 := Aside0.mk hl236_0
                                              clear hi236_0 hl236_0
                                              replace p236 := eq_true p236
                                              replace q236 := eq_true q236
                                              have ea_ := Option.some.inj (hx235_0.symm.trans hx236_0)
                                              injection ea_ with ea_ en_ ec_
                                              subst ea_
                                              subst ec_
                                              clear en_
                                              have p237 : 0 ≤ (x9_6 : Int) := of_decide_eq_true (by first | (with_reducible assumption) | assumption)
                                              have q237 : x9_6 < ((rd_L2 l0_1 x8_5).length : Int) := of_decide_eq_true (by first | (with_reducible assumption) | assumption)
                                              obtain ⟨ad237, e237, hx237_0, hx237_1, hx237_2⟩ := at_T124 HR236_0.out x9_6 p237 q237
                                              cases e237
                                              replace hx237_0 := (HB.out.cell (World.block_lt_of_cell? w _ hx237_0)).trans hx237_0
                                              replace hx237_1 := (HB.out.cell (World.block_lt_of_cell? w _ hx237_1)).trans hx237_1
                                              replace hx237_2 := (HB.out.cell (World.block_lt_of_cell? w _ hx237_2)).trans hx237_2
                                              replace p237 := eq_true p237
                                              replace q237 := eq_true q237
                                              go_wp2_with (first | ((with_reducible refine gate_dst (N := 10) rfl ?_); (try (refine gate_guard (by rfl) ?_; dsimp only)); refine box_event ?hg (N := 10) ?hd (cs := #[.int .i64 0, .int .i64 0, .int .i64 0]) (t := 124) ?hr ?_; (case hd => rfl); (case hg => rfl); (case hr => first | (go_simp; done) | (go_simp; rfl)); intro gb238 hg w34 hbox hb; have n0_ := Aside0.mk (blk_below (g := gb229) (o := .cells #[.slice A0_0 l0_0.length c0_0, .slice (some ad235) l0_1.length c0_1] 37 (0, 0)) (by (with_reducible repeat (first | refine blk_drewN ?_ _ | refine blk_drew ?_ | refine blk_alloc ?_ _)); exact BK229.out) hb); have n1_ := Aside0.mk (below_step (by repeat (first | (with_reducible first | exact HB.out | apply below_alloc | apply pw_below_drewN | apply below_drew1 | refine below_set ?_ GE229.out) | exact HB.out)) hb); have n2_ := Aside0.mk (hbox); have n3_ := Aside0.mk ((by rw [hg]; exact (below_size (by repeat (first | (with_reducible first | exact HB.out | apply below_alloc | apply pw_below_drewN | apply below_drew1 | refine below_set ?_ GE229.out) | exact HB.out))) : w.heap.size ≤ gb238)); have n4_ := Aside0.mk ((by rw [hg]; exact (below_size (by repeat (first | (with_reducible first | exact HB.out | apply below_alloc | apply pw_below_drewN | apply below_drew1 | refine below_set ?_ GE229.out) | exact HB.out))) : w.heap.size ≤ gb238)); have n5_ := Aside0.mk ((by rw [hg]; exact Nat.ne_of_lt (blk_lt (g := gb229) (o := .cells #[.slice A0_0 l0_0.length c0_0, .slice (some ad235) l0_1.length c0_1] 37 (0, 0)) (by (with_reducible repeat (first | refine blk_drewN ?_ _ | refine blk_drew ?_ | refine blk_alloc ?_ _)); exact BK229.out)) : gb229 ≠ gb238)); have n6_ := Aside0.mk ((by rw [hg]; exact Nat.ne_of_gt (blk_lt (g := gb229) (o := .cells #[.slice A0_0 l0_0.length c0_0, .slice (some ad235) l0_1.length c0_1] 37 (0, 0)) (by (with_reducible repeat (first | refine blk_drewN ?_ _ | refine blk_drew ?_ | refine blk_alloc ?_ _)); exact BK229.out)) : gb238 ≠ gb229)); clear BK229; clear HB; have BK229 := n0_; have HB := n1_; have BK238 := n2_; have GW238 := n3_; have GE238 := n4_; have NB229_238 := n5_; have NB238_229 := n6_; clear n0_ n1_ n2_ n3_ n4_ n5_ n6_; clear hb hbox hg; have hnb35 := NB238_229.out; have hnc35 := NB229_238.out; have hcz36_0 : w34.cell? ⟨gb238, 0, none⟩ = some (.int .i64 0) := (blk_cell BK238.out 0).trans rfl; have hcz36_1 : w34.cell? ⟨gb238, 1, none⟩ = some (.int .i64 0) := (blk_cell BK238.out 1).trans rfl; have hcz36_2 : w34.cell? ⟨gb238, 2, none⟩ = some (.int .i64 0) := (blk_cell BK238.out 2).trans rfl; have hfz36_0 := blk_frozen BK238.out 0; have hfz36_1 := blk_frozen BK238.out 1; have hfz36_2 := blk_frozen BK238.out 2))
                                              repeat (go_quiet (first | ((with_reducible refine gate_dst (N := 10) rfl ?_); (try (refine gate_guard (by rfl) ?_; dsimp only)); refine box_event ?hg (N := 10) ?hd (cs := #[.int .i64 0, .int .i64 0, .int .i64 0]) (t := 124) ?hr ?_; (case hd => rfl); (case hg => rfl); (case hr => first | (go_simp; done) | (go_simp; rfl)); intro gb238 hg w34 hbox hb; have n0_ := Aside0.mk (blk_below (g := gb229) (o := .cells #[.slice A0_0 l0_0.length c0_0, .slice (some ad235) l0_1.length c0_1] 37 (0, 0)) (by (with_reducible repeat (first | refine blk_drewN ?_ _ | refine blk_drew ?_ | refine blk_alloc ?_ _)); exact BK229.out) hb); have n1_ := Aside0.mk (below_step (by repeat (first | (with_reducible first | exact HB.out | apply below_alloc | apply pw_below_drewN | apply below_drew1 | refine below_set ?_ GE229.out) | exact HB.out)) hb); have n2_ := Aside0.mk (hbox); have n3_ := Aside0.mk ((by rw [hg]; exact (below_size (by repeat (first | (with_reducible first | exact HB.out | apply below_alloc | apply pw_below_drewN | apply below_drew1 | refine below_set ?_ GE229.out) | exact HB.out))) : w.heap.size ≤ gb238)); have n4_ := Aside0.mk ((by rw [hg]; exact (below_size (by repeat (first | (with_reducible first | exact HB.out | apply below_alloc | apply pw_below_drewN | apply below_drew1 | refine below_set ?_ GE229.out) | exact HB.out))) : w.heap.size ≤ gb238)); have n5_ := Aside0.mk ((by rw [hg]; exact Nat.ne_of_lt (blk_lt (g := gb229) (o := .cells #[.slice A0_0 l0_0.length c0_0, .slice (some ad235) l0_1.length c0_1] 37 (0, 0)) (by (with_reducible repeat (first | refine blk_drewN ?_ _ | refine blk_drew ?_ | refine blk_alloc ?_ _)); exact BK229.out)) : gb229 ≠ gb238)); have n6_ := Aside0.mk ((by rw [hg]; exact Nat.ne_of_gt (blk_lt (g := gb229) (o := .cells #[.slice A0_0 l0_0.length c0_0, .slice (some ad235) l0_1.length c0_1] 37 (0, 0)) (by (with_reducible repeat (first | refine blk_drewN ?_ _ | refine blk_drew ?_ | refine blk_alloc ?_ _)); exact BK229.out)) : gb238 ≠ gb229)); clear BK229; clear HB; have BK229 := n0_; have HB := n1_; have BK238 := n2_; have GW238 := n3_; have GE238 := n4_; have NB229_238 := n5_; have NB238_229 := n6_; clear n0_ n1_ n2_ n3_ n4_ n5_ n6_; clear hb hbox hg; have hnb35 := NB238_229.out; have hnc35 := NB229_238.out; have hcz36_0 : w34.cell? ⟨gb238, 0, none⟩ = some (.int .i64 0) := (blk_cell BK238.out 0).trans rfl; have hcz36_1 : w34.cell? ⟨gb238, 1, none⟩ = some (.int .i64 0) := (blk_cell BK238.out 1).trans rfl; have hcz36_2 : w34.cell? ⟨gb238, 2, none⟩ = some (.int .i64 0) := (blk_cell BK238.out 2).trans rfl; have hfz36_0 := blk_frozen BK238.out 0; have hfz36_1 := blk_frozen BK238.out 1; have hfz36_2 := blk_frozen BK238.out 2)); try go_wp2_with (first | ((with_reducible refine gate_dst (N := 10) rfl ?_); (try (refine gate_guard (by rfl) ?_; dsimp only)); refine box_event ?hg (N := 10) ?hd (cs := #[.int .i64 0, .int .i64 0, .int .i64 0]) (t := 124) ?hr ?_; (case hd => rfl); (case hg => rfl); (case hr => first | (go_simp; done) | (go_simp; rfl)); intro gb238 hg w34 hbox hb; have n0_ := Aside0.mk (blk_below (g := gb229) (o := .cells #[.slice A0_0 l0_0.length c0_0, .slice (some ad235) l0_1.length c0_1] 37 (0, 0)) (by (with_reducible repeat (first | refine blk_drewN ?_ _ | refine blk_drew ?_ | refine blk_alloc ?_ _)); exact BK229.out) hb); have n1_ := Aside0.mk (below_step (by repeat (first | (with_reducible first | exact HB.out | apply below_alloc | apply pw_below_drewN | apply below_drew1 | refine below_set ?_ GE229.out) | exact HB.out)) hb); have n2_ := Aside0.mk (hbox); have n3_ := Aside0.mk ((by rw [hg]; exact (below_size (by repeat (first | (with_reducible first | exact HB.out | apply below_alloc | apply pw_below_drewN | apply below_drew1 | refine below_set ?_ GE229.out) | exact HB.out))) : w.heap.size ≤ gb238)); have n4_ := Aside0.mk ((by rw [hg]; exact (below_size (by repeat (first | (with_reducible first | exact HB.out | apply below_alloc | apply pw_below_drewN | apply below_drew1 | refine below_set ?_ GE229.out) | exact HB.out))) : w.heap.size ≤ gb238)); have n5_ := Aside0.mk ((by rw [hg]; exact Nat.ne_of_lt (blk_lt (g := gb229) (o := .cells #[.slice A0_0 l0_0.length c0_0, .slice (some ad235) l0_1.length c0_1] 37 (0, 0)) (by (with_reducible repeat (first | refine blk_drewN ?_ _ | refine blk_drew ?_ | refine blk_alloc ?_ _)); exact BK229.out)) : gb229 ≠ gb238)); have n6_ := Aside0.mk ((by rw [hg]; exact Nat.ne_of_gt (blk_lt (g := gb229) (o := .cells #[.slice A0_0 l0_0.length c0_0, .slice (some ad235) l0_1.length c0_1] 37 (0, 0)) (by (with_reducible repeat (first | refine blk_drewN ?_ _ | refine blk_drew ?_ | refine blk_alloc ?_ _)); exact BK229.out)) : gb238 ≠ gb229)); clear BK229; clear HB; have BK229 := n0_; have HB := n1_; have BK238 := n2_; have GW238 := n3_; have GE238 := n4_; have NB229_238 := n5_; have NB238_229 := n6_; clear n0_ n1_ n2_ n3_ n4_ n5_ n6_; clear hb hbox hg; have hnb35 := NB238_229.out; have hnc35 := NB229_238.out; have hcz36_0 : w34.cell? ⟨gb238, 0, none⟩ = some (.int .i64 0) := (blk_cell BK238.out 0).trans rfl; have hcz36_1 : w34.cell? ⟨gb238, 1, none⟩ = some (.int .i64 0) := (blk_cell BK238.out 1).trans rfl; have hcz36_2 : w34.cell? ⟨gb238, 2, none⟩ = some (.int .i64 0) := (blk_cell BK238.out 2).trans rfl; have hfz36_0 := blk_frozen BK238.out 0; have hfz36_1 := blk_frozen BK238.out 1; have hfz36_2 := blk_frozen BK238.out 2)))
                                              go_ret
                                              exact ⟨by first | rfl | (simp [errW_none, errW_some] <;> rfl) | (simp [*, errW_none, errW_some] <;> rfl), by repeat (first | (with_reducible first | exact HB.out | apply below_alloc | apply pw_below_drewN | apply below_drew1 | refine below_set ?_ GE229.out | refine below_set ?_ GE238.out) | exact HB.out)⟩
                                            · rw [if_neg c32] at H
                                              have c32b0 : decide (((rd_T124 (rd_L2 l0_1 x8_5) x9_6).f0) < 0) = false := decide_eq_false c32
                                              clear c32
                                              by_cases c37 : x8_5 < (l0_0.length : Int)
                                              · rw [if_pos c37] at H
                                                have c37b0 : decide (x8_5 < (l0_0.length : Int)) = true := decide_eq_true c37
                                                clear c37
                                                by_cases c38 : ((rd_T124 (rd_L2 l0_1 x8_5) x9_6).f0) ≥ (rd l0_0 x8_5)
                                                · rw [if_pos c38] at H
                                                  have c38b0 : decide ((rd l0_0 x8_5) ≤ ((rd_T124 (rd_L2 l0_1 x8_5) x9_6).f0)) = true := decide_eq_true c38
                                                  clear c38
                                                  obtain rfl := Option.some.inj H
                                                  have hcz39_0 : wr.cell? ⟨gb229, 0, none⟩ = some (.slice A0_0 l0_0.length c0_0) := (blk_cell BK229.out 0).trans rfl
                                                  have hcz39_1 : wr.cell? ⟨gb229, 1, none⟩ = some (.slice A0_1 l0_1.length c0_1) := (blk_cell BK229.out 1).trans rfl
                                                  have hfz39_0 := blk_frozen BK229.out 0
                                                  have hfz39_1 := blk_frozen BK229.out 1
                                                  have p235 : 0 ≤ (x8_5 : Int) := of_decide_eq_true (by first | (with_reducible assumption) | assumption)
                                                  have q235 : x8_5 < (l0_1.length : Int) := of_decide_eq_true (by first | (with_reducible assumption) | assumption)
                                                  obtain ⟨ad235, A235_0, c235_0, e235, hx235_0, hl235_0, hi235_0⟩ := at_L2 HR0_1.out x8_5 p235 q235
                                                  cases e235
                                                  replace hx235_0 := (HB.out.cell (World.block_lt_of_cell? w _ hx235_0)).trans hx235_0
                                                  have HR235_0 := Aside0.mk hi235_0
                                                  have HC235_0 := Aside0.mk hl235_0
                                                  clear hi235_0 hl235_0
                                                  replace p235 := eq_true p235
                                                  replace q235 := eq_true q235
                                                  have p236 : 0 ≤ (x8_5 : Int) := of_decide_eq_true (by first | (with_reducible assumption) | assumption)
                                                  have q236 : x8_5 < (l0_1.length : Int) := of_decide_eq_true (by first | (with_reducible assumption) | assumption)
                                                  obtain ⟨ad236, A236_0, c236_0, e236, hx236_0, hl236_0, hi236_0⟩ := at_L2 HR0_1.out x8_5 p236 q236
                                                  obtain rfl : ad235 = ad236 := (by injection e236)
                                                  replace hx236_0 := (HB.out.cell (World.block_lt_of_cell? w _ hx236_0)).trans hx236_0
                                                  have HR236_0 := Aside0.mk hi236_0
                                                  have HC236_0 := Aside0.mk hl236_0
                                                  clear hi236_0 hl236_0
                                                  replace p236 := eq_true p236
                                                  replace q236 := eq_true q236
                                                  have ea_ := Option.some.inj (hx235_0.symm.trans hx236_0)
                                                  injection ea_ with ea_ en_ ec_
                                                  subst ea_
                                                  subst ec_
                                                  clear en_
                                                  have p237 : 0 ≤ (x9_6 : Int) := of_decide_eq_true (by first | (with_reducible assumption) | assumption)
                                                  have q237 : x9_6 < ((rd_L2 l0_1 x8_5).length : Int) := of_decide_eq_true (by first | (with_reducible assumption) | assumption)
                                                  obtain ⟨ad237, e237, hx237_0, hx237_1, hx237_2⟩ := at_T124 HR236_0.out x9_6 p237 q237
                                                  cases e237
                                                  replace hx237_0 := (HB.out.cell (World.block_lt_of_cell? w _ hx237_0)).trans hx237_0
                                                  replace hx237_1 := (HB.out.cell (World.block_lt_of_cell? w _ hx237_1)).trans hx237_1
                                                  replace hx237_2 := (HB.out.cell (World.block_lt_of_cell? w _ hx237_2)).trans hx237_2
                                                  replace p237 := eq_true p237
                                                  replace q237 := eq_true q237
                                                  go_wp2_with (first | ((with_reducible refine gate_dst (N := 10) rfl ?_); (try (refine gate_guard (by rfl) ?_; dsimp only)); refine box_event ?hg (N := 10) ?hd (cs := #[.int .i64 0, .int .i64 0, .int .i64 0]) (t := 124) ?hr ?_; (case hd => rfl); (case hg => rfl); (case hr => first | (go_simp; done) | (go_simp; rfl)); intro gb238 hg w40 hbox hb; have n0_ := Aside0.mk (blk_below (g := gb229) (o := .cells #[.slice A0_0 l0_0.length c0_0, .slice (some ad235) l0_1.length c0_1] 37 (0, 0)) (by (with_reducible repeat (first | refine blk_drewN ?_ _ | refine blk_drew ?_ | refine blk_alloc ?_ _)); exact BK229.out) hb); have n1_ := Aside0.mk (below_step (by repeat (first | (with_reducible first | exact HB.out | apply below_alloc | apply pw_below_drewN | apply below_drew1 | refine below_set ?_ GE229.out) | exact HB.out)) hb); have n2_ := Aside0.mk (hbox); have n3_ := Aside0.mk ((by rw [hg]; exact (below_size (by repeat (first | (with_reducible first | exact HB.out | apply below_alloc | apply pw_below_drewN | apply below_drew1 | refine below_set ?_ GE229.out) | exact HB.out))) : w.heap.size ≤ gb238)); have n4_ := Aside0.mk ((by rw [hg]; exact (below_size (by repeat (first | (with_reducible first | exact HB.out | apply below_alloc | apply pw_below_drewN | apply below_drew1 | refine below_set ?_ GE229.out) | exact HB.out))) : w.heap.size ≤ gb238)); have n5_ := Aside0.mk ((by rw [hg]; exact Nat.ne_of_lt (blk_lt (g := gb229) (o := .cells #[.slice A0_0 l0_0.length c0_0, .slice (some ad235) l0_1.length c0_1] 37 (0, 0)) (by (with_reducible repeat (first | refine blk_drewN ?_ _ | refine blk_drew ?_ | refine blk_alloc ?_ _)); exact BK229.out)) : gb229 ≠ gb238)); have n6_ := Aside0.mk ((by rw [hg]; exact Nat.ne_of_gt (blk_lt (g := gb229) (o := .cells #[.slice A0_0 l0_0.length c0_0, .slice (some ad235) l0_1.length c0_1] 37 (0, 0)) (by (with_reducible repeat (first | refine blk_drewN ?_ _ | refine blk_drew ?_ | refine blk_alloc ?_ _)); exact BK229.out)) : gb238 ≠ gb229)); clear BK229; clear HB; have BK229 := n0_; have HB := n1_; have BK238 := n2_; have GW238 := n3_; have GE238 := n4_; have NB229_238 := n5_; have NB238_229 := n6_; clear n0_ n1_ n2_ n3_ n4_ n5_ n6_; clear hb hbox hg; have hnb41 := NB238_229.out; have hnc41 := NB229_238.out; have hcz42_0 : w40.cell? ⟨gb238, 0, none⟩ = some (.int .i64 0) := (blk_cell BK238.out 0).trans rfl; have hcz42_1 : w40.cell? ⟨gb238, 1, none⟩ = some (.int .i64 0) := (blk_cell BK238.out 1).trans rfl; have hcz42_2 : w40.cell? ⟨gb238, 2, none⟩ = some (.int .i64 0) := (blk_cell BK238.out 2).trans rfl; have hfz42_0 := blk_frozen BK238.out 0; have hfz42_1 := blk_frozen BK238.out 1; have hfz42_2 := blk_frozen BK238.out 2; have hcz43_0 : w40.cell? ⟨gb229, 0, none⟩ = some (.slice A0_0 l0_0.length c0_0) := (blk_cell BK229.out 0).trans rfl; have hcz43_1 : w40.cell? ⟨gb229, 1, none⟩ = some (.slice (some ad235) l0_1.length c0_1) := (blk_cell BK229.out 1).trans rfl; have hfz43_0 := blk_frozen BK229.out 0; have hfz43_1 := blk_frozen BK229.out 1; have p239 : 0 ≤ (x8_5 : Int) := of_decide_eq_true (by first | (with_reducible assumption) | assumption); have q239 : x8_5 < (l0_0.length : Int) := of_decide_eq_true (by first | (with_reducible assumption) | assumption); obtain ⟨ad239, e239, hx239_0⟩ := Kd.at_int HR0_0.out x8_5 p239 q239; cases e239; have hn239_0 : ad239.block ≠ gb238 := Nat.ne_of_lt (Nat.lt_of_lt_of_le (by have := World.block_lt_of_cell? _ _ hx239_0; first | rwa [add_block] at this | exact this) GW238.out); have hn239_1 : ad239.block ≠ gb238 := Nat.ne_of_lt (Nat.lt_of_lt_of_le (by have := World.block_lt_of_cell? _ _ hx239_0; first | rwa [add_block] at this | exact this) GW238.out); have hn239_2 : ad239.block ≠ gb238 := Nat.ne_of_lt (Nat.lt_of_lt_of_le (by have := World.block_lt_of_cell? _ _ hx239_0; first | rwa [add_block] at this | exact this) GW238.out); replace hx239_0 := (HB.out.cell (World.block_lt_of_cell? w _ hx239_0)).trans hx239_0; replace hx239_0 := (cell_far (p := ⟨gb238, 0, none⟩) (by first | (rw [add_block]; exact hn239_0) | (show (Addr.add _ _).block ≠ _; rw [add_block]; exact hn239_0) | exact hn239_0) (.int .i64 ((rd_T124 (rd_L2 l0_1 x8_5) x9_6).f0))).trans hx239_0; replace hx239_0 := (cell_far (p := ⟨gb238, 1, none⟩) (by first | (rw [add_block]; exact hn239_1) | (show (Addr.add _ _).block ≠ _; rw [add_block]; exact hn239_1) | exact hn239_1) (.int .i64 ((rd_T124 (rd_L2 l0_1 x8_5) x9_6).f1))).trans hx239_0; replace hx239_0 := (cell_far (p := ⟨gb238, 2, none⟩) (by first | (rw [add_block]; exact hn239_2) | (show (Addr.add _ _).block ≠ _; rw [add_block]; exact hn239_2) | exact hn239_2) (.int .i64 ((rd_T124 (rd_L2 l0_1 x8_5) x9_6).f2))).trans hx239_0; (try have hy239_0 := fun (n_ : Nat) => (show (((((w40.drewN n_).setCell ⟨gb238, 0, none⟩ (.int .i64 ((rd_T124 (rd_L2 l0_1 x8_5) x9_6).f0))).setCell ⟨gb238, 1, none⟩ (.int .i64 ((rd_T124 (rd_L2 l0_1 x8_5) x9_6).f1))).setCell ⟨gb238, 2, none⟩ (.int .i64 ((rd_T124 (rd_L2 l0_1 x8_5) x9_6).f2)))).cell? _ = some _ from hx239_0)); clear hn239_0; clear hn239_1; clear hn239_2; replace p239 := eq_true p239; replace q239 := eq_true q239))
                                                  repeat (go_quiet (first | ((with_reducible refine gate_dst (N := 10) rfl ?_); (try (refine gate_guard (by rfl) ?_; dsimp only)); refine box_event ?hg (N := 10) ?hd (cs := #[.int .i64 0, .int .i64 0, .int .i64 0]) (t := 124) ?hr ?_; (case hd => rfl); (case hg => rfl); (case hr => first | (go_simp; done) | (go_simp; rfl)); intro gb238 hg w40 hbox hb; have n0_ := Aside0.mk (blk_below (g := gb229) (o := .cells #[.slice A0_0 l0_0.length c0_0, .slice (some ad235) l0_1.length c0_1] 37 (0, 0)) (by (with_reducible repeat (first | refine blk_drewN ?_ _ | refine blk_drew ?_ | refine blk_alloc ?_ _)); exact BK229.out) hb); have n1_ := Aside0.mk (below_step (by repeat (first | (with_reducible first | exact HB.out | apply below_alloc | apply pw_below_drewN | apply below_drew1 | refine below_set ?_ GE229.out) | exact HB.out)) hb); have n2_ := Aside0.mk (hbox); have n3_ := Aside0.mk ((by rw [hg]; exact (below_size (by repeat (first | (with_reducible first | exact HB.out | apply below_alloc | apply pw_below_drewN | apply below_drew1 | refine below_set ?_ GE229.out) | exact HB.out))) : w.heap.size ≤ gb238)); have n4_ := Aside0.mk ((by rw [hg]; exact (below_size (by repeat (first | (with_reducible first | exact HB.out | apply below_alloc | apply pw_below_drewN | apply below_drew1 | refine below_set ?_ GE229.out) | exact HB.out))) : w.heap.size ≤ gb238)); have n5_ := Aside0.mk ((by rw [hg]; exact Nat.ne_of_lt (blk_lt (g := gb229) (o := .cells #[.slice A0_0 l0_0.length c0_0, .slice (some ad235) l0_1.length c0_1] 37 (0, 0)) (by (with_reducible repeat (first | refine blk_drewN ?_ _ | refine blk_drew ?_ | refine blk_alloc ?_ _)); exact BK229.out)) : gb229 ≠ gb238)); have n6_ := Aside0.mk ((by rw [hg]; exact Nat.ne_of_gt (blk_lt (g := gb229) (o := .cells #[.slice A0_0 l0_0.length c0_0, .slice (some ad235) l0_1.length c0_1] 37 (0, 0)) (by (with_reducible repeat (first | refine blk_drewN ?_ _ | refine blk_drew ?_ | refine blk_alloc ?_ _)); exact BK229.out)) : gb238 ≠ gb229)); clear BK229; clear HB; have BK229 := n0_; have HB := n1_; have BK238 := n2_; have GW238 := n3_; have GE238 := n4_; have NB229_238 := n5_; have NB238_229 := n6_; clear n0_ n1_ n2_ n3_ n4_ n5_ n6_; clear hb hbox hg; have hnb41 := NB238_229.out; have hnc41 := NB229_238.out; have hcz42_0 : w40.cell? ⟨gb238, 0, none⟩ = some (.int .i64 0) := (blk_cell BK238.out 0).trans rfl; have hcz42_1 : w40.cell? ⟨gb238, 1, none⟩ = some (.int .i64 0) := (blk_cell BK238.out 1).trans rfl; have hcz42_2 : w40.cell? ⟨gb238, 2, none⟩ = some (.int .i64 0) := (blk_cell BK238.out 2).trans rfl; have hfz42_0 := blk_frozen BK238.out 0; have hfz42_1 := blk_frozen BK238.out 1; have hfz42_2 := blk_frozen BK238.out 2; have hcz43_0 : w40.cell? ⟨gb229, 0, none⟩ = some (.slice A0_0 l0_0.length c0_0) := (blk_cell BK229.out 0).trans rfl; have hcz43_1 : w40.cell? ⟨gb229, 1, none⟩ = some (.slice (some ad235) l0_1.length c0_1) := (blk_cell BK229.out 1).trans rfl; have hfz43_0 := blk_frozen BK229.out 0; have hfz43_1 := blk_frozen BK229.out 1; have p239 : 0 ≤ (x8_5 : Int) := of_decide_eq_true (by first | (with_reducible assumption) | assumption); have q239 : x8_5 < (l0_0.length : Int) := of_decide_eq_true (by first | (with_reducible assumption) | assumption); obtain ⟨ad239, e239, hx239_0⟩ := Kd.at_int HR0_0.out x8_5 p239 q239; cases e239; have hn239_0 : ad239.block ≠ gb238 := Nat.ne_of_lt (Nat.lt_of_lt_of_le (by have := World.block_lt_of_cell? _ _ hx239_0; first | rwa [add_block] at this | exact this) GW238.out); have hn239_1 : ad239.block ≠ gb238 := Nat.ne_of_lt (Nat.lt_of_lt_of_le (by have := World.block_lt_of_cell? _ _ hx239_0; first | rwa [add_block] at this | exact this) GW238.out); have hn239_2 : ad239.block ≠ gb238 := Nat.ne_of_lt (Nat.lt_of_lt_of_le (by have := World.block_lt_of_cell? _ _ hx239_0; first | rwa [add_block] at this | exact this) GW238.out); replace hx239_0 := (HB.out.cell (World.block_lt_of_cell? w _ hx239_0)).trans hx239_0; replace hx239_0 := (cell_far (p := ⟨gb238, 0, none⟩) (by first | (rw [add_block]; exact hn239_0) | (show (Addr.add _ _).block ≠ _; rw [add_block]; exact hn239_0) | exact hn239_0) (.int .i64 ((rd_T124 (rd_L2 l0_1 x8_5) x9_6).f0))).trans hx239_0; replace hx239_0 := (cell_far (p := ⟨gb238, 1, none⟩) (by first | (rw [add_block]; exact hn239_1) | (show (Addr.add _ _).block ≠ _; rw [add_block]; exact hn239_1) | exact hn239_1) (.int .i64 ((rd_T124 (rd_L2 l0_1 x8_5) x9_6).f1))).trans hx239_0; replace hx239_0 := (cell_far (p := ⟨gb238, 2, none⟩) (by first | (rw [add_block]; exact hn239_2) | (show (Addr.add _ _).block ≠ _; rw [add_block]; exact hn239_2) | exact hn239_2) (.int .i64 ((rd_T124 (rd_L2 l0_1 x8_5) x9_6).f2))).trans hx239_0; (try have hy239_0 := fun (n_ : Nat) => (show (((((w40.drewN n_).setCell ⟨gb238, 0, none⟩ (.int .i64 ((rd_T124 (rd_L2 l0_1 x8_5) x9_6).f0))).setCell ⟨gb238, 1, none⟩ (.int .i64 ((rd_T124 (rd_L2 l0_1 x8_5) x9_6).f1))).setCell ⟨gb238, 2, none⟩ (.int .i64 ((rd_T124 (rd_L2 l0_1 x8_5) x9_6).f2)))).cell? _ = some _ from hx239_0)); clear hn239_0; clear hn239_1; clear hn239_2; replace p239 := eq_true p239; replace q239 := eq_true q239)); try go_wp2_with (first | ((with_reducible refine gate_dst (N := 10) rfl ?_); (try (refine gate_guard (by rfl) ?_; dsimp only)); refine box_event ?hg (N := 10) ?hd (cs := #[.int .i64 0, .int .i64 0, .int .i64 0]) (t := 124) ?hr ?_; (case hd => rfl); (case hg => rfl); (case hr => first | (go_simp; done) | (go_simp; rfl)); intro gb238 hg w40 hbox hb; have n0_ := Aside0.mk (blk_below (g := gb229) (o := .cells #[.slice A0_0 l0_0.length c0_0, .slice (some ad235) l0_1.length c0_1] 37 (0, 0)) (by (with_reducible repeat (first | refine blk_drewN ?_ _ | refine blk_drew ?_ | refine blk_alloc ?_ _)); exact BK229.out) hb); have n1_ := Aside0.mk (below_step (by repeat (first | (with_reducible first | exact HB.out | apply below_alloc | apply pw_below_drewN | apply below_drew1 | refine below_set ?_ GE229.out) | exact HB.out)) hb); have n2_ := Aside0.mk (hbox); have n3_ := Aside0.mk ((by rw [hg]; exact (below_size (by repeat (first | (with_reducible first | exact HB.out | apply below_alloc | apply pw_below_drewN | apply below_drew1 | refine below_set ?_ GE229.out) | exact HB.out))) : w.heap.size ≤ gb238)); have n4_ := Aside0.mk ((by rw [hg]; exact (below_size (by repeat (first | (with_reducible first | exact HB.out | apply below_alloc | apply pw_below_drewN | apply below_drew1 | refine below_set ?_ GE229.out) | exact HB.out))) : w.heap.size ≤ gb238)); have n5_ := Aside0.mk ((by rw [hg]; exact Nat.ne_of_lt (blk_lt (g := gb229) (o := .cells #[.slice A0_0 l0_0.length c0_0, .slice (some ad235) l0_1.length c0_1] 37 (0, 0)) (by (with_reducible repeat (first | refine blk_drewN ?_ _ | refine blk_drew ?_ | refine blk_alloc ?_ _)); exact BK229.out)) : gb229 ≠ gb238)); have n6_ := Aside0.mk ((by rw [hg]; exact Nat.ne_of_gt (blk_lt (g := gb229) (o := .cells #[.slice A0_0 l0_0.length c0_0, .slice (some ad235) l0_1.length c0_1] 37 (0, 0)) (by (with_reducible repeat (first | refine blk_drewN ?_ _ | refine blk_drew ?_ | refine blk_alloc ?_ _)); exact BK229.out)) : gb238 ≠ gb229)); clear BK229; clear HB; have BK229 := n0_; have HB := n1_; have BK238 := n2_; have GW238 := n3_; have GE238 := n4_; have NB229_238 := n5_; have NB238_229 := n6_; clear n0_ n1_ n2_ n3_ n4_ n5_ n6_; clear hb hbox hg; have hnb41 := NB238_229.out; have hnc41 := NB229_238.out; have hcz42_0 : w40.cell? ⟨gb238, 0, none⟩ = some (.int .i64 0) := (blk_cell BK238.out 0).trans rfl; have hcz42_1 : w40.cell? ⟨gb238, 1, none⟩ = some (.int .i64 0) := (blk_cell BK238.out 1).trans rfl; have hcz42_2 : w40.cell? ⟨gb238, 2, none⟩ = some (.int .i64 0) := (blk_cell BK238.out 2).trans rfl; have hfz42_0 := blk_frozen BK238.out 0; have hfz42_1 := blk_frozen BK238.out 1; have hfz42_2 := blk_frozen BK238.out 2; have hcz43_0 : w40.cell? ⟨gb229, 0, none⟩ = some (.slice A0_0 l0_0.length c0_0) := (blk_cell BK229.out 0).trans rfl; have hcz43_1 : w40.cell? ⟨gb229, 1, none⟩ = some (.slice (some ad235) l0_1.length c0_1) := (blk_cell BK229.out 1).trans rfl; have hfz43_0 := blk_frozen BK229.out 0; have hfz43_1 := blk_frozen BK229.out 1; have p239 : 0 ≤ (x8_5 : Int) := of_decide_eq_true (by first | (with_reducible assumption) | assumption); have q239 : x8_5 < (l0_0.length : Int) := of_decide_eq_true (by first | (with_reducible assumption) | assumption); obtain ⟨ad239, e239, hx239_0⟩ := Kd.at_int HR0_0.out x8_5 p239 q239; cases e239; have hn239_0 : ad239.block ≠ gb238 := Nat.ne_of_lt (Nat.lt_of_lt_of_le (by have := World.block_lt_of_cell? _ _ hx239_0; first | rwa [add_block] at this | exact this) GW238.out); have hn239_1 : ad239.block ≠ gb238 := Nat.ne_of_lt (Nat.lt_of_lt_of_le (by have := World.block_lt_of_cell? _ _ hx239_0; first | rwa [add_block] at this | exact this) GW238.out); have hn239_2 : ad239.block ≠ gb238 := Nat.ne_of_lt (Nat.lt_of_lt_of_le (by have := World.block_lt_of_cell? _ _ hx239_0; first | rwa [add_block] at this | exact this) GW238.out); replace hx239_0 := (HB.out.cell (World.block_lt_of_cell? w _ hx239_0)).trans hx239_0; replace hx239_0 := (cell_far (p := ⟨gb238, 0, none⟩) (by first | (rw [add_block]; exact hn239_0) | (show (Addr.add _ _).block ≠ _; rw [add_block]; exact hn239_0) | exact hn239_0) (.int .i64 ((rd_T124 (rd_L2 l0_1 x8_5) x9_6).f0))).trans hx239_0; replace hx239_0 := (cell_far (p := ⟨gb238, 1, none⟩) (by first | (rw [add_block]; exact hn239_1) | (show (Addr.add _ _).block ≠ _; rw [add_block]; exact hn239_1) | exact hn239_1) (.int .i64 ((rd_T124 (rd_L2 l0_1 x8_5) x9_6).f1))).trans hx239_0; replace hx239_0 := (cell_far (p := ⟨gb238, 2, none⟩) (by first | (rw [add_block]; exact hn239_2) | (show (Addr.add _ _).block ≠ _; rw [add_block]; exact hn239_2) | exact hn239_2) (.int .i64 ((rd_T124 (rd_L2 l0_1 x8_5) x9_6).f2))).trans hx239_0; (try have hy239_0 := fun (n_ : Nat) => (show (((((w40.drewN n_).setCell ⟨gb238, 0, none⟩ (.int .i64 ((rd_T124 (rd_L2 l0_1 x8_5) x9_6).f0))).setCell ⟨gb238, 1, none⟩ (.int .i64 ((rd_T124 (rd_L2 l0_1 x8_5) x9_6).f1))).setCell ⟨gb238, 2, none⟩ (.int .i64 ((rd_T124 (rd_L2 l0_1 x8_5) x9_6).f2)))).cell? _ = some _ from hx239_0)); clear hn239_0; clear hn239_1; clear hn239_2; replace p239 := eq_true p239; replace q239 := eq_true q239)))
                                                  go_ret
                                                  exact ⟨by first | rfl | (simp [errW_none, errW_some] <;> rfl) | (simp [*, errW_none, errW_some] <;> rfl), by repeat (first | (with_reducible first | exact HB.out | apply below_alloc | apply pw_below_drewN | apply below_drew1 | refine below_set ?_ GE229.out | refine below_set ?_ GE238.out) | exact HB.out)⟩
                                                · rw [if_neg c38] at H
                                                  have c38b0 : decide ((rd l0_0 x8_5) ≤ ((rd_T124 (rd_L2 l0_1 x8_5) x9_6).f0)) = false := decide_eq_false c38
                                                  clear c38
                                                  by_cases c44 : ((rd_T124 (rd_L2 l0_1 x8_5) x9_6).f2) < 0
                                                  · rw [if_pos c44] at H
                                                    have c44b0 : decide (((rd_T124 (rd_L2 l0_1 x8_5) x9_6).f2) < 0) = true := decide_eq_true c44
                                                    clear c44
                                                    obtain rfl := Option.some.inj H
                                                    have hcz45_0 : wr.cell? ⟨gb229, 0, none⟩ = some (.slice A0_0 l0_0.length c0_0) := (blk_cell BK229.out 0).trans rfl
                                                    have hcz45_1 : wr.cell? ⟨gb229, 1, none⟩ = some (.slice A0_1 l0_1.length c0_1) := (blk_cell BK229.out 1).trans rfl
                                                    have hfz45_0 := blk_frozen BK229.out 0
                                                    have hfz45_1 := blk_frozen BK229.out 1
                                                    have p235 : 0 ≤ (x8_5 : Int) := of_decide_eq_true (by first | (with_reducible assumption) | assumption)
                                                    have q235 : x8_5 < (l0_1.length : Int) := of_decide_eq_true (by first | (with_reducible assumption) | assumption)
                                                    obtain ⟨ad235, A235_0, c235_0, e235, hx235_0, hl235_0, hi235_0⟩ := at_L2 HR0_1.out x8_5 p235 q235
                                                    cases e235
                                                    replace hx235_0 := (HB.out.cell (World.block_lt_of_cell? w _ hx235_0)).trans hx235_0
                                                    have HR235_0 := Aside0.mk hi235_0
                                                    have HC235_0 := Aside0.mk hl235_0
                                                    clear hi235_0 hl235_0
                                                    replace p235 := eq_true p235
                                                    replace q235 := eq_true q235
                                                    have p236 : 0 ≤ (x8_5 : Int) := of_decide_eq_true (by first | (with_reducible assumption) | assumption)
                                                    have q236 : x8_5 < (l0_1.length : Int) := of_decide_eq_true (by first | (with_reducible assumption) | assumption)
                                                    obtain ⟨ad236, A236_0, c236_0, e236, hx236_0, hl236_0, hi236_0⟩ := at_L2 HR0_1.out x8_5 p236 q236
                                                    obtain rfl : ad235 = ad236 := (by injection e236)
                                                    replace hx236_0 := (HB.out.cell (World.block_lt_of_cell? w _ hx236_0)).trans hx236_0
                                                    have HR236_0 := Aside0.mk hi236_0
                                                    have HC236_0 := Aside0.mk hl236_0
                                                    clear hi236_0 hl236_0
                                                    replace p236 := eq_true p236
                                                    replace q236 := eq_true q236
                                                    have ea_ := Option.some.inj (hx235_0.symm.trans hx236_0)
                                                    injection ea_ with ea_ en_ ec_
                                                    subst ea_
                                                    subst ec_
                                                    clear en_
                                                    have p237 : 0 ≤ (x9_6 : Int) := of_decide_eq_true (by first | (with_reducible assumption) | assumption)
                                                    have q237 : x9_6 < ((rd_L2 l0_1 x8_5).length : Int) := of_decide_eq_true (by first | (with_reducible assumption) | assumption)
                                                    obtain ⟨ad237, e237, hx237_0, hx237_1, hx237_2⟩ := at_T124 HR236_0.out x9_6 p237 q237
                                                    cases e237
                                                    replace hx237_0 := (HB.out.cell (World.block_lt_of_cell? w _ hx237_0)).trans hx237_0
                                                    replace hx237_1 := (HB.out.cell (World.block_lt_of_cell? w _ hx237_1)).trans hx237_1
                                                    replace hx237_2 := (HB.out.cell (World.block_lt_of_cell? w _ hx237_2)).trans hx237_2
                                                    replace p237 := eq_true p237
                                                    replace q237 := eq_true q237
                                                    go_wp2_with (first | ((with_reducible refine gate_dst (N := 10) rfl ?_); (try (refine gate_guard (by rfl) ?_; dsimp only)); refine box_event ?hg (N := 10) ?hd (cs := #[.int .i64 0, .int .i64 0, .int .i64 0]) (t := 124) ?hr ?_; (case hd => rfl); (case hg => rfl); (case hr => first | (go_simp; done) | (go_simp; rfl)); intro gb238 hg w46 hbox hb; have n0_ := Aside0.mk (blk_below (g := gb229) (o := .cells #[.slice A0_0 l0_0.length c0_0, .slice (some ad235) l0_1.length c0_1] 37 (0, 0)) (by (with_reducible repeat (first | refine blk_drewN ?_ _ | refine blk_drew ?_ | refine blk_alloc ?_ _)); exact BK229.out) hb); have n1_ := Aside0.mk (below_step (by repeat (first | (with_reducible first | exact HB.out | apply below_alloc | apply pw_below_drewN | apply below_drew1 | refine below_set ?_ GE229.out) | exact HB.out)) hb); have n2_ := Aside0.mk (hbox); have n3_ := Aside0.mk ((by rw [hg]; exact (below_size (by repeat (first | (with_reducible first | exact HB.out | apply below_alloc | apply pw_below_drewN | apply below_drew1 | refine below_set ?_ GE229.out) | exact HB.out))) : w.heap.size ≤ gb238)); have n4_ := Aside0.mk ((by rw [hg]; exact (below_size (by repeat (first | (with_reducible first | exact HB.out | apply below_alloc | apply pw_below_drewN | apply below_drew1 | refine below_set ?_ GE229.out) | exact HB.out))) : w.heap.size ≤ gb238)); have n5_ := Aside0.mk ((by rw [hg]; exact Nat.ne_of_lt (blk_lt (g := gb229) (o := .cells #[.slice A0_0 l0_0.length c0_0, .slice (some ad235) l0_1.length c0_1] 37 (0, 0)) (by (with_reducible repeat (first | refine blk_drewN ?_ _ | refine blk_drew ?_ | refine blk_alloc ?_ _)); exact BK229.out)) : gb229 ≠ gb238)); have n6_ := Aside0.mk ((by rw [hg]; exact Nat.ne_of_gt (blk_lt (g := gb229) (o := .cells #[.slice A0_0 l0_0.length c0_0, .slice (some ad235) l0_1.length c0_1] 37 (0, 0)) (by (with_reducible repeat (first | refine blk_drewN ?_ _ | refine blk_drew ?_ | refine blk_alloc ?_ _)); exact BK229.out)) : gb238 ≠ gb229)); clear BK229; clear HB; have BK229 := n0_; have HB := n1_; have BK238 := n2_; have GW238 := n3_; have GE238 := n4_; have NB229_238 := n5_; have NB238_229 := n6_; clear n0_ n1_ n2_ n3_ n4_ n5_ n6_; clear hb hbox hg; have hnb47 := NB238_229.out; have hnc47 := NB229_238.out; have hcz48_0 : w46.cell? ⟨gb238, 0, none⟩ = some (.int .i64 0) := (blk_cell BK238.out 0).trans rfl; have hcz48_1 : w46.cell? ⟨gb238, 1, none⟩ = some (.int .i64 0) := (blk_cell BK238.out 1).trans rfl; have hcz48_2 : w46.cell? ⟨gb238, 2, none⟩ = some (.int .i64 0) := (blk_cell BK238.out 2).trans rfl; have hfz48_0 := blk_frozen BK238.out 0; have hfz48_1 := blk_frozen BK238.out 1; have hfz48_2 := blk_frozen BK238.out 2; have hcz49_0 : w46.cell? ⟨gb229, 0, none⟩ = some (.slice A0_0 l0_0.length c0_0) := (blk_cell BK229.out 0).trans rfl; have hcz49_1 : w46.cell? ⟨gb229, 1, none⟩ = some (.slice (some ad235) l0_1.length c0_1) := (blk_cell BK229.out 1).trans rfl; have hfz49_0 := blk_frozen BK229.out 0; have hfz49_1 := blk_frozen BK229.out 1; have p239 : 0 ≤ (x8_5 : Int) := of_decide_eq_true (by first | (with_reducible assumption) | assumption); have q239 : x8_5 < (l0_0.length : Int) := of_decide_eq_true (by first | (with_reducible assumption) | assumption); obtain ⟨ad239, e239, hx239_0⟩ := Kd.at_int HR0_0.out x8_5 p239 q239; cases e239; have hn239_0 : ad239.block ≠ gb238 := Nat.ne_of_lt (Nat.lt_of_lt_of_le (by have := World.block_lt_of_cell? _ _ hx239_0; first | rwa [add_block] at this | exact this) GW238.out); have hn239_1 : ad239.block ≠ gb238 := Nat.ne_of_lt (Nat.lt_of_lt_of_le (by have := World.block_lt_of_cell? _ _ hx239_0; first | rwa [add_block] at this | exact this) GW238.out); have hn239_2 : ad239.block ≠ gb238 := Nat.ne_of_lt (Nat.lt_of_lt_of_le (by have := World.block_lt_of_cell? _ _ hx239_0; first | rwa [add_block] at this | exact this) GW238.out); replace hx239_0 := (HB.out.cell (World.block_lt_of_cell? w _ hx239_0)).trans hx239_0; replace hx239_0 := (cell_far (p := ⟨gb238, 0, none⟩) (by first | (rw [add_block]; exact hn239_0) | (show (Addr.add _ _).block ≠ _; rw [add_block]; exact hn239_0) | exact hn239_0) (.int .i64 ((rd_T124 (rd_L2 l0_1 x8_5) x9_6).f0))).trans hx239_0; replace hx239_0 := (cell_far (p := ⟨gb238, 1, none⟩) (by first | (rw [add_block]; exact hn239_1) | (show (Addr.add _ _).block ≠ _; rw [add_block]; exact hn239_1) | exact hn239_1) (.int .i64 ((rd_T124 (rd_L2 l0_1 x8_5) x9_6).f1))).trans hx239_0; replace hx239_0 := (cell_far (p := ⟨gb238, 2, none⟩) (by first | (rw [add_block]; exact hn239_2) | (show (Addr.add _ _).block ≠ _; rw [add_block]; exact hn239_2) | exact hn239_2) (.int .i64 ((rd_T124 (rd_L2 l0_1 x8_5) x9_6).f2))).trans hx239_0; (try have hy239_0 := fun (n_ : Nat) => (show (((((w46.drewN n_).setCell ⟨gb238, 0, none⟩ (.int .i64 ((rd_T124 (rd_L2 l0_1 x8_5) x9_6).f0))).setCell ⟨gb238, 1, none⟩ (.int .i64 ((rd_T124 (rd_L2 l0_1 x8_5) x9_6).f1))).setCell ⟨gb238, 2, none⟩ (.int .i64 ((rd_T124 (rd_L2 l0_1 x8_5) x9_6).f2)))).cell? _ = some _ from hx239_0)); clear hn239_0; clear hn239_1; clear hn239_2; replace p239 := eq_true p239; replace q239 := eq_true q239))
                                                    repeat (go_quiet (first | ((with_reducible refine gate_dst (N := 10) rfl ?_); (try (refine gate_guard (by rfl) ?_; dsimp only)); refine box_event ?hg (N := 10) ?hd (cs := #[.int .i64 0, .int .i64 0, .int .i64 0]) (t := 124) ?hr ?_; (case hd => rfl); (case hg => rfl); (case hr => first | (go_simp; done) | (go_simp; rfl)); intro gb238 hg w46 hbox hb; have n0_ := Aside0.mk (blk_below (g := gb229) (o := .cells #[.slice A0_0 l0_0.length c0_0, .slice (some ad235) l0_1.length c0_1] 37 (0, 0)) (by (with_reducible repeat (first | refine blk_drewN ?_ _ | refine blk_drew ?_ | refine blk_alloc ?_ _)); exact BK229.out) hb); have n1_ := Aside0.mk (below_step (by repeat (first | (with_reducible first | exact HB.out | apply below_alloc | apply pw_below_drewN | apply below_drew1 | refine below_set ?_ GE229.out) | exact HB.out)) hb); have n2_ := Aside0.mk (hbox); have n3_ := Aside0.mk ((by rw [hg]; exact (below_size (by repeat (first | (with_reducible first | exact HB.out | apply below_alloc | apply pw_below_drewN | apply below_drew1 | refine below_set ?_ GE229.out) | exact HB.out))) : w.heap.size ≤ gb238)); have n4_ := Aside0.mk ((by rw [hg]; exact (below_size (by repeat (first | (with_reducible first | exact HB.out | apply below_alloc | apply pw_below_drewN | apply below_drew1 | refine below_set ?_ GE229.out) | exact HB.out))) : w.heap.size ≤ gb238)); have n5_ := Aside0.mk ((by rw [hg]; exact Nat.ne_of_lt (blk_lt (g := gb229) (o := .cells #[.slice A0_0 l0_0.length c0_0, .slice (some ad235) l0_1.length c0_1] 37 (0, 0)) (by (with_reducible repeat (first | refine blk_drewN ?_ _ | refine blk_drew ?_ | refine blk_alloc ?_ _)); exact BK229.out)) : gb229 ≠ gb238)); have n6_ := Aside0.mk ((by rw [hg]; exact Nat.ne_of_gt (blk_lt (g := gb229) (o := .cells #[.slice A0_0 l0_0.length c0_0, .slice (some ad235) l0_1.length c0_1] 37 (0, 0)) (by (with_reducible repeat (first | refine blk_drewN ?_ _ | refine blk_drew ?_ | refine blk_alloc ?_ _)); exact BK229.out)) : gb238 ≠ gb229)); clear BK229; clear HB; have BK229 := n0_; have HB := n1_; have BK238 := n2_; have GW238 := n3_; have GE238 := n4_; have NB229_238 := n5_; have NB238_229 := n6_; clear n0_ n1_ n2_ n3_ n4_ n5_ n6_; clear hb hbox hg; have hnb47 := NB238_229.out; have hnc47 := NB229_238.out; have hcz48_0 : w46.cell? ⟨gb238, 0, none⟩ = some (.int .i64 0) := (blk_cell BK238.out 0).trans rfl; have hcz48_1 : w46.cell? ⟨gb238, 1, none⟩ = some (.int .i64 0) := (blk_cell BK238.out 1).trans rfl; have hcz48_2 : w46.cell? ⟨gb238, 2, none⟩ = some (.int .i64 0) := (blk_cell BK238.out 2).trans rfl; have hfz48_0 := blk_frozen BK238.out 0; have hfz48_1 := blk_frozen BK238.out 1; have hfz48_2 := blk_frozen BK238.out 2; have hcz49_0 : w46.cell? ⟨gb229, 0, none⟩ = some (.slice A0_0 l0_0.length c0_0) := (blk_cell BK229.out 0).trans rfl; have hcz49_1 : w46.cell? ⟨gb229, 1, none⟩ = some (.slice (some ad235) l0_1.length c0_1) := (blk_cell BK229.out 1).trans rfl; have hfz49_0 := blk_frozen BK229.out 0; have hfz49_1 := blk_frozen BK229.out 1; have p239 : 0 ≤ (x8_5 : Int) := of_decide_eq_true (by first | (with_reducible assumption) | assumption); have q239 : x8_5 < (l0_0.length : Int) := of_decide_eq_true (by first | (with_reducible assumption) | assumption); obtain ⟨ad239, e239, hx239_0⟩ := Kd.at_int HR0_0.out x8_5 p239 q239; cases e239; have hn239_0 : ad239.block ≠ gb238 := Nat.ne_of_lt (Nat.lt_of_lt_of_le (by have := World.block_lt_of_cell? _ _ hx239_0; first | rwa [add_block] at this | exact this) GW238.out); have hn239_1 : ad239.block ≠ gb238 := Nat.ne_of_lt (Nat.lt_of_lt_of_le (by have := World.block_lt_of_cell? _ _ hx239_0; first | rwa [add_block] at this | exact this) GW238.out); have hn239_2 : ad239.block ≠ gb238 := Nat.ne_of_lt (Nat.lt_of_lt_of_le (by have := World.block_lt_of_cell? _ _ hx239_0; first | rwa [add_block] at this | exact this) GW238.out); replace hx239_0 := (HB.out.cell (World.block_lt_of_cell? w _ hx239_0)).trans hx239_0; replace hx239_0 := (cell_far (p := ⟨gb238, 0, none⟩) (by first | (rw [add_block]; exact hn239_0) | (show (Addr.add _ _).block ≠ _; rw [add_block]; exact hn239_0) | exact hn239_0) (.int .i64 ((rd_T124 (rd_L2 l0_1 x8_5) x9_6).f0))).trans hx239_0; replace hx239_0 := (cell_far (p := ⟨gb238, 1, none⟩) (by first | (rw [add_block]; exact hn239_1) | (show (Addr.add _ _).block ≠ _; rw [add_block]; exact hn239_1) | exact hn239_1) (.int .i64 ((rd_T124 (rd_L2 l0_1 x8_5) x9_6).f1))).trans hx239_0; replace hx239_0 := (cell_far (p := ⟨gb238, 2, none⟩) (by first | (rw [add_block]; exact hn239_2) | (show (Addr.add _ _).block ≠ _; rw [add_block]; exact hn239_2) | exact hn239_2) (.int .i64 ((rd_T124 (rd_L2 l0_1 x8_5) x9_6).f2))).trans hx239_0; (try have hy239_0 := fun (n_ : Nat) => (show (((((w46.drewN n_).setCell ⟨gb238, 0, none⟩ (.int .i64 ((rd_T124 (rd_L2 l0_1 x8_5) x9_6).f0))).setCell ⟨gb238, 1, none⟩ (.int .i64 ((rd_T124 (rd_L2 l0_1 x8_5) x9_6).f1))).setCell ⟨gb238, 2, none⟩ (.int .i64 ((rd_T124 (rd_L2 l0_1 x8_5) x9_6).f2)))).cell? _ = some _ from hx239_0)); clear hn239_0; clear hn239_1; clear hn239_2; replace p239 := eq_true p239; replace q239 := eq_true q239)); try go_wp2_with (first | ((with_reducible refine gate_dst (N := 10) rfl ?_); (try (refine gate_guard (by rfl) ?_; dsimp only)); refine box_event ?hg (N := 10) ?hd (cs := #[.int .i64 0, .int .i64 0, .int .i64 0]) (t := 124) ?hr ?_; (case hd => rfl); (case hg => rfl); (case hr => first | (go_simp; done) | (go_simp; rfl)); intro gb238 hg w46 hbox hb; have n0_ := Aside0.mk (blk_below (g := gb229) (o := .cells #[.slice A0_0 l0_0.length c0_0, .slice (some ad235) l0_1.length c0_1] 37 (0, 0)) (by (with_reducible repeat (first | refine blk_drewN ?_ _ | refine blk_drew ?_ | refine blk_alloc ?_ _)); exact BK229.out) hb); have n1_ := Aside0.mk (below_step (by repeat (first | (with_reducible first | exact HB.out | apply below_alloc | apply pw_below_drewN | apply below_drew1 | refine below_set ?_ GE229.out) | exact HB.out)) hb); have n2_ := Aside0.mk (hbox); have n3_ := Aside0.mk ((by rw [hg]; exact (below_size (by repeat (first | (with_reducible first | exact HB.out | apply below_alloc | apply pw_below_drewN | apply below_drew1 | refine below_set ?_ GE229.out) | exact HB.out))) : w.heap.size ≤ gb238)); have n4_ := Aside0.mk ((by rw [hg]; exact (below_size (by repeat (first | (with_reducible first | exact HB.out | apply below_alloc | apply pw_below_drewN | apply below_drew1 | refine below_set ?_ GE229.out) | exact HB.out))) : w.heap.size ≤ gb238)); have n5_ := Aside0.mk ((by rw [hg]; exact Nat.ne_of_lt (blk_lt (g := gb229) (o := .cells #[.slice A0_0 l0_0.length c0_0, .slice (some ad235) l0_1.length c0_1] 37 (0, 0)) (by (with_reducible repeat (first | refine blk_drewN ?_ _ | refine blk_drew ?_ | refine blk_alloc ?_ _)); exact BK229.out)) : gb229 ≠ gb238)); have n6_ := Aside0.mk ((by rw [hg]; exact Nat.ne_of_gt (blk_lt (g := gb229) (o := .cells #[.slice A0_0 l0_0.length c0_0, .slice (some ad235) l0_1.length c0_1] 37 (0, 0)) (by (with_reducible repeat (first | refine blk_drewN ?_ _ | refine blk_drew ?_ | refine blk_alloc ?_ _)); exact BK229.out)) : gb238 ≠ gb229)); clear BK229; clear HB; have BK229 := n0_; have HB := n1_; have BK238 := n2_; have GW238 := n3_; have GE238 := n4_; have NB229_238 := n5_; have NB238_229 := n6_; clear n0_ n1_ n2_ n3_ n4_ n5_ n6_; clear hb hbox hg; have hnb47 := NB238_229.out; have hnc47 := NB229_238.out; have hcz48_0 : w46.cell? ⟨gb238, 0, none⟩ = some (.int .i64 0) := (blk_cell BK238.out 0).trans rfl; have hcz48_1 : w46.cell? ⟨gb238, 1, none⟩ = some (.int .i64 0) := (blk_cell BK238.out 1).trans rfl; have hcz48_2 : w46.cell? ⟨gb238, 2, none⟩ = some (.int .i64 0) := (blk_cell BK238.out 2).trans rfl; have hfz48_0 := blk_frozen BK238.out 0; have hfz48_1 := blk_frozen BK238.out 1; have hfz48_2 := blk_frozen BK238.out 2; have hcz49_0 : w46.cell? ⟨gb229, 0, none⟩ = some (.slice A0_0 l0_0.length c0_0) := (blk_cell BK229.out 0).trans rfl; have hcz49_1 : w46.cell? ⟨gb229, 1, none⟩ = some (.slice (some ad235) l0_1.length c0_1) := (blk_cell BK229.out 1).trans rfl; have hfz49_0 := blk_frozen BK229.out 0; have hfz49_1 := blk_frozen BK229.out 1; have p239 : 0 ≤ (x8_5 : Int) := of_decide_eq_true (by first | (with_reducible assumption) | assumption); have q239 : x8_5 < (l0_0.length : Int) := of_decide_eq_true (by first | (with_reducible assumption) | assumption); obtain ⟨ad239, e239, hx239_0⟩ := Kd.at_int HR0_0.out x8_5 p239 q239; cases e239; have hn239_0 : ad239.block ≠ gb238 := Nat.ne_of_lt (Nat.lt_of_lt_of_le (by have := World.block_lt_of_cell? _ _ hx239_0; first | rwa [add_block] at this | exact this) GW238.out); have hn239_1 : ad239.block ≠ gb238 := Nat.ne_of_lt (Nat.lt_of_lt_of_le (by have := World.block_lt_of_cell? _ _ hx239_0; first | rwa [add_block] at this | exact this) GW238.out); have hn239_2 : ad239.block ≠ gb238 := Nat.ne_of_lt (Nat.lt_of_lt_of_le (by have := World.block_lt_of_cell? _ _ hx239_0; first | rwa [add_block] at this | exact this) GW238.out); replace hx239_0 := (HB.out.cell (World.block_lt_of_cell? w _ hx239_0)).trans hx239_0; replace hx239_0 := (cell_far (p := ⟨gb238, 0, none⟩) (by first | (rw [add_block]; exact hn239_0) | (show (Addr.add _ _).block ≠ _; rw [add_block]; exact hn239_0) | exact hn239_0) (.int .i64 ((rd_T124 (rd_L2 l0_1 x8_5) x9_6).f0))).trans hx239_0; replace hx239_0 := (cell_far (p := ⟨gb238, 1, none⟩) (by first | (rw [add_block]; exact hn239_1) | (show (Addr.add _ _).block ≠ _; rw [add_block]; exact hn239_1) | exact hn239_1) (.int .i64 ((rd_T124 (rd_L2 l0_1 x8_5) x9_6).f1))).trans hx239_0; replace hx239_0 := (cell_far (p := ⟨gb238, 2, none⟩) (by first | (rw [add_block]; exact hn239_2) | (show (Addr.add _ _).block ≠ _; rw [add_block]; exact hn239_2) | exact hn239_2) (.int .i64 ((rd_T124 (rd_L2 l0_1 x8_5) x9_6).f2))).trans hx239_0; (try have hy239_0 := fun (n_ : Nat) => (show (((((w46.drewN n_).setCell ⟨gb238, 0, none⟩ (.int .i64 ((rd_T124 (rd_L2 l0_1 x8_5) x9_6).f0))).setCell ⟨gb238, 1, none⟩ (.int .i64 ((rd_T124 (rd_L2 l0_1 x8_5) x9_6).f1))).setCell ⟨gb238, 2, none⟩ (.int .i64 ((rd_T124 (rd_L2 l0_1 x8_5) x9_6).f2)))).cell? _ = some _ from hx239_0)); clear hn239_0; clear hn239_1; clear hn239_2; replace p239 := eq_true p239; replace q239 := eq_true q239)))
                                                    go_ret
                                                    exact ⟨by first | rfl | (simp [errW_none, errW_some] <;> rfl) | (simp [*, errW_none, errW_some] <;> rfl), by repeat (first | (with_reducible first | exact HB.out | apply below_alloc | apply pw_below_drewN | apply below_drew1 | refine below_set ?_ GE229.out | refine below_set ?_ GE238.out) | exact HB.out)⟩
                                                  · rw [if_neg c44] at H
                                                    have c44b0 : decide (((rd_T124 (rd_L2 l0_1 x8_5) x9_6).f2) < 0) = false := decide_eq_false c44
                                                    clear c44
                                                    obtain ⟨ji50, hji50⟩ : ∃ j_ : Int, (wrap64 (x8_5 + 1)) = j_ := ⟨_, rfl⟩
                                                    replace H : (if 0 ≤ (ji50) then (if (ji50) < (l0_0.length : Int) then (if ((rd_T124 (rd_L2 l0_1 x8_5) x9_6).f2) ≥ (rd l0_0 (ji50)) then (some 6) else (codewrightref46_Shape.l4 k6 x8_5 (wrap64 (x9_6 + 1)) l0_0 l0_1)) else (none)) else (none)) = some r := by first | (rw [hji50] at H; exact H) | (simp only [hji50] at H ⊢; exact H)
                                                    have hji50w : (IntKind.i64.wrap (x8_5 + 1)) = ji50 := (i64_w _).trans hji50
                                                    by_cases c51 : 0 ≤ (ji50)
                                                    · rw [if_pos c51] at H
                                                      have c51b0 : decide (0 ≤ (ji50)) = true := decide_eq_true c51
                                                      clear c51
                                                      by_cases c52 : (ji50) < (l0_0.length : Int)
                                                      · rw [if_pos c52] at H
                                                        have c52b0 : decide ((ji50) < (l0_0.length : Int)) = true := decide_eq_true c52
                                                        clear c52
                                                        by_cases c53 : ((rd_T124 (rd_L2 l0_1 x8_5) x9_6).f2) ≥ (rd l0_0 (ji50))
                                                        · rw [if_pos c53] at H
                                                          have c53b0 : decide ((rd l0_0 (ji50)) ≤ ((rd_T124 (rd_L2 l0_1 x8_5) x9_6).f2)) = true := decide_eq_true c53
                                                          clear c53
                                                          obtain rfl := Option.some.inj H
                                                          have hcz54_0 : wr.cell? ⟨gb229, 0, none⟩ = some (.slice A0_0 l0_0.length c0_0) := (blk_cell BK229.out 0).trans rfl
                                                          have hcz54_1 : wr.cell? ⟨gb229, 1, none⟩ = some (.slice A0_1 l0_1.length c0_1) := (blk_cell BK229.out 1).trans rfl
                                                          have hfz54_0 := blk_frozen BK229.out 0
                                                          have hfz54_1 := blk_frozen BK229.out 1
                                                          have p235 : 0 ≤ (x8_5 : Int) := of_decide_eq_true (by first | (with_reducible assumption) | assumption)
                                                          have q235 : x8_5 < (l0_1.length : Int) := of_decide_eq_true (by first | (with_reducible assumption) | assumption)
                                                          obtain ⟨ad235, A235_0, c235_0, e235, hx235_0, hl235_0, hi235_0⟩ := at_L2 HR0_1.out x8_5 p235 q235
                                                          cases e235
                                                          replace hx235_0 := (HB.out.cell (World.block_lt_of_cell? w _ hx235_0)).trans hx235_0
                                                          have HR235_0 := Aside0.mk hi235_0
                                                          have HC235_0 := Aside0.mk hl235_0
                                                          clear hi235_0 hl235_0
                                                          replace p235 := eq_true p235
                                                          replace q235 := eq_true q235
                                                          have p236 : 0 ≤ (x8_5 : Int) := of_decide_eq_true (by first | (with_reducible assumption) | assumption)
                                                          have q236 : x8_5 < (l0_1.length : Int) := of_decide_eq_true (by first | (with_reducible assumption) | assumption)
                                                          obtain ⟨ad236, A236_0, c236_0, e236, hx236_0, hl236_0, hi236_0⟩ := at_L2 HR0_1.out x8_5 p236 q236
                                                          obtain rfl : ad235 = ad236 := (by injection e236)
                                                          replace hx236_0 := (HB.out.cell (World.block_lt_of_cell? w _ hx236_0)).trans hx236_0
                                                          have HR236_0 := Aside0.mk hi236_0
                                                          have HC236_0 := Aside0.mk hl236_0
                                                          clear hi236_0 hl236_0
                                                          replace p236 := eq_true p236
                                                          replace q236 := eq_true q236
                                                          have ea_ := Option.some.inj (hx235_0.symm.trans hx236_0)
                                                          injection ea_ with ea_ en_ ec_
                                                          subst ea_
                                                          subst ec_
                                                          clear en_
                                                          have p237 : 0 ≤ (x9_6 : Int) := of_decide_eq_true (by first | (with_reducible assumption) | assumption)
                                                          have q237 : x9_6 < ((rd_L2 l0_1 x8_5).length : Int) := of_decide_eq_true (by first | (with_reducible assumption) | assumption)
                                                          obtain ⟨ad237, e237, hx237_0, hx237_1, hx237_2⟩ := at_T124 HR236_0.out x9_6 p237 q237
                                                          cases e237
                                                          replace hx237_0 := (HB.out.cell (World.block_lt_of_cell? w _ hx237_0)).trans hx237_0
                                                          replace hx237_1 := (HB.out.cell (World.block_lt_of_cell? w _ hx237_1)).trans hx237_1
                                                          replace hx237_2 := (HB.out.cell (World.block_lt_of_cell? w _ hx237_2)).trans hx237_2
                                                          replace p237 := eq_true p237
                                                          replace q237 := eq_true q237
                                                          go_wp2_with (first | ((with_reducible refine gate_dst (N := 10) rfl ?_); (try (refine gate_guard (by rfl) ?_; dsimp only)); refine box_event ?hg (N := 10) ?hd (cs := #[.int .i64 0, .int .i64 0, .int .i64 0]) (t := 124) ?hr ?_; (case hd => rfl); (case hg => rfl); (case hr => first | (go_simp; done) | (go_simp; rfl)); intro gb238 hg w55 hbox hb; have n0_ := Aside0.mk (blk_below (g := gb229) (o := .cells #[.slice A0_0 l0_0.length c0_0, .slice (some ad235) l0_1.length c0_1] 37 (0, 0)) (by (with_reducible repeat (first | refine blk_drewN ?_ _ | refine blk_drew ?_ | refine blk_alloc ?_ _)); exact BK229.out) hb); have n1_ := Aside0.mk (below_step (by repeat (first | (with_reducible first | exact HB.out | apply below_alloc | apply pw_below_drewN | apply below_drew1 | refine below_set ?_ GE229.out) | exact HB.out)) hb); have n2_ := Aside0.mk (hbox); have n3_ := Aside0.mk ((by rw [hg]; exact (below_size (by repeat (first | (with_reducible first | exact HB.out | apply below_alloc | apply pw_below_drewN | apply below_drew1 | refine below_set ?_ GE229.out) | exact HB.out))) : w.heap.size ≤ gb238)); have n4_ := Aside0.mk ((by rw [hg]; exact (below_size (by repeat (first | (with_reducible first | exact HB.out | apply below_alloc | apply pw_below_drewN | apply below_drew1 | refine below_set ?_ GE229.out) | exact HB.out))) : w.heap.size ≤ gb238)); have n5_ := Aside0.mk ((by rw [hg]; exact Nat.ne_of_lt (blk_lt (g := gb229) (o := .cells #[.slice A0_0 l0_0.length c0_0, .slice (some ad235) l0_1.length c0_1] 37 (0, 0)) (by (with_reducible repeat (first | refine blk_drewN ?_ _ | refine blk_drew ?_ | refine blk_alloc ?_ _)); exact BK229.out)) : gb229 ≠ gb238)); have n6_ := Aside0.mk ((by rw [hg]; exact Nat.ne_of_gt (blk_lt (g := gb229) (o := .cells #[.slice A0_0 l0_0.length c0_0, .slice (some ad235) l0_1.length c0_1] 37 (0, 0)) (by (with_reducible repeat (first | refine blk_drewN ?_ _ | refine blk_drew ?_ | refine blk_alloc ?_ _)); exact BK229.out)) : gb238 ≠ gb229)); clear BK229; clear HB; have BK229 := n0_; have HB := n1_; have BK238 := n2_; have GW238 := n3_; have GE238 := n4_; have NB229_238 := n5_; have NB238_229 := n6_; clear n0_ n1_ n2_ n3_ n4_ n5_ n6_; clear hb hbox hg; have hnb56 := NB238_229.out; have hnc56 := NB229_238.out; have hcz57_0 : w55.cell? ⟨gb238, 0, none⟩ = some (.int .i64 0) := (blk_cell BK238.out 0).trans rfl; have hcz57_1 : w55.cell? ⟨gb238, 1, none⟩ = some (.int .i64 0) := (blk_cell BK238.out 1).trans rfl; have hcz57_2 : w55.cell? ⟨gb238, 2, none⟩ = some (.int .i64 0) := (blk_cell BK238.out 2).trans rfl; have hfz57_0 := blk_frozen BK238.out 0; have hfz57_1 := blk_frozen BK238.out 1; have hfz57_2 := blk_frozen BK238.out 2; have hcz58_0 : w55.cell? ⟨gb229, 0, none⟩ = some (.slice A0_0 l0_0.length c0_0) := (blk_cell BK229.out 0).trans rfl; have hcz58_1 : w55.cell? ⟨gb229, 1, none⟩ = some (.slice (some ad235) l0_1.length c0_1) := (blk_cell BK229.out 1).trans rfl; have hfz58_0 := blk_frozen BK229.out 0; have hfz58_1 := blk_frozen BK229.out 1; have p239 : 0 ≤ (x8_5 : Int) := of_decide_eq_true (by first | (with_reducible assumption) | assumption); have q239 : x8_5 < (l0_0.length : Int) := of_decide_eq_true (by first | (with_reducible assumption) | assumption); obtain ⟨ad239, e239, hx239_0⟩ := Kd.at_int HR0_0.out x8_5 p239 q239; cases e239; have hn239_0 : ad239.block ≠ gb238 := Nat.ne_of_lt (Nat.lt_of_lt_of_le (by have := World.block_lt_of_cell? _ _ hx239_0; first | rwa [add_block] at this | exact this) GW238.out); have hn239_1 : ad239.block ≠ gb238 := Nat.ne_of_lt (Nat.lt_of_lt_of_le (by have := World.block_lt_of_cell? _ _ hx239_0; first | rwa [add_block] at this | exact this) GW238.out); have hn239_2 : ad239.block ≠ gb238 := Nat.ne_of_lt (Nat.lt_of_lt_of_le (by have := World.block_lt_of_cell? _ _ hx239_0; first | rwa [add_block] at this | exact this) GW238.out); replace hx239_0 := (HB.out.cell (World.block_lt_of_cell? w _ hx239_0)).trans hx239_0; replace hx239_0 := (cell_far (p := ⟨gb238, 0, none⟩) (by first | (rw [add_block]; exact hn239_0) | (show (Addr.add _ _).block ≠ _; rw [add_block]; exact hn239_0) | exact hn239_0) (.int .i64 ((rd_T124 (rd_L2 l0_1 x8_5) x9_6).f0))).trans hx239_0; replace hx239_0 := (cell_far (p := ⟨gb238, 1, none⟩) (by first | (rw [add_block]; exact hn239_1) | (show (Addr.add _ _).block ≠ _; rw [add_block]; exact hn239_1) | exact hn239_1) (.int .i64 ((rd_T124 (rd_L2 l0_1 x8_5) x9_6).f1))).trans hx239_0; replace hx239_0 := (cell_far (p := ⟨gb238, 2, none⟩) (by first | (rw [add_block]; exact hn239_2) | (show (Addr.add _ _).block ≠ _; rw [add_block]; exact hn239_2) | exact hn239_2) (.int .i64 ((rd_T124 (rd_L2 l0_1 x8_5) x9_6).f2))).trans hx239_0; (try have hy239_0 := fun (n_ : Nat) => (show (((((w55.drewN n_).setCell ⟨gb238, 0, none⟩ (.int .i64 ((rd_T124 (rd_L2 l0_1 x8_5) x9_6).f0))).setCell ⟨gb238, 1, none⟩ (.int .i64 ((rd_T124 (rd_L2 l0_1 x8_5) x9_6).f1))).setCell ⟨gb238, 2, none⟩ (.int .i64 ((rd_T124 (rd_L2 l0_1 x8_5) x9_6).f2)))).cell? _ = some _ from hx239_0)); clear hn239_0; clear hn239_1; clear hn239_2; replace p239 := eq_true p239; replace q239 := eq_true q239; have p240 : 0 ≤ ((ji50) : Int) := of_decide_eq_true (by first | (with_reducible assumption) | assumption); have q240 : (ji50) < (l0_0.length : Int) := of_decide_eq_true (by first | (with_reducible assumption) | assumption); obtain ⟨ad240, e240, hx240_0⟩ := Kd.at_int HR0_0.out (ji50) p240 q240; obtain rfl : ad239 = ad240 := (by injection e240); have hn240_0 : ad239.block ≠ gb238 := Nat.ne_of_lt (Nat.lt_of_lt_of_le (by have := World.block_lt_of_cell? _ _ hx240_0; first | rwa [add_block] at this | exact this) GW238.out); have hn240_1 : ad239.block ≠ gb238 := Nat.ne_of_lt (Nat.lt_of_lt_of_le (by have := World.block_lt_of_cell? _ _ hx240_0; first | rwa [add_block] at this | exact this) GW238.out); have hn240_2 : ad239.block ≠ gb238 := Nat.ne_of_lt (Nat.lt_of_lt_of_le (by have := World.block_lt_of_cell? _ _ hx240_0; first | rwa [add_block] at this | exact this) GW238.out); replace hx240_0 := (HB.out.cell (World.block_lt_of_cell? w _ hx240_0)).trans hx240_0; replace hx240_0 := (cell_far (p := ⟨gb238, 0, none⟩) (by first | (rw [add_block]; exact hn240_0) | (show (Addr.add _ _).block ≠ _; rw [add_block]; exact hn240_0) | exact hn240_0) (.int .i64 ((rd_T124 (rd_L2 l0_1 x8_5) x9_6).f0))).trans hx240_0; replace hx240_0 := (cell_far (p := ⟨gb238, 1, none⟩) (by first | (rw [add_block]; exact hn240_1) | (show (Addr.add _ _).block ≠ _; rw [add_block]; exact hn240_1) | exact hn240_1) (.int .i64 ((rd_T124 (rd_L2 l0_1 x8_5) x9_6).f1))).trans hx240_0; replace hx240_0 := (cell_far (p := ⟨gb238, 2, none⟩) (by first | (rw [add_block]; exact hn240_2) | (show (Addr.add _ _).block ≠ _; rw [add_block]; exact hn240_2) | exact hn240_2) (.int .i64 ((rd_T124 (rd_L2 l0_1 x8_5) x9_6).f2))).trans hx240_0; (try have hy240_0 := fun (n_ : Nat) => (show (((((w55.drewN n_).setCell ⟨gb238, 0, none⟩ (.int .i64 ((rd_T124 (rd_L2 l0_1 x8_5) x9_6).f0))).setCell ⟨gb238, 1, none⟩ (.int .i64 ((rd_T124 (rd_L2 l0_1 x8_5) x9_6).f1))).setCell ⟨gb238, 2, none⟩ (.int .i64 ((rd_T124 (rd_L2 l0_1 x8_5) x9_6).f2)))).cell? _ = some _ from hx240_0)); clear hn240_0; clear hn240_1; clear hn240_2; replace p240 := eq_true p240; replace q240 := eq_true q240))
                                                          repeat (go_quiet (first | ((with_reducible refine gate_dst (N := 10) rfl ?_); (try (refine gate_guard (by rfl) ?_; dsimp only)); refine box_event ?hg (N := 10) ?hd (cs := #[.int .i64 0, .int .i64 0, .int .i64 0]) (t := 124) ?hr ?_; (case hd => rfl); (case hg => rfl); (case hr => first | (go_simp; done) | (go_simp; rfl)); intro gb238 hg w55 hbox hb; have n0_ := Aside0.mk (blk_below (g := gb229) (o := .cells #[.slice A0_0 l0_0.length c0_0, .slice (some ad235) l0_1.length c0_1] 37 (0, 0)) (by (with_reducible repeat (first | refine blk_drewN ?_ _ | refine blk_drew ?_ | refine blk_alloc ?_ _)); exact BK229.out) hb); have n1_ := Aside0.mk (below_step (by repeat (first | (with_reducible first | exact HB.out | apply below_alloc | apply pw_below_drewN | apply below_drew1 | refine below_set ?_ GE229.out) | exact HB.out)) hb); have n2_ := Aside0.mk (hbox); have n3_ := Aside0.mk ((by rw [hg]; exact (below_size (by repeat (first | (with_reducible first | exact HB.out | apply below_alloc | apply pw_below_drewN | apply below_drew1 | refine below_set ?_ GE229.out) | exact HB.out))) : w.heap.size ≤ gb238)); have n4_ := Aside0.mk ((by rw [hg]; exact (below_size (by repeat (first | (with_reducible first | exact HB.out | apply below_alloc | apply pw_below_drewN | apply below_drew1 | refine below_set ?_ GE229.out) | exact HB.out))) : w.heap.size ≤ gb238)); have n5_ := Aside0.mk ((by rw [hg]; exact Nat.ne_of_lt (blk_lt (g := gb229) (o := .cells #[.slice A0_0 l0_0.length c0_0, .slice (some ad235) l0_1.length c0_1] 37 (0, 0)) (by (with_reducible repeat (first | refine blk_drewN ?_ _ | refine blk_drew ?_ | refine blk_alloc ?_ _)); exact BK229.out)) : gb229 ≠ gb238)); have n6_ := Aside0.mk ((by rw [hg]; exact Nat.ne_of_gt (blk_lt (g := gb229) (o := .cells #[.slice A0_0 l0_0.length c0_0, .slice (some ad235) l0_1.length c0_1] 37 (0, 0)) (by (with_reducible repeat (first | refine blk_drewN ?_ _ | refine blk_drew ?_ | refine blk_alloc ?_ _)); exact BK229.out)) : gb238 ≠ gb229)); clear BK229; clear HB; have BK229 := n0_; have HB := n1_; have BK238 := n2_; have GW238 := n3_; have GE238 := n4_; have NB229_238 := n5_; have NB238_229 := n6_; clear n0_ n1_ n2_ n3_ n4_ n5_ n6_; clear hb hbox hg; have hnb56 := NB238_229.out; have hnc56 := NB229_238.out; have hcz57_0 : w55.cell? ⟨gb238, 0, none⟩ = some (.int .i64 0) := (blk_cell BK238.out 0).trans rfl; have hcz57_1 : w55.cell? ⟨gb238, 1, none⟩ = some (.int .i64 0) := (blk_cell BK238.out 1).trans rfl; have hcz57_2 : w55.cell? ⟨gb238, 2, none⟩ = some (.int .i64 0) := (blk_cell BK238.out 2).trans rfl; have hfz57_0 := blk_frozen BK238.out 0; have hfz57_1 := blk_frozen BK238.out 1; have hfz57_2 := blk_frozen BK238.out 2; have hcz58_0 : w55.cell? ⟨gb229, 0, none⟩ = some (.slice A0_0 l0_0.length c0_0) := (blk_cell BK229.out 0).trans rfl; have hcz58_1 : w55.cell? ⟨gb229, 1, none⟩ = some (.slice (some ad235) l0_1.length c0_1) := (blk_cell BK229.out 1).trans rfl; have hfz58_0 := blk_frozen BK229.out 0; have hfz58_1 := blk_frozen BK229.out 1; have p239 : 0 ≤ (x8_5 : Int) := of_decide_eq_true (by first | (with_reducible assumption) | assumption); have q239 : x8_5 < (l0_0.length : Int) := of_decide_eq_true (by first | (with_reducible assumption) | assumption); obtain ⟨ad239, e239, hx239_0⟩ := Kd.at_int HR0_0.out x8_5 p239 q239; cases e239; have hn239_0 : ad239.block ≠ gb238 := Nat.ne_of_lt (Nat.lt_of_lt_of_le (by have := World.block_lt_of_cell? _ _ hx239_0; first | rwa [add_block] at this | exact this) GW238.out); have hn239_1 : ad239.block ≠ gb238 := Nat.ne_of_lt (Nat.lt_of_lt_of_le (by have := World.block_lt_of_cell? _ _ hx239_0; first | rwa [add_block] at this | exact this) GW238.out); have hn239_2 : ad239.block ≠ gb238 := Nat.ne_of_lt (Nat.lt_of_lt_of_le (by have := World.block_lt_of_cell? _ _ hx239_0; first | rwa [add_block] at this | exact this) GW238.out); replace hx239_0 := (HB.out.cell (World.block_lt_of_cell? w _ hx239_0)).trans hx239_0; replace hx239_0 := (cell_far (p := ⟨gb238, 0, none⟩) (by first | (rw [add_block]; exact hn239_0) | (show (Addr.add _ _).block ≠ _; rw [add_block]; exact hn239_0) | exact hn239_0) (.int .i64 ((rd_T124 (rd_L2 l0_1 x8_5) x9_6).f0))).trans hx239_0; replace hx239_0 := (cell_far (p := ⟨gb238, 1, none⟩) (by first | (rw [add_block]; exact hn239_1) | (show (Addr.add _ _).block ≠ _; rw [add_block]; exact hn239_1) | exact hn239_1) (.int .i64 ((rd_T124 (rd_L2 l0_1 x8_5) x9_6).f1))).trans hx239_0; replace hx239_0 := (cell_far (p := ⟨gb238, 2, none⟩) (by first | (rw [add_block]; exact hn239_2) | (show (Addr.add _ _).block ≠ _; rw [add_block]; exact hn239_2) | exact hn239_2) (.int .i64 ((rd_T124 (rd_L2 l0_1 x8_5) x9_6).f2))).trans hx239_0; (try have hy239_0 := fun (n_ : Nat) => (show (((((w55.drewN n_).setCell ⟨gb238, 0, none⟩ (.int .i64 ((rd_T124 (rd_L2 l0_1 x8_5) x9_6).f0))).setCell ⟨gb238, 1, none⟩ (.int .i64 ((rd_T124 (rd_L2 l0_1 x8_5) x9_6).f1))).setCell ⟨gb238, 2, none⟩ (.int .i64 ((rd_T124 (rd_L2 l0_1 x8_5) x9_6).f2)))).cell? _ = some _ from hx239_0)); clear hn239_0; clear hn239_1; clear hn239_2; replace p239 := eq_true p239; replace q239 := eq_true q239; have p240 : 0 ≤ ((ji50) : Int) := of_decide_eq_true (by first | (with_reducible assumption) | assumption); have q240 : (ji50) < (l0_0.length : Int) := of_decide_eq_true (by first | (with_reducible assumption) | assumption); obtain ⟨ad240, e240, hx240_0⟩ := Kd.at_int HR0_0.out (ji50) p240 q240; obtain rfl : ad239 = ad240 := (by injection e240); have hn240_0 : ad239.block ≠ gb238 := Nat.ne_of_lt (Nat.lt_of_lt_of_le (by have := World.block_lt_of_cell? _ _ hx240_0; first | rwa [add_block] at this | exact this) GW238.out); have hn240_1 : ad239.block ≠ gb238 := Nat.ne_of_lt (Nat.lt_of_lt_of_le (by have := World.block_lt_of_cell? _ _ hx240_0; first | rwa [add_block] at this | exact this) GW238.out); have hn240_2 : ad239.block ≠ gb238 := Nat.ne_of_lt (Nat.lt_of_lt_of_le (by have := World.block_lt_of_cell? _ _ hx240_0; first | rwa [add_block] at this | exact this) GW238.out); replace hx240_0 := (HB.out.cell (World.block_lt_of_cell? w _ hx240_0)).trans hx240_0; replace hx240_0 := (cell_far (p := ⟨gb238, 0, none⟩) (by first | (rw [add_block]; exact hn240_0) | (show (Addr.add _ _).block ≠ _; rw [add_block]; exact hn240_0) | exact hn240_0) (.int .i64 ((rd_T124 (rd_L2 l0_1 x8_5) x9_6).f0))).trans hx240_0; replace hx240_0 := (cell_far (p := ⟨gb238, 1, none⟩) (by first | (rw [add_block]; exact hn240_1) | (show (Addr.add _ _).block ≠ _; rw [add_block]; exact hn240_1) | exact hn240_1) (.int .i64 ((rd_T124 (rd_L2 l0_1 x8_5) x9_6).f1))).trans hx240_0; replace hx240_0 := (cell_far (p := ⟨gb238, 2, none⟩) (by first | (rw [add_block]; exact hn240_2) | (show (Addr.add _ _).block ≠ _; rw [add_block]; exact hn240_2) | exact hn240_2) (.int .i64 ((rd_T124 (rd_L2 l0_1 x8_5) x9_6).f2))).trans hx240_0; (try have hy240_0 := fun (n_ : Nat) => (show (((((w55.drewN n_).setCell ⟨gb238, 0, none⟩ (.int .i64 ((rd_T124 (rd_L2 l0_1 x8_5) x9_6).f0))).setCell ⟨gb238, 1, none⟩ (.int .i64 ((rd_T124 (rd_L2 l0_1 x8_5) x9_6).f1))).setCell ⟨gb238, 2, none⟩ (.int .i64 ((rd_T124 (rd_L2 l0_1 x8_5) x9_6).f2)))).cell? _ = some _ from hx240_0)); clear hn240_0; clear hn240_1; clear hn240_2; replace p240 := eq_true p240; replace q240 := eq_true q240)); try go_wp2_with (first | ((with_reducible refine gate_dst (N := 10) rfl ?_); (try (refine gate_guard (by rfl) ?_; dsimp only)); refine box_event ?hg (N := 10) ?hd (cs := #[.int .i64 0, .int .i64 0, .int .i64 0]) (t := 124) ?hr ?_; (case hd => rfl); (case hg => rfl); (case hr => first | (go_simp; done) | (go_simp; rfl)); intro gb238 hg w55 hbox hb; have n0_ := Aside0.mk (blk_below (g := gb229) (o := .cells #[.slice A0_0 l0_0.length c0_0, .slice (some ad235) l0_1.length c0_1] 37 (0, 0)) (by (with_reducible repeat (first | refine blk_drewN ?_ _ | refine blk_drew ?_ | refine blk_alloc ?_ _)); exact BK229.out) hb); have n1_ := Aside0.mk (below_step (by repeat (first | (with_reducible first | exact HB.out | apply below_alloc | apply pw_below_drewN | apply below_drew1 | refine below_set ?_ GE229.out) | exact HB.out)) hb); have n2_ := Aside0.mk (hbox); have n3_ := Aside0.mk ((by rw [hg]; exact (below_size (by repeat (first | (with_reducible first | exact HB.out | apply below_alloc | apply pw_below_drewN | apply below_drew1 | refine below_set ?_ GE229.out) | exact HB.out))) : w.heap.size ≤ gb238)); have n4_ := Aside0.mk ((by rw [hg]; exact (below_size (by repeat (first | (with_reducible first | exact HB.out | apply below_alloc | apply pw_below_drewN | apply below_drew1 | refine below_set ?_ GE229.out) | exact HB.out))) : w.heap.size ≤ gb238)); have n5_ := Aside0.mk ((by rw [hg]; exact Nat.ne_of_lt (blk_lt (g := gb229) (o := .cells #[.slice A0_0 l0_0.length c0_0, .slice (some ad235) l0_1.length c0_1] 37 (0, 0)) (by (with_reducible repeat (first | refine blk_drewN ?_ _ | refine blk_drew ?_ | refine blk_alloc ?_ _)); exact BK229.out)) : gb229 ≠ gb238)); have n6_ := Aside0.mk ((by rw [hg]; exact Nat.ne_of_gt (blk_lt (g := gb229) (o := .cells #[.slice A0_0 l0_0.length c0_0, .slice (some ad235) l0_1.length c0_1] 37 (0, 0)) (by (with_reducible repeat (first | refine blk_drewN ?_ _ | refine blk_drew ?_ | refine blk_alloc ?_ _)); exact BK229.out)) : gb238 ≠ gb229)); clear BK229; clear HB; have BK229 := n0_; have HB := n1_; have BK238 := n2_; have GW238 := n3_; have GE238 := n4_; have NB229_238 := n5_; have NB238_229 := n6_; clear n0_ n1_ n2_ n3_ n4_ n5_ n6_; clear hb hbox hg; have hnb56 := NB238_229.out; have hnc56 := NB229_238.out; have hcz57_0 : w55.cell? ⟨gb238, 0, none⟩ = some (.int .i64 0) := (blk_cell BK238.out 0).trans rfl; have hcz57_1 : w55.cell? ⟨gb238, 1, none⟩ = some (.int .i64 0) := (blk_cell BK238.out 1).trans rfl; have hcz57_2 : w55.cell? ⟨gb238, 2, none⟩ = some (.int .i64 0) := (blk_cell BK238.out 2).trans rfl; have hfz57_0 := blk_frozen BK238.out 0; have hfz57_1 := blk_frozen BK238.out 1; have hfz57_2 := blk_frozen BK238.out 2; have hcz58_0 : w55.cell? ⟨gb229, 0, none⟩ = some (.slice A0_0 l0_0.length c0_0) := (blk_cell BK229.out 0).trans rfl; have hcz58_1 : w55.cell? ⟨gb229, 1, none⟩ = some (.slice (some ad235) l0_1.length c0_1) := (blk_cell BK229.out 1).trans rfl; have hfz58_0 := blk_frozen BK229.out 0; have hfz58_1 := blk_frozen BK229.out 1; have p239 : 0 ≤ (x8_5 : Int) := of_decide_eq_true (by first | (with_reducible assumption) | assumption); have q239 : x8_5 < (l0_0.length : Int) := of_decide_eq_true (by first | (with_reducible assumption) | assumption); obtain ⟨ad239, e239, hx239_0⟩ := Kd.at_int HR0_0.out x8_5 p239 q239; cases e239; have hn239_0 : ad239.block ≠ gb238 := Nat.ne_of_lt (Nat.lt_of_lt_of_le (by have := World.block_lt_of_cell? _ _ hx239_0; first | rwa [add_block] at this | exact this) GW238.out); have hn239_1 : ad239.block ≠ gb238 := Nat.ne_of_lt (Nat.lt_of_lt_of_le (by have := World.block_lt_of_cell? _ _ hx239_0; first | rwa [add_block] at this | exact this) GW238.out); have hn239_2 : ad239.block ≠ gb238 := Nat.ne_of_lt (Nat.lt_of_lt_of_le (by have := World.block_lt_of_cell? _ _ hx239_0; first | rwa [add_block] at this | exact this) GW238.out); replace hx239_0 := (HB.out.cell (World.block_lt_of_cell? w _ hx239_0)).trans hx239_0; replace hx239_0 := (cell_far (p := ⟨gb238, 0, none⟩) (by first | (rw [add_block]; exact hn239_0) | (show (Addr.add _ _).block ≠ _; rw [add_block]; exact hn239_0) | exact hn239_0) (.int .i64 ((rd_T124 (rd_L2 l0_1 x8_5) x9_6).f0))).trans hx239_0; replace hx239_0 := (cell_far (p := ⟨gb238, 1, none⟩) (by first | (rw [add_block]; exact hn239_1) | (show (Addr.add _ _).block ≠ _; rw [add_block]; exact hn239_1) | exact hn239_1) (.int .i64 ((rd_T124 (rd_L2 l0_1 x8_5) x9_6).f1))).trans hx239_0; replace hx239_0 := (cell_far (p := ⟨gb238, 2, none⟩) (by first | (rw [add_block]; exact hn239_2) | (show (Addr.add _ _).block ≠ _; rw [add_block]; exact hn239_2) | exact hn239_2) (.int .i64 ((rd_T124 (rd_L2 l0_1 x8_5) x9_6).f2))).trans hx239_0; (try have hy239_0 := fun (n_ : Nat) => (show (((((w55.drewN n_).setCell ⟨gb238, 0, none⟩ (.int .i64 ((rd_T124 (rd_L2 l0_1 x8_5) x9_6).f0))).setCell ⟨gb238, 1, none⟩ (.int .i64 ((rd_T124 (rd_L2 l0_1 x8_5) x9_6).f1))).setCell ⟨gb238, 2, none⟩ (.int .i64 ((rd_T124 (rd_L2 l0_1 x8_5) x9_6).f2)))).cell? _ = some _ from hx239_0)); clear hn239_0; clear hn239_1; clear hn239_2; replace p239 := eq_true p239; replace q239 := eq_true q239; have p240 : 0 ≤ ((ji50) : Int) := of_decide_eq_true (by first | (with_reducible assumption) | assumption); have q240 : (ji50) < (l0_0.length : Int) := of_decide_eq_true (by first | (with_reducible assumption) | assumption); obtain ⟨ad240, e240, hx240_0⟩ := Kd.at_int HR0_0.out (ji50) p240 q240; obtain rfl : ad239 = ad240 := (by injection e240); have hn240_0 : ad239.block ≠ gb238 := Nat.ne_of_lt (Nat.lt_of_lt_of_le (by have := World.block_lt_of_cell? _ _ hx240_0; first | rwa [add_block] at this | exact this) GW238.out); have hn240_1 : ad239.block ≠ gb238 := Nat.ne_of_lt (Nat.lt_of_lt_of_le (by have := World.block_lt_of_cell? _ _ hx240_0; first | rwa [add_block] at this | exact this) GW238.out); have hn240_2 : ad239.block ≠ gb238 := Nat.ne_of_lt (Nat.lt_of_lt_of_le (by have := World.block_lt_of_cell? _ _ hx240_0; first | rwa [add_block] at this | exact this) GW238.out); replace hx240_0 := (HB.out.cell (World.block_lt_of_cell? w _ hx240_0)).trans hx240_0; replace hx240_0 := (cell_far (p := ⟨gb238, 0, none⟩) (by first | (rw [add_block]; exact hn240_0) | (show (Addr.add _ _).block ≠ _; rw [add_block]; exact hn240_0) | exact hn240_0) (.int .i64 ((rd_T124 (rd_L2 l0_1 x8_5) x9_6).f0))).trans hx240_0; replace hx240_0 := (cell_far (p := ⟨gb238, 1, none⟩) (by first | (rw [add_block]; exact hn240_1) | (show (Addr.add _ _).block ≠ _; rw [add_block]; exact hn240_1) | exact hn240_1) (.int .i64 ((rd_T124 (rd_L2 l0_1 x8_5) x9_6).f1))).trans hx240_0; replace hx240_0 := (cell_far (p := ⟨gb238, 2, none⟩) (by first | (rw [add_block]; exact hn240_2) | (show (Addr.add _ _).block ≠ _; rw [add_block]; exact hn240_2) | exact hn240_2) (.int .i64 ((rd_T124 (rd_L2 l0_1 x8_5) x9_6).f2))).trans hx240_0; (try have hy240_0 := fun (n_ : Nat) => (show (((((w55.drewN n_).setCell ⟨gb238, 0, none⟩ (.int .i64 ((rd_T124 (rd_L2 l0_1 x8_5) x9_6).f0))).setCell ⟨gb238, 1, none⟩ (.int .i64 ((rd_T124 (rd_L2 l0_1 x8_5) x9_6).f1))).setCell ⟨gb238, 2, none⟩ (.int .i64 ((rd_T124 (rd_L2 l0_1 x8_5) x9_6).f2)))).cell? _ = some _ from hx240_0)); clear hn240_0; clear hn240_1; clear hn240_2; replace p240 := eq_true p240; replace q240 := eq_true q240)))
                                                          go_ret
                                                          exact ⟨by first | rfl | (simp [errW_none, errW_some] <;> rfl) | (simp only [← hji50]; first | rfl | (simp [errW_none, errW_some] <;> rfl)) | (simp [*, errW_none, errW_some] <;> rfl), by repeat (first | (with_reducible first | exact HB.out | apply below_alloc | apply pw_below_drewN | apply below_drew1 | refine below_set ?_ GE229.out | refine below_set ?_ GE238.out) | exact HB.out)⟩
                                                        · rw [if_neg c53] at H
                                                          have c53b0 : decide ((rd l0_0 (ji50)) ≤ ((rd_T124 (rd_L2 l0_1 x8_5) x9_6).f2)) = false := decide_eq_false c53
                                                          clear c53
                                                          have H' := Aside0.mk H
                                                          clear H
                                                          have hcz59_0 : wr.cell? ⟨gb229, 0, none⟩ = some (.slice A0_0 l0_0.length c0_0) := (blk_cell BK229.out 0).trans rfl
                                                          have hcz59_1 : wr.cell? ⟨gb229, 1, none⟩ = some (.slice A0_1 l0_1.length c0_1) := (blk_cell BK229.out 1).trans rfl
                                                          have hfz59_0 := blk_frozen BK229.out 0
                                                          have hfz59_1 := blk_frozen BK229.out 1
                                                          have p235 : 0 ≤ (x8_5 : Int) := of_decide_eq_true (by first | (with_reducible assumption) | assumption)
                                                          have q235 : x8_5 < (l0_1.length : Int) := of_decide_eq_true (by first | (with_reducible assumption) | assumption)
                                                          obtain ⟨ad235, A235_0, c235_0, e235, hx235_0, hl235_0, hi235_0⟩ := at_L2 HR0_1.out x8_5 p235 q235
                                                          cases e235
                                                          replace hx235_0 := (HB.out.cell (World.block_lt_of_cell? w _ hx235_0)).trans hx235_0
                                                          have HR235_0 := Aside0.mk hi235_0
                                                          have HC235_0 := Aside0.mk hl235_0
                                                          clear hi235_0 hl235_0
                                                          replace p235 := eq_true p235
                                                          replace q235 := eq_true q235
                                                          have p236 : 0 ≤ (x8_5 : Int) := of_decide_eq_true (by first | (with_reducible assumption) | assumption)
                                                          have q236 : x8_5 < (l0_1.length : Int) := of_decide_eq_true (by first | (with_reducible assumption) | assumption)
                                                          obtain ⟨ad236, A236_0, c236_0, e236, hx236_0, hl236_0, hi236_0⟩ := at_L2 HR0_1.out x8_5 p236 q236
                                                          obtain rfl : ad235 = ad236 := (by injection e236)
                                                          replace hx236_0 := (HB.out.cell (World.block_lt_of_cell? w _ hx236_0)).trans hx236_0
                                                          have HR236_0 := Aside0.mk hi236_0
                                                          have HC236_0 := Aside0.mk hl236_0
                                                          clear hi236_0 hl236_0
                                                          replace p236 := eq_true p236
                                                          replace q236 := eq_true q236
                                                          have ea_ := Option.some.inj (hx235_0.symm.trans hx236_0)
                                                          injection ea_ with ea_ en_ ec_
                                                          subst ea_
                                                          subst ec_
                                                          clear en_
                                                          have p237 : 0 ≤ (x9_6 : Int) := of_decide_eq_true (by first | (with_reducible assumption) | assumption)
                                                          have q237 : x9_6 < ((rd_L2 l0_1 x8_5).length : Int) := of_decide_eq_true (by first | (with_reducible assumption) | assumption)
                                                          obtain ⟨ad237, e237, hx237_0, hx237_1, hx237_2⟩ := at_T124 HR236_0.out x9_6 p237 q237
                                                          cases e237
                                                          replace hx237_0 := (HB.out.cell (World.block_lt_of_cell? w _ hx237_0)).trans hx237_0
                                                          replace hx237_1 := (HB.out.cell (World.block_lt_of_cell? w _ hx237_1)).trans hx237_1
                                                          replace hx237_2 := (HB.out.cell (World.block_lt_of_cell? w _ hx237_2)).trans hx237_2
                                                          replace p237 := eq_true p237
                                                          replace q237 := eq_true q237
                                                          go_wp2_with (first | ((with_reducible refine gate_dst (N := 10) rfl ?_); (try (refine gate_guard (by rfl) ?_; dsimp only)); refine box_event ?hg (N := 10) ?hd (cs := #[.int .i64 0, .int .i64 0, .int .i64 0]) (t := 124) ?hr ?_; (case hd => rfl); (case hg => rfl); (case hr => first | (go_simp; done) | (go_simp; rfl)); intro gb238 hg w60 hbox hb; have n0_ := Aside0.mk (blk_below (g := gb229) (o := .cells #[.slice A0_0 l0_0.length c0_0, .slice (some ad235) l0_1.length c0_1] 37 (0, 0)) (by (with_reducible repeat (first | refine blk_drewN ?_ _ | refine blk_drew ?_ | refine blk_alloc ?_ _)); exact BK229.out) hb); have n1_ := Aside0.mk (below_step (by repeat (first | (with_reducible first | exact HB.out | apply below_alloc | apply pw_below_drewN | apply below_drew1 | refine below_set ?_ GE229.out) | exact HB.out)) hb); have n2_ := Aside0.mk (hbox); have n3_ := Aside0.mk ((by rw [hg]; exact (below_size (by repeat (first | (with_reducible first | exact HB.out | apply below_alloc | apply pw_below_drewN | apply below_drew1 | refine below_set ?_ GE229.out) | exact HB.out))) : w.heap.size ≤ gb238)); have n4_ := Aside0.mk ((by rw [hg]; exact (below_size (by repeat (first | (with_reducible first | exact HB.out | apply below_alloc | apply pw_below_drewN | apply below_drew1 | refine below_set ?_ GE229.out) | exact HB.out))) : w.heap.size ≤ gb238)); have n5_ := Aside0.mk ((by rw [hg]; exact Nat.ne_of_lt (blk_lt (g := gb229) (o := .cells #[.slice A0_0 l0_0.length c0_0, .slice (some ad235) l0_1.length c0_1] 37 (0, 0)) (by (with_reducible repeat (first | refine blk_drewN ?_ _ | refine blk_drew ?_ | refine blk_alloc ?_ _)); exact BK229.out)) : gb229 ≠ gb238)); have n6_ := Aside0.mk ((by rw [hg]; exact Nat.ne_of_gt (blk_lt (g := gb229) (o := .cells #[.slice A0_0 l0_0.length c0_0, .slice (some ad235) l0_1.length c0_1] 37 (0, 0)) (by (with_reducible repeat (first | refine blk_drewN ?_ _ | refine blk_drew ?_ | refine blk_alloc ?_ _)); exact BK229.out)) : gb238 ≠ gb229)); clear BK229; clear HB; have BK229 := n0_; have HB := n1_; have BK238 := n2_; have GW238 := n3_; have GE238 := n4_; have NB229_238 := n5_; have NB238_229 := n6_; clear n0_ n1_ n2_ n3_ n4_ n5_ n6_; clear hb hbox hg; have hnb61 := NB238_229.out; have hnc61 := NB229_238.out; have hcz62_0 : w60.cell? ⟨gb238, 0, none⟩ = some (.int .i64 0) := (blk_cell BK238.out 0).trans rfl; have hcz62_1 : w60.cell? ⟨gb238, 1, none⟩ = some (.int .i64 0) := (blk_cell BK238.out 1).trans rfl; have hcz62_2 : w60.cell? ⟨gb238, 2, none⟩ = some (.int .i64 0) := (blk_cell BK238.out 2).trans rfl; have hfz62_0 := blk_frozen BK238.out 0; have hfz62_1 := blk_frozen BK238.out 1; have hfz62_2 := blk_frozen BK238.out 2; have hcz63_0 : w60.cell? ⟨gb229, 0, none⟩ = some (.slice A0_0 l0_0.length c0_0) := (blk_cell BK229.out 0).trans rfl; have hcz63_1 : w60.cell? ⟨gb229, 1, none⟩ = some (.slice (some ad235) l0_1.length c0_1) := (blk_cell BK229.out 1).trans rfl; have hfz63_0 := blk_frozen BK229.out 0; have hfz63_1 := blk_frozen BK229.out 1; have p239 : 0 ≤ (x8_5 : Int) := of_decide_eq_true (by first | (with_reducible assumption) | assumption); have q239 : x8_5 < (l0_0.length : Int) := of_decide_eq_true (by first | (with_reducible assumption) | assumption); obtain ⟨ad239, e239, hx239_0⟩ := Kd.at_int HR0_0.out x8_5 p239 q239; cases e239; have hn239_0 : ad239.block ≠ gb238 := Nat.ne_of_lt (Nat.lt_of_lt_of_le (by have := World.block_lt_of_cell? _ _ hx239_0; first | rwa [add_block] at this | exact this) GW238.out); have hn239_1 : ad239.block ≠ gb238 := Nat.ne_of_lt (Nat.lt_of_lt_of_le (by have := World.block_lt_of_cell? _ _ hx239_0; first | rwa [add_block] at this | exact this) GW238.out); have hn239_2 : ad239.block ≠ gb238 := Nat.ne_of_lt (Nat.lt_of_lt_of_le (by have := World.block_lt_of_cell? _ _ hx239_0; first | rwa [add_block] at this | exact this) GW238.out); replace hx239_0 := (HB.out.cell (World.block_lt_of_cell? w _ hx239_0)).trans hx239_0; replace hx239_0 := (cell_far (p := ⟨gb238, 0, none⟩) (by first | (rw [add_block]; exact hn239_0) | (show (Addr.add _ _).block ≠ _; rw [add_block]; exact hn239_0) | exact hn239_0) (.int .i64 ((rd_T124 (rd_L2 l0_1 x8_5) x9_6).f0))).trans hx239_0; replace hx239_0 := (cell_far (p := ⟨gb238, 1, none⟩) (by first | (rw [add_block]; exact hn239_1) | (show (Addr.add _ _).block ≠ _; rw [add_block]; exact hn239_1) | exact hn239_1) (.int .i64 ((rd_T124 (rd_L2 l0_1 x8_5) x9_6).f1))).trans hx239_0; replace hx239_0 := (cell_far (p := ⟨gb238, 2, none⟩) (by first | (rw [add_block]; exact hn239_2) | (show (Addr.add _ _).block ≠ _; rw [add_block]; exact hn239_2) | exact hn239_2) (.int .i64 ((rd_T124 (rd_L2 l0_1 x8_5) x9_6).f2))).trans hx239_0; (try have hy239_0 := fun (n_ : Nat) => (show (((((w60.drewN n_).setCell ⟨gb238, 0, none⟩ (.int .i64 ((rd_T124 (rd_L2 l0_1 x8_5) x9_6).f0))).setCell ⟨gb238, 1, none⟩ (.int .i64 ((rd_T124 (rd_L2 l0_1 x8_5) x9_6).f1))).setCell ⟨gb238, 2, none⟩ (.int .i64 ((rd_T124 (rd_L2 l0_1 x8_5) x9_6).f2)))).cell? _ = some _ from hx239_0)); clear hn239_0; clear hn239_1; clear hn239_2; replace p239 := eq_true p239; replace q239 := eq_true q239; have p240 : 0 ≤ ((ji50) : Int) := of_decide_eq_true (by first | (with_reducible assumption) | assumption); have q240 : (ji50) < (l0_0.length : Int) := of_decide_eq_true (by first | (with_reducible assumption) | assumption); obtain ⟨ad240, e240, hx240_0⟩ := Kd.at_int HR0_0.out (ji50) p240 q240; obtain rfl : ad239 = ad240 := (by injection e240); have hn240_0 : ad239.block ≠ gb238 := Nat.ne_of_lt (Nat.lt_of_lt_of_le (by have := World.block_lt_of_cell? _ _ hx240_0; first | rwa [add_block] at this | exact this) GW238.out); have hn240_1 : ad239.block ≠ gb238 := Nat.ne_of_lt (Nat.lt_of_lt_of_le (by have := World.block_lt_of_cell? _ _ hx240_0; first | rwa [add_block] at this | exact this) GW238.out); have hn240_2 : ad239.block ≠ gb238 := Nat.ne_of_lt (Nat.lt_of_lt_of_le (by have := World.block_lt_of_cell? _ _ hx240_0; first | rwa [add_block] at this | exact this) GW238.out); replace hx240_0 := (HB.out.cell (World.block_lt_of_cell? w _ hx240_0)).trans hx240_0; replace hx240_0 := (cell_far (p := ⟨gb238, 0, none⟩) (by first | (rw [add_block]; exact hn240_0) | (show (Addr.add _ _).block ≠ _; rw [add_block]; exact hn240_0) | exact hn240_0) (.int .i64 ((rd_T124 (rd_L2 l0_1 x8_5) x9_6).f0))).trans hx240_0; replace hx240_0 := (cell_far (p := ⟨gb238, 1, none⟩) (by first | (rw [add_block]; exact hn240_1) | (show (Addr.add _ _).block ≠ _; rw [add_block]; exact hn240_1) | exact hn240_1) (.int .i64 ((rd_T124 (rd_L2 l0_1 x8_5) x9_6).f1))).trans hx240_0; replace hx240_0 := (cell_far (p := ⟨gb238, 2, none⟩) (by first | (rw [add_block]; exact hn240_2) | (show (Addr.add _ _).block ≠ _; rw [add_block]; exact hn240_2) | exact hn240_2) (.int .i64 ((rd_T124 (rd_L2 l0_1 x8_5) x9_6).f2))).trans hx240_0; (try have hy240_0 := fun (n_ : Nat) => (show (((((w60.drewN n_).setCell ⟨gb238, 0, none⟩ (.int .i64 ((rd_T124 (rd_L2 l0_1 x8_5) x9_6).f0))).setCell ⟨gb238, 1, none⟩ (.int .i64 ((rd_T124 (rd_L2 l0_1 x8_5) x9_6).f1))).setCell ⟨gb238, 2, none⟩ (.int .i64 ((rd_T124 (rd_L2 l0_1 x8_5) x9_6).f2)))).cell? _ = some _ from hx240_0)); clear hn240_0; clear hn240_1; clear hn240_2; replace p240 := eq_true p240; replace q240 := eq_true q240))
                                                          repeat (go_quiet (first | ((with_reducible refine gate_dst (N := 10) rfl ?_); (try (refine gate_guard (by rfl) ?_; dsimp only)); refine box_event ?hg (N := 10) ?hd (cs := #[.int .i64 0, .int .i64 0, .int .i64 0]) (t := 124) ?hr ?_; (case hd => rfl); (case hg => rfl); (case hr => first | (go_simp; done) | (go_simp; rfl)); intro gb238 hg w60 hbox hb; have n0_ := Aside0.mk (blk_below (g := gb229) (o := .cells #[.slice A0_0 l0_0.length c0_0, .slice (some ad235) l0_1.length c0_1] 37 (0, 0)) (by (with_reducible repeat (first | refine blk_drewN ?_ _ | refine blk_drew ?_ | refine blk_alloc ?_ _)); exact BK229.out) hb); have n1_ := Aside0.mk (below_step (by repeat (first | (with_reducible first | exact HB.out | apply below_alloc | apply pw_below_drewN | apply below_drew1 | refine below_set ?_ GE229.out) | exact HB.out)) hb); have n2_ := Aside0.mk (hbox); have n3_ := Aside0.mk ((by rw [hg]; exact (below_size (by repeat (first | (with_reducible first | exact HB.out | apply below_alloc | apply pw_below_drewN | apply below_drew1 | refine below_set ?_ GE229.out) | exact HB.out))) : w.heap.size ≤ gb238)); have n4_ := Aside0.mk ((by rw [hg]; exact (below_size (by repeat (first | (with_reducible first | exact HB.out | apply below_alloc | apply pw_below_drewN | apply below_drew1 | refine below_set ?_ GE229.out) | exact HB.out))) : w.heap.size ≤ gb238)); have n5_ := Aside0.mk ((by rw [hg]; exact Nat.ne_of_lt (blk_lt (g := gb229) (o := .cells #[.slice A0_0 l0_0.length c0_0, .slice (some ad235) l0_1.length c0_1] 37 (0, 0)) (by (with_reducible repeat (first | refine blk_drewN ?_ _ | refine blk_drew ?_ | refine blk_alloc ?_ _)); exact BK229.out)) : gb229 ≠ gb238)); have n6_ := Aside0.mk ((by rw [hg]; exact Nat.ne_of_gt (blk_lt (g := gb229) (o := .cells #[.slice A0_0 l0_0.length c0_0, .slice (some ad235) l0_1.length c0_1] 37 (0, 0)) (by (with_reducible repeat (first | refine blk_drewN ?_ _ | refine blk_drew ?_ | refine blk_alloc ?_ _)); exact BK229.out)) : gb238 ≠ gb229)); clear BK229; clear HB; have BK229 := n0_; have HB := n1_; have BK238 := n2_; have GW238 := n3_; have GE238 := n4_; have NB229_238 := n5_; have NB238_229 := n6_; clear n0_ n1_ n2_ n3_ n4_ n5_ n6_; clear hb hbox hg; have hnb61 := NB238_229.out; have hnc61 := NB229_238.out; have hcz62_0 : w60.cell? ⟨gb238, 0, none⟩ = some (.int .i64 0) := (blk_cell BK238.out 0).trans rfl; have hcz62_1 : w60.cell? ⟨gb238, 1, none⟩ = some (.int .i64 0) := (blk_cell BK238.out 1).trans rfl; have hcz62_2 : w60.cell? ⟨gb238, 2, none⟩ = some (.int .i64 0) := (blk_cell BK238.out 2).trans rfl; have hfz62_0 := blk_frozen BK238.out 0; have hfz62_1 := blk_frozen BK238.out 1; have hfz62_2 := blk_frozen BK238.out 2; have hcz63_0 : w60.cell? ⟨gb229, 0, none⟩ = some (.slice A0_0 l0_0.length c0_0) := (blk_cell BK229.out 0).trans rfl; have hcz63_1 : w60.cell? ⟨gb229, 1, none⟩ = some (.slice (some ad235) l0_1.length c0_1) := (blk_cell BK229.out 1).trans rfl; have hfz63_0 := blk_frozen BK229.out 0; have hfz63_1 := blk_frozen BK229.out 1; have p239 : 0 ≤ (x8_5 : Int) := of_decide_eq_true (by first | (with_reducible assumption) | assumption); have q239 : x8_5 < (l0_0.length : Int) := of_decide_eq_true (by first | (with_reducible assumption) | assumption); obtain ⟨ad239, e239, hx239_0⟩ := Kd.at_int HR0_0.out x8_5 p239 q239; cases e239; have hn239_0 : ad239.block ≠ gb238 := Nat.ne_of_lt (Nat.lt_of_lt_of_le (by have := World.block_lt_of_cell? _ _ hx239_0; first | rwa [add_block] at this | exact this) GW238.out); have hn239_1 : ad239.block ≠ gb238 := Nat.ne_of_lt (Nat.lt_of_lt_of_le (by have := World.block_lt_of_cell? _ _ hx239_0; first | rwa [add_block] at this | exact this) GW238.out); have hn239_2 : ad239.block ≠ gb238 := Nat.ne_of_lt (Nat.lt_of_lt_of_le (by have := World.block_lt_of_cell? _ _ hx239_0; first | rwa [add_block] at this | exact this) GW238.out); replace hx239_0 := (HB.out.cell (World.block_lt_of_cell? w _ hx239_0)).trans hx239_0; replace hx239_0 := (cell_far (p := ⟨gb238, 0, none⟩) (by first | (rw [add_block]; exact hn239_0) | (show (Addr.add _ _).block ≠ _; rw [add_block]; exact hn239_0) | exact hn239_0) (.int .i64 ((rd_T124 (rd_L2 l0_1 x8_5) x9_6).f0))).trans hx239_0; replace hx239_0 := (cell_far (p := ⟨gb238, 1, none⟩) (by first | (rw [add_block]; exact hn239_1) | (show (Addr.add _ _).block ≠ _; rw [add_block]; exact hn239_1) | exact hn239_1) (.int .i64 ((rd_T124 (rd_L2 l0_1 x8_5) x9_6).f1))).trans hx239_0; replace hx239_0 := (cell_far (p := ⟨gb238, 2, none⟩) (by first | (rw [add_block]; exact hn239_2) | (show (Addr.add _ _).block ≠ _; rw [add_block]; exact hn239_2) | exact hn239_2) (.int .i64 ((rd_T124 (rd_L2 l0_1 x8_5) x9_6).f2))).trans hx239_0; (try have hy239_0 := fun (n_ : Nat) => (show (((((w60.drewN n_).setCell ⟨gb238, 0, none⟩ (.int .i64 ((rd_T124 (rd_L2 l0_1 x8_5) x9_6).f0))).setCell ⟨gb238, 1, none⟩ (.int .i64 ((rd_T124 (rd_L2 l0_1 x8_5) x9_6).f1))).setCell ⟨gb238, 2, none⟩ (.int .i64 ((rd_T124 (rd_L2 l0_1 x8_5) x9_6).f2)))).cell? _ = some _ from hx239_0)); clear hn239_0; clear hn239_1; clear hn239_2; replace p239 := eq_true p239; replace q239 := eq_true q239; have p240 : 0 ≤ ((ji50) : Int) := of_decide_eq_true (by first | (with_reducible assumption) | assumption); have q240 : (ji50) < (l0_0.length : Int) := of_decide_eq_true (by first | (with_reducible assumption) | assumption); obtain ⟨ad240, e240, hx240_0⟩ := Kd.at_int HR0_0.out (ji50) p240 q240; obtain rfl : ad239 = ad240 := (by injection e240); have hn240_0 : ad239.block ≠ gb238 := Nat.ne_of_lt (Nat.lt_of_lt_of_le (by have := World.block_lt_of_cell? _ _ hx240_0; first | rwa [add_block] at this | exact this) GW238.out); have hn240_1 : ad239.block ≠ gb238 := Nat.ne_of_lt (Nat.lt_of_lt_of_le (by have := World.block_lt_of_cell? _ _ hx240_0; first | rwa [add_block] at this | exact this) GW238.out); have hn240_2 : ad239.block ≠ gb238 := Nat.ne_of_lt (Nat.lt_of_lt_of_le (by have := World.block_lt_of_cell? _ _ hx240_0; first | rwa [add_block] at this | exact this) GW238.out); replace hx240_0 := (HB.out.cell (World.block_lt_of_cell? w _ hx240_0)).trans hx240_0; replace hx240_0 := (cell_far (p := ⟨gb238, 0, none⟩) (by first | (rw [add_block]; exact hn240_0) | (show (Addr.add _ _).block ≠ _; rw [add_block]; exact hn240_0) | exact hn240_0) (.int .i64 ((rd_T124 (rd_L2 l0_1 x8_5) x9_6).f0))).trans hx240_0; replace hx240_0 := (cell_far (p := ⟨gb238, 1, none⟩) (by first | (rw [add_block]; exact hn240_1) | (show (Addr.add _ _).block ≠ _; rw [add_block]; exact hn240_1) | exact hn240_1) (.int .i64 ((rd_T124 (rd_L2 l0_1 x8_5) x9_6).f1))).trans hx240_0; replace hx240_0 := (cell_far (p := ⟨gb238, 2, none⟩) (by first | (rw [add_block]; exact hn240_2) | (show (Addr.add _ _).block ≠ _; rw [add_block]; exact hn240_2) | exact hn240_2) (.int .i64 ((rd_T124 (rd_L2 l0_1 x8_5) x9_6).f2))).trans hx240_0; (try have hy240_0 := fun (n_ : Nat) => (show (((((w60.drewN n_).setCell ⟨gb238, 0, none⟩ (.int .i64 ((rd_T124 (rd_L2 l0_1 x8_5) x9_6).f0))).setCell ⟨gb238, 1, none⟩ (.int .i64 ((rd_T124 (rd_L2 l0_1 x8_5) x9_6).f1))).setCell ⟨gb238, 2, none⟩ (.int .i64 ((rd_T124 (rd_L2 l0_1 x8_5) x9_6).f2)))).cell? _ = some _ from hx240_0)); clear hn240_0; clear hn240_1; clear hn240_2; replace p240 := eq_true p240; replace q240 := eq_true q240)); try go_wp2_with (first | ((with_reducible refine gate_dst (N := 10) rfl ?_); (try (refine gate_guard (by rfl) ?_; dsimp only)); refine box_event ?hg (N := 10) ?hd (cs := #[.int .i64 0, .int .i64 0, .int .i64 0]) (t := 124) ?hr ?_; (case hd => rfl); (case hg => rfl); (case hr => first | (go_simp; done) | (go_simp; rfl)); intro gb238 hg w60 hbox hb; have n0_ := Aside0.mk (blk_below (g := gb229) (o := .cells #[.slice A0_0 l0_0.length c0_0, .slice (some ad235) l0_1.length c0_1] 37 (0, 0)) (by (with_reducible repeat (first | refine blk_drewN ?_ _ | refine blk_drew ?_ | refine blk_alloc ?_ _)); exact BK229.out) hb); have n1_ := Aside0.mk (below_step (by repeat (first | (with_reducible first | exact HB.out | apply below_alloc | apply pw_below_drewN | apply below_drew1 | refine below_set ?_ GE229.out) | exact HB.out)) hb); have n2_ := Aside0.mk (hbox); have n3_ := Aside0.mk ((by rw [hg]; exact (below_size (by repeat (first | (with_reducible first | exact HB.out | apply below_alloc | apply pw_below_drewN | apply below_drew1 | refine below_set ?_ GE229.out) | exact HB.out))) : w.heap.size ≤ gb238)); have n4_ := Aside0.mk ((by rw [hg]; exact (below_size (by repeat (first | (with_reducible first | exact HB.out | apply below_alloc | apply pw_below_drewN | apply below_drew1 | refine below_set ?_ GE229.out) | exact HB.out))) : w.heap.size ≤ gb238)); have n5_ := Aside0.mk ((by rw [hg]; exact Nat.ne_of_lt (blk_lt (g := gb229) (o := .cells #[.slice A0_0 l0_0.length c0_0, .slice (some ad235) l0_1.length c0_1] 37 (0, 0)) (by (with_reducible repeat (first | refine blk_drewN ?_ _ | refine blk_drew ?_ | refine blk_alloc ?_ _)); exact BK229.out)) : gb229 ≠ gb238)); have n6_ := Aside0.mk ((by rw [hg]; exact Nat.ne_of_gt (blk_lt (g := gb229) (o := .cells #[.slice A0_0 l0_0.length c0_0, .slice (some ad235) l0_1.length c0_1] 37 (0, 0)) (by (with_reducible repeat (first | refine blk_drewN ?_ _ | refine blk_drew ?_ | refine blk_alloc ?_ _)); exact BK229.out)) : gb238 ≠ gb229)); clear BK229; clear HB; have BK229 := n0_; have HB := n1_; have BK238 := n2_; have GW238 := n3_; have GE238 := n4_; have NB229_238 := n5_; have NB238_229 := n6_; clear n0_ n1_ n2_ n3_ n4_ n5_ n6_; clear hb hbox hg; have hnb61 := NB238_229.out; have hnc61 := NB229_238.out; have hcz62_0 : w60.cell? ⟨gb238, 0, none⟩ = some (.int .i64 0) := (blk_cell BK238.out 0).trans rfl; have hcz62_1 : w60.cell? ⟨gb238, 1, none⟩ = some (.int .i64 0) := (blk_cell BK238.out 1).trans rfl; have hcz62_2 : w60.cell? ⟨gb238, 2, none⟩ = some (.int .i64 0) := (blk_cell BK238.out 2).trans rfl; have hfz62_0 := blk_frozen BK238.out 0; have hfz62_1 := blk_frozen BK238.out 1; have hfz62_2 := blk_frozen BK238.out 2; have hcz63_0 : w60.cell? ⟨gb229, 0, none⟩ = some (.slice A0_0 l0_0.length c0_0) := (blk_cell BK229.out 0).trans rfl; have hcz63_1 : w60.cell? ⟨gb229, 1, none⟩ = some (.slice (some ad235) l0_1.length c0_1) := (blk_cell BK229.out 1).trans rfl; have hfz63_0 := blk_frozen BK229.out 0; have hfz63_1 := blk_frozen BK229.out 1; have p239 : 0 ≤ (x8_5 : Int) := of_decide_eq_true (by first | (with_reducible assumption) | assumption); have q239 : x8_5 < (l0_0.length : Int) := of_decide_eq_true (by first | (with_reducible assumption) | assumption); obtain ⟨ad239, e239, hx239_0⟩ := Kd.at_int HR0_0.out x8_5 p239 q239; cases e239; have hn239_0 : ad239.block ≠ gb238 := Nat.ne_of_lt (Nat.lt_of_lt_of_le (by have := World.block_lt_of_cell? _ _ hx239_0; first | rwa [add_block] at this | exact this) GW238.out); have hn239_1 : ad239.block ≠ gb238 := Nat.ne_of_lt (Nat.lt_of_lt_of_le (by have := World.block_lt_of_cell? _ _ hx239_0; first | rwa [add_block] at this | exact this) GW238.out); have hn239_2 : ad239.block ≠ gb238 := Nat.ne_of_lt (Nat.lt_of_lt_of_le (by have := World.block_lt_of_cell? _ _ hx239_0; first | rwa [add_block] at this | exact this) GW238.out); replace hx239_0 := (HB.out.cell (World.block_lt_of_cell? w _ hx239_0)).trans hx239_0; replace hx239_0 := (cell_far (p := ⟨gb238, 0, none⟩) (by first | (rw [add_block]; exact hn239_0) | (show (Addr.add _ _).block ≠ _; rw [add_block]; exact hn239_0) | exact hn239_0) (.int .i64 ((rd_T124 (rd_L2 l0_1 x8_5) x9_6).f0))).trans hx239_0; replace hx239_0 := (cell_far (p := ⟨gb238, 1, none⟩) (by first | (rw [add_block]; exact hn239_1) | (show (Addr.add _ _).block ≠ _; rw [add_block]; exact hn239_1) | exact hn239_1) (.int .i64 ((rd_T124 (rd_L2 l0_1 x8_5) x9_6).f1))).trans hx239_0; replace hx239_0 := (cell_far (p := ⟨gb238, 2, none⟩) (by first | (rw [add_block]; exact hn239_2) | (show (Addr.add _ _).block ≠ _; rw [add_block]; exact hn239_2) | exact hn239_2) (.int .i64 ((rd_T124 (rd_L2 l0_1 x8_5) x9_6).f2))).trans hx239_0; (try have hy239_0 := fun (n_ : Nat) => (show (((((w60.drewN n_).setCell ⟨gb238, 0, none⟩ (.int .i64 ((rd_T124 (rd_L2 l0_1 x8_5) x9_6).f0))).setCell ⟨gb238, 1, none⟩ (.int .i64 ((rd_T124 (rd_L2 l0_1 x8_5) x9_6).f1))).setCell ⟨gb238, 2, none⟩ (.int .i64 ((rd_T124 (rd_L2 l0_1 x8_5) x9_6).f2)))).cell? _ = some _ from hx239_0)); clear hn239_0; clear hn239_1; clear hn239_2; replace p239 := eq_true p239; replace q239 := eq_true q239; have p240 : 0 ≤ ((ji50) : Int) := of_decide_eq_true (by first | (with_reducible assumption) | assumption); have q240 : (ji50) < (l0_0.length : Int) := of_decide_eq_true (by first | (with_reducible assumption) | assumption); obtain ⟨ad240, e240, hx240_0⟩ := Kd.at_int HR0_0.out (ji50) p240 q240; obtain rfl : ad239 = ad240 := (by injection e240); have hn240_0 : ad239.block ≠ gb238 := Nat.ne_of_lt (Nat.lt_of_lt_of_le (by have := World.block_lt_of_cell? _ _ hx240_0; first | rwa [add_block] at this | exact this) GW238.out); have hn240_1 : ad239.block ≠ gb238 := Nat.ne_of_lt (Nat.lt_of_lt_of_le (by have := World.block_lt_of_cell? _ _ hx240_0; first | rwa [add_block] at this | exact this) GW238.out); have hn240_2 : ad239.block ≠ gb238 := Nat.ne_of_lt (Nat.lt_of_lt_of_le (by have := World.block_lt_of_cell? _ _ hx240_0; first | rwa [add_block] at this | exact this) GW238.out); replace hx240_0 := (HB.out.cell (World.block_lt_of_cell? w _ hx240_0)).trans hx240_0; replace hx240_0 := (cell_far (p := ⟨gb238, 0, none⟩) (by first | (rw [add_block]; exact hn240_0) | (show (Addr.add _ _).block ≠ _; rw [add_block]; exact hn240_0) | exact hn240_0) (.int .i64 ((rd_T124 (rd_L2 l0_1 x8_5) x9_6).f0))).trans hx240_0; replace hx240_0 := (cell_far (p := ⟨gb238, 1, none⟩) (by first | (rw [add_block]; exact hn240_1) | (show (Addr.add _ _).block ≠ _; rw [add_block]; exact hn240_1) | exact hn240_1) (.int .i64 ((rd_T124 (rd_L2 l0_1 x8_5) x9_6).f1))).trans hx240_0; replace hx240_0 := (cell_far (p := ⟨gb238, 2, none⟩) (by first | (rw [add_block]; exact hn240_2) | (show (Addr.add _ _).block ≠ _; rw [add_block]; exact hn240_2) | exact hn240_2) (.int .i64 ((rd_T124 (rd_L2 l0_1 x8_5) x9_6).f2))).trans hx240_0; (try have hy240_0 := fun (n_ : Nat) => (show (((((w60.drewN n_).setCell ⟨gb238, 0, none⟩ (.int .i64 ((rd_T124 (rd_L2 l0_1 x8_5) x9_6).f0))).setCell ⟨gb238, 1, none⟩ (.int .i64 ((rd_T124 (rd_L2 l0_1 x8_5) x9_6).f1))).setCell ⟨gb238, 2, none⟩ (.int .i64 ((rd_T124 (rd_L2 l0_1 x8_5) x9_6).f2)))).cell? _ = some _ from hx240_0)); clear hn240_0; clear hn240_1; clear hn240_2; replace p240 := eq_true p240; replace q240 := eq_true q240)))
                                                          go_roundg k6
                                                          case measure => have := HJ1.out; have := HK2.out; have := HK3.out; have := HK4.out; have := HK5.out; have := HK6.out; omega
                                                          case rel => exact ⟨(wrap64 (x9_6 + 1)), (by first | rfl | (simp; done) | (simp [*]; done)), H', ⟨by have := HJ1.out; have := HK2.out; have := HK3.out; have := HK4.out; have := HK5.out; have := HK6.out; omega⟩, ⟨by (with_reducible repeat (first | refine blk_drewN ?_ _ | refine blk_drew ?_ | refine blk_alloc ?_ _)); refine blk_far ?_ NB229_238.out _; (with_reducible repeat (first | refine blk_drewN ?_ _ | refine blk_drew ?_ | refine blk_alloc ?_ _)); refine blk_far ?_ NB229_238.out _; (with_reducible repeat (first | refine blk_drewN ?_ _ | refine blk_drew ?_ | refine blk_alloc ?_ _)); refine blk_far ?_ NB229_238.out _; (with_reducible repeat (first | refine blk_drewN ?_ _ | refine blk_drew ?_ | refine blk_alloc ?_ _)); exact BK229.out⟩, ⟨by repeat (first | (with_reducible first | exact HB.out | apply below_alloc | apply pw_below_drewN | apply below_drew1 | refine below_set ?_ GE229.out | refine below_set ?_ GE238.out) | exact HB.out)⟩⟩
                                                      · rw [if_neg c52] at H
                                                        exact absurd H (by simp)
                                                    · rw [if_neg c51] at H
                                                      exact absurd H (by simp)
                                              · rw [if_neg c37] at H
                                                exact absurd H (by simp)
                                          · rw [if_neg c31] at H
                                            exact absurd H (by simp)
                                        · rw [if_neg c30] at H
                                          have c30b0 : decide (x9_6 < ((rd_L2 l0_1 x8_5).length : Int)) = false := decide_eq_false c30
                                          clear c30
                                          have H' := Aside0.mk H
                                          clear H
                                          have hcz64_0 : wr.cell? ⟨gb229, 0, none⟩ = some (.slice A0_0 l0_0.length c0_0) := (blk_cell BK229.out 0).trans rfl
                                          have hcz64_1 : wr.cell? ⟨gb229, 1, none⟩ = some (.slice A0_1 l0_1.length c0_1) := (blk_cell BK229.out 1).trans rfl
                                          have hfz64_0 := blk_frozen BK229.out 0
                                          have hfz64_1 := blk_frozen BK229.out 1
                                          have p235 : 0 ≤ (x8_5 : Int) := of_decide_eq_true (by first | (with_reducible assumption) | assumption)
                                          have q235 : x8_5 < (l0_1.length : Int) := of_decide_eq_true (by first | (with_reducible assumption) | assumption)
                                          obtain ⟨ad235, A235_0, c235_0, e235, hx235_0, hl235_0, hi235_0⟩ := at_L2 HR0_1.out x8_5 p235 q235
                                          cases e235
                                          replace hx235_0 := (HB.out.cell (World.block_lt_of_cell? w _ hx235_0)).trans hx235_0
                                          have HR235_0 := Aside0.mk hi235_0
                                          have HC235_0 := Aside0.mk hl235_0
                                          clear hi235_0 hl235_0
                                          replace p235 := eq_true p235
                                          replace q235 := eq_true q235
                                          go_wp2
                                          repeat (go_quiet (fail); try go_wp2)
                                          go_roundg k6
                                          case measure => have := HJ1.out; have := HK2.out; have := HK3.out; have := HK4.out; have := HK5.out; have := HK6.out; omega
                                          case rel => exact ⟨(wrap64 (x8_5 + 1)), (by first | rfl | (simp; done) | (simp [*]; done)), H', ⟨by have := HJ1.out; have := HK2.out; have := HK3.out; have := HK4.out; have := HK5.out; have := HK6.out; omega⟩, ⟨by (with_reducible repeat (first | refine blk_drewN ?_ _ | refine blk_drew ?_ | refine blk_alloc ?_ _)); exact BK229.out⟩, ⟨by repeat (first | (with_reducible first | exact HB.out | apply below_alloc | apply pw_below_drewN | apply below_drew1 | refine below_set ?_ GE229.out) | exact HB.out)⟩⟩
                                      · rw [if_neg c29] at H
                                        exact absurd H (by simp)
                                    · rw [if_neg c28] at H
                                      exact absurd H (by simp)
                              · rw [if_neg c26] at H
                                have c26b0 : decide (x8_5 < (l0_1.length : Int)) = false := decide_eq_false c26
                                clear c26
                                obtain rfl := Option.some.inj H
                                have hcz65_0 : wr.cell? ⟨gb229, 0, none⟩ = some (.slice A0_0 l0_0.length c0_0) := (blk_cell BK229.out 0).trans rfl
                                have hcz65_1 : wr.cell? ⟨gb229, 1, none⟩ = some (.slice A0_1 l0_1.length c0_1) := (blk_cell BK229.out 1).trans rfl
                                have hfz65_0 := blk_frozen BK229.out 0
                                have hfz65_1 := blk_frozen BK229.out 1
                                go_wp2
                                repeat (go_quiet (fail); try go_wp2)
                                go_ret
                                exact ⟨by first | rfl | (simp [errW_none, errW_some] <;> rfl) | (simp [*, errW_none, errW_some] <;> rfl), by repeat (first | (with_reducible first | exact HB.out | apply below_alloc | apply pw_below_drewN | apply below_drew1 | refine below_set ?_ GE229.out) | exact HB.out)⟩

end Go.Proofs.Ytecfdemglbfnoaa.PT
