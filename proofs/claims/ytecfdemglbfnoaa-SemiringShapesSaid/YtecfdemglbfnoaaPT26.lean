/- Walks of functions of the program, printed by a program of this session out of the translation: each call of such a function comes to what the function of the same name beside it says. No condition beyond those that each theorem names. -/
import Derived.Test.YtecfdemglbfnoaaPT0
namespace Go.Proofs.Ytecfdemglbfnoaa.PT
open Go.RowKit Go.Proofs.YtecfdemglbfnoaaW.PrintWords Go.Proofs.YtecfdemglbfnoaaW.PrintLast Go.Proofs.YtecfdemglbfnoaaW.PrintMore
attribute [local go_sem] max2_int min2_int max_two min_two max_three min_three max_four min_four   -- for this text's walks alone
set_option linter.unusedVariables false
set_option linter.unusedSimpArgs false

/-! ### semiring_Shape: function 47 -/
mutual
def semiring_Shape.j0 : Nat → Bool → List Int → List (List (S124)) → Option (Int)
  | 0, _, _, _ => none
  | k + 1, x28, x221000, x221001 => if x28 = true then (some 3) else (semiring_Shape.l0 k x221000 (x221000.length : Int) 0 x221000 x221001)
def semiring_Shape.l0 : Nat → List Int → Int → Int → List Int → List (List (S124)) → Option (Int)
  | 0, _, _, _, _, _ => none
  | k + 1, x30, x31, x32, x221000, x221001 => if x32 < x31 then (if 0 ≤ x32 then (if x32 < (x30.length : Int) then (if (rd x30 x32) < 1 then (some 6) else (semiring_Shape.l0 k x30 x31 (wrap64 (x32 + 1)) x221000 x221001)) else (none)) else (none)) else (semiring_Shape.l1 k 0 0 x221000 (x221000.length : Int) 0 x221000 x221001)
def semiring_Shape.l1 : Nat → Int → Int → List Int → Int → Int → List Int → List (List (S124)) → Option (Int)
  | 0, _, _, _, _, _, _, _ => none
  | k + 1, x5, x6, x40, x41, x42, x221000, x221001 => if x42 < x41 then (if 0 ≤ x42 then (if x42 < (x40.length : Int) then (if (rd x40 x42) > (wrap64 (65536 - x5)) then (some 8) else (semiring_Shape.l1 k (wrap64 (x5 + (rd x40 x42))) x6 x40 x41 (wrap64 (x42 + 1)) x221000 x221001)) else (none)) else (none)) else (semiring_Shape.l2 k x6 x221001 (x221001.length : Int) 0 x221000 x221001)
def semiring_Shape.l2 : Nat → Int → List (List (S124)) → Int → Int → List Int → List (List (S124)) → Option (Int)
  | 0, _, _, _, _, _, _ => none
  | k + 1, x6, x55, x56, x57, x221000, x221001 => if x57 < x56 then (if 0 ≤ x57 then (if x57 < (x55.length : Int) then (if (wrap64 (x6 + ((rd_L2 x55 x57).length : Int))) > 262144 then (some 8) else (semiring_Shape.l2 k (wrap64 (x6 + ((rd_L2 x55 x57).length : Int))) x55 x56 (wrap64 (x57 + 1)) x221000 x221001)) else (none)) else (none)) else (semiring_Shape.l3 k x221001 (x221001.length : Int) 0 x221000 x221001)
def semiring_Shape.l3 : Nat → List (List (S124)) → Int → Int → List Int → List (List (S124)) → Option (Int)
  | 0, _, _, _, _, _ => none
  | k + 1, x69, x70, x71, x221000, x221001 => if x71 < x70 then (if 0 ≤ x71 then (if x71 < (x69.length : Int) then (semiring_Shape.l4 k x71 x69 x70 x71 (rd_L2 x69 x71) ((rd_L2 x69 x71).length : Int) 0 x221000 x221001) else (none)) else (none)) else (some 0)
def semiring_Shape.l4 : Nat → Int → List (List (S124)) → Int → Int → List (S124) → Int → Int → List Int → List (List (S124)) → Option (Int)
  | 0, _, _, _, _, _, _, _, _, _ => none
  | k + 1, x11, x69, x70, x71, x76, x77, x78, x221000, x221001 => if x78 < x77 then (if 0 ≤ x78 then (if x78 < (x76.length : Int) then (if ((rd_T124 x76 x78).f0) < 0 then (some 6) else (if 0 ≤ x11 then (if x11 < (x221000.length : Int) then (if ((rd_T124 x76 x78).f0) ≥ (rd x221000 x11) then (some 6) else (if ((rd_T124 x76 x78).f2) < 0 then (some 6) else (if 0 ≤ (wrap64 (x11 + 1)) then (if (wrap64 (x11 + 1)) < (x221000.length : Int) then (if ((rd_T124 x76 x78).f2) ≥ (rd x221000 (wrap64 (x11 + 1))) then (some 6) else (semiring_Shape.l4 k x11 x69 x70 x71 x76 x77 (wrap64 (x78 + 1)) x221000 x221001)) else (none)) else (none)))) else (none)) else (none))) else (none)) else (none)) else (semiring_Shape.l3 k x69 x70 (wrap64 (x71 + 1)) x221000 x221001)
end
def semiring_Shape.f (k : Nat) (l0_0 : List Int) (l0_1 : List (List (S124))) : Option (Int) := if (l0_1.length : Int) > 64 then (semiring_Shape.j0 k true l0_0 l0_1) else (semiring_Shape.j0 k ((l0_0.length : Int) != (wrap64 ((l0_1.length : Int) + 1))) l0_0 l0_1)
theorem semiring_Shape.mono_l : ∀ k, (∀ y0 y1 y2, LeO (semiring_Shape.j0 k y0 y1 y2) (semiring_Shape.j0 (k + 1) y0 y1 y2)) ∧ (∀ y0 y1 y2 y3 y4, LeO (semiring_Shape.l0 k y0 y1 y2 y3 y4) (semiring_Shape.l0 (k + 1) y0 y1 y2 y3 y4)) ∧ (∀ y0 y1 y2 y3 y4 y5 y6, LeO (semiring_Shape.l1 k y0 y1 y2 y3 y4 y5 y6) (semiring_Shape.l1 (k + 1) y0 y1 y2 y3 y4 y5 y6)) ∧ (∀ y0 y1 y2 y3 y4 y5, LeO (semiring_Shape.l2 k y0 y1 y2 y3 y4 y5) (semiring_Shape.l2 (k + 1) y0 y1 y2 y3 y4 y5)) ∧ (∀ y0 y1 y2 y3 y4, LeO (semiring_Shape.l3 k y0 y1 y2 y3 y4) (semiring_Shape.l3 (k + 1) y0 y1 y2 y3 y4)) ∧ (∀ y0 y1 y2 y3 y4 y5 y6 y7 y8, LeO (semiring_Shape.l4 k y0 y1 y2 y3 y4 y5 y6 y7 y8) (semiring_Shape.l4 (k + 1) y0 y1 y2 y3 y4 y5 y6 y7 y8))
  | 0 => ⟨fun _ _ _ r h => by simp [semiring_Shape.j0] at h, fun _ _ _ _ _ r h => by simp [semiring_Shape.l0] at h, fun _ _ _ _ _ _ _ r h => by simp [semiring_Shape.l1] at h, fun _ _ _ _ _ _ r h => by simp [semiring_Shape.l2] at h, fun _ _ _ _ _ r h => by simp [semiring_Shape.l3] at h, fun _ _ _ _ _ _ _ _ _ r h => by simp [semiring_Shape.l4] at h⟩
  | k + 1 => by
    obtain ⟨ih0, ih1, ih2, ih3, ih4, ih5⟩ := semiring_Shape.mono_l k
    refine ⟨?_, ?_, ?_, ?_, ?_, ?_⟩
    · intro y0 y1 y2
      unfold semiring_Shape.j0
      repeat' first
      | (with_reducible exact ih0 _ _ _)
      | (with_reducible exact ih1 _ _ _ _ _)
      | (with_reducible exact ih2 _ _ _ _ _ _ _)
      | (with_reducible exact ih3 _ _ _ _ _ _)
      | (with_reducible exact ih4 _ _ _ _ _)
      | (with_reducible exact ih5 _ _ _ _ _ _ _ _ _)
      | (with_reducible exact LeO.refl _)
      | (with_reducible exact LeO.none _)
      | (with_reducible refine LeO.ite ?_ ?_)
      | (with_reducible refine LeO.bind ?_ (fun _ => ?_))
      | exact ih0 _ _ _
      | exact ih1 _ _ _ _ _
      | exact ih2 _ _ _ _ _ _ _
      | exact ih3 _ _ _ _ _ _
      | exact ih4 _ _ _ _ _
      | exact ih5 _ _ _ _ _ _ _ _ _
      | exact LeO.none _
      | refine LeO.ite ?_ ?_
      | refine LeO.bind ?_ (fun _ => ?_)
    · intro y0 y1 y2 y3 y4
      unfold semiring_Shape.l0
      repeat' first
      | (with_reducible exact ih0 _ _ _)
      | (with_reducible exact ih1 _ _ _ _ _)
      | (with_reducible exact ih2 _ _ _ _ _ _ _)
      | (with_reducible exact ih3 _ _ _ _ _ _)
      | (with_reducible exact ih4 _ _ _ _ _)
      | (with_reducible exact ih5 _ _ _ _ _ _ _ _ _)
      | (with_reducible exact LeO.refl _)
      | (with_reducible exact LeO.none _)
      | (with_reducible refine LeO.ite ?_ ?_)
      | (with_reducible refine LeO.bind ?_ (fun _ => ?_))
      | exact ih0 _ _ _
      | exact ih1 _ _ _ _ _
      | exact ih2 _ _ _ _ _ _ _
      | exact ih3 _ _ _ _ _ _
      | exact ih4 _ _ _ _ _
      | exact ih5 _ _ _ _ _ _ _ _ _
      | exact LeO.none _
      | refine LeO.ite ?_ ?_
      | refine LeO.bind ?_ (fun _ => ?_)
    · intro y0 y1 y2 y3 y4 y5 y6
      unfold semiring_Shape.l1
      repeat' first
      | (with_reducible exact ih0 _ _ _)
      | (with_reducible exact ih1 _ _ _ _ _)
      | (with_reducible exact ih2 _ _ _ _ _ _ _)
      | (with_reducible exact ih3 _ _ _ _ _ _)
      | (with_reducible exact ih4 _ _ _ _ _)
      | (with_reducible exact ih5 _ _ _ _ _ _ _ _ _)
      | (with_reducible exact LeO.refl _)
      | (with_reducible exact LeO.none _)
      | (with_reducible refine LeO.ite ?_ ?_)
      | (with_reducible refine LeO.bind ?_ (fun _ => ?_))
      | exact ih0 _ _ _
      | exact ih1 _ _ _ _ _
      | exact ih2 _ _ _ _ _ _ _
      | exact ih3 _ _ _ _ _ _
      | exact ih4 _ _ _ _ _
      | exact ih5 _ _ _ _ _ _ _ _ _
      | exact LeO.none _
      | refine LeO.ite ?_ ?_
      | refine LeO.bind ?_ (fun _ => ?_)
    · intro y0 y1 y2 y3 y4 y5
      unfold semiring_Shape.l2
      repeat' first
      | (with_reducible exact ih0 _ _ _)
      | (with_reducible exact ih1 _ _ _ _ _)
      | (with_reducible exact ih2 _ _ _ _ _ _ _)
      | (with_reducible exact ih3 _ _ _ _ _ _)
      | (with_reducible exact ih4 _ _ _ _ _)
      | (with_reducible exact ih5 _ _ _ _ _ _ _ _ _)
      | (with_reducible exact LeO.refl _)
      | (with_reducible exact LeO.none _)
      | (with_reducible refine LeO.ite ?_ ?_)
      | (with_reducible refine LeO.bind ?_ (fun _ => ?_))
      | exact ih0 _ _ _
      | exact ih1 _ _ _ _ _
      | exact ih2 _ _ _ _ _ _ _
      | exact ih3 _ _ _ _ _ _
      | exact ih4 _ _ _ _ _
      | exact ih5 _ _ _ _ _ _ _ _ _
      | exact LeO.none _
      | refine LeO.ite ?_ ?_
      | refine LeO.bind ?_ (fun _ => ?_)
    · intro y0 y1 y2 y3 y4
      unfold semiring_Shape.l3
      repeat' first
      | (with_reducible exact ih0 _ _ _)
      | (with_reducible exact ih1 _ _ _ _ _)
      | (with_reducible exact ih2 _ _ _ _ _ _ _)
      | (with_reducible exact ih3 _ _ _ _ _ _)
      | (with_reducible exact ih4 _ _ _ _ _)
      | (with_reducible exact ih5 _ _ _ _ _ _ _ _ _)
      | (with_reducible exact LeO.refl _)
      | (with_reducible exact LeO.none _)
      | (with_reducible refine LeO.ite ?_ ?_)
      | (with_reducible refine LeO.bind ?_ (fun _ => ?_))
      | exact ih0 _ _ _
      | exact ih1 _ _ _ _ _
      | exact ih2 _ _ _ _ _ _ _
      | exact ih3 _ _ _ _ _ _
      | exact ih4 _ _ _ _ _
      | exact ih5 _ _ _ _ _ _ _ _ _
      | exact LeO.none _
      | refine LeO.ite ?_ ?_
      | refine LeO.bind ?_ (fun _ => ?_)
    · intro y0 y1 y2 y3 y4 y5 y6 y7 y8
      unfold semiring_Shape.l4
      repeat' first
      | (with_reducible exact ih0 _ _ _)
      | (with_reducible exact ih1 _ _ _ _ _)
      | (with_reducible exact ih2 _ _ _ _ _ _ _)
      | (with_reducible exact ih3 _ _ _ _ _ _)
      | (with_reducible exact ih4 _ _ _ _ _)
      | (with_reducible exact ih5 _ _ _ _ _ _ _ _ _)
      | (with_reducible exact LeO.refl _)
      | (with_reducible exact LeO.none _)
      | (with_reducible refine LeO.ite ?_ ?_)
      | (with_reducible refine LeO.bind ?_ (fun _ => ?_))
      | exact ih0 _ _ _
      | exact ih1 _ _ _ _ _
      | exact ih2 _ _ _ _ _ _ _
      | exact ih3 _ _ _ _ _ _
      | exact ih4 _ _ _ _ _
      | exact ih5 _ _ _ _ _ _ _ _ _
      | exact LeO.none _
      | refine LeO.ite ?_ ?_
      | refine LeO.bind ?_ (fun _ => ?_)
theorem semiring_Shape.mono : ∀ a0 a1 k, LeO (semiring_Shape.f k a0 a1) (semiring_Shape.f (k + 1) a0 a1) := by
  intro a0 a1 k
  obtain ⟨ih0, ih1, ih2, ih3, ih4, ih5⟩ := semiring_Shape.mono_l k
  unfold semiring_Shape.f
  repeat' first
      | (with_reducible exact ih0 _ _ _)
      | (with_reducible exact ih1 _ _ _ _ _)
      | (with_reducible exact ih2 _ _ _ _ _ _ _)
      | (with_reducible exact ih3 _ _ _ _ _ _)
      | (with_reducible exact ih4 _ _ _ _ _)
      | (with_reducible exact ih5 _ _ _ _ _ _ _ _ _)
      | (with_reducible exact LeO.refl _)
      | (with_reducible exact LeO.none _)
      | (with_reducible refine LeO.ite ?_ ?_)
      | (with_reducible refine LeO.bind ?_ (fun _ => ?_))
      | exact ih0 _ _ _
      | exact ih1 _ _ _ _ _
      | exact ih2 _ _ _ _ _ _ _
      | exact ih3 _ _ _ _ _ _
      | exact ih4 _ _ _ _ _
      | exact ih5 _ _ _ _ _ _ _ _ _
      | exact LeO.none _
      | refine LeO.ite ?_ ?_
      | refine LeO.bind ?_ (fun _ => ?_)
set_option maxHeartbeats 8000000 in
set_option maxRecDepth 100000 in
theorem semiring_Shape.calls (k : Nat) (A0_0 : Option Addr) (c0_0 : Nat) (l0_0 : List Int) (A0_1 : Option Addr) (c0_1 : Nat) (l0_1 : List (List (S124))) (r : Int) (w : World) (hr0_0 : Kd.C (Kd.int .i64) w A0_0 l0_0.length l0_0) (hc0_0 : l0_0.length ≤ c0_0) (hr0_1 : Kd.C (Kd.slice 124 k124) w A0_1 l0_1.length l0_1) (hc0_1 : l0_1.length ≤ c0_1) (h : semiring_Shape.f k l0_0 l0_1 = some r) :
    Calls Try.prog 47 #[.agg #[.slice A0_0 l0_0.length c0_0, .slice A0_1 l0_1.length c0_1]] w fun e w' => e = .returned (.int .i64 r) ∧ Below w.heap.size w w' := by
  have hu37 := Try.underlying37
  have hu124 := Try.underlying124
  have HR0_0 := Aside0.mk hr0_0
  have HC0_0 := Aside0.mk hc0_0
  clear hr0_0 hc0_0
  have HR0_1 := Aside0.mk hr0_1
  have HC0_1 := Aside0.mk hc0_1
  clear hr0_1 hc0_1
  have HB := Aside0.mk (Below.refl w.heap.size w)
  have H : (if (l0_1.length : Int) > 64 then (semiring_Shape.j0 k true l0_0 l0_1) else (semiring_Shape.j0 k ((l0_0.length : Int) != (wrap64 ((l0_1.length : Int) + 1))) l0_0 l0_1)) = some r := h
  clear h
  have HC2 := Aside0.mk H
  clear H
  go_enter Try.func47, Try.ntmps47
  go_upto_region 1 with (first | ((with_reducible refine gate_dst (N := 1) rfl ?_); (try (refine gate_guard (by rfl) ?_; dsimp only)); refine box_event ?hg (N := 1) ?hd (cs := #[.slice A0_0 l0_0.length c0_0, .slice A0_1 l0_1.length c0_1]) (t := 37) ?hr ?_; (case hd => rfl); (case hg => rfl); (case hr => first | (go_simp; done) | (go_simp; rfl)); intro gb220 hg w3 hbox hb; have n0_ := Aside0.mk (below_step (by repeat (first | (with_reducible first | exact HB.out | apply below_alloc | apply pw_below_drewN | apply below_drew1) | exact HB.out)) hb); have n1_ := Aside0.mk (hbox); have n2_ := Aside0.mk ((by rw [hg]; exact (below_size (by repeat (first | (with_reducible first | exact HB.out | apply below_alloc | apply pw_below_drewN | apply below_drew1) | exact HB.out))) : w.heap.size ≤ gb220)); have n3_ := Aside0.mk ((by rw [hg]; exact (below_size (by repeat (first | (with_reducible first | exact HB.out | apply below_alloc | apply pw_below_drewN | apply below_drew1) | exact HB.out))) : w.heap.size ≤ gb220)); clear HB; have HB := n0_; have BK220 := n1_; have GW220 := n2_; have GE220 := n3_; clear n0_ n1_ n2_ n3_; clear hb hbox hg))
  repeat (go_quiet (first | ((with_reducible refine gate_dst (N := 1) rfl ?_); (try (refine gate_guard (by rfl) ?_; dsimp only)); refine box_event ?hg (N := 1) ?hd (cs := #[.slice A0_0 l0_0.length c0_0, .slice A0_1 l0_1.length c0_1]) (t := 37) ?hr ?_; (case hd => rfl); (case hg => rfl); (case hr => first | (go_simp; done) | (go_simp; rfl)); intro gb220 hg w3 hbox hb; have n0_ := Aside0.mk (below_step (by repeat (first | (with_reducible first | exact HB.out | apply below_alloc | apply pw_below_drewN | apply below_drew1) | exact HB.out)) hb); have n1_ := Aside0.mk (hbox); have n2_ := Aside0.mk ((by rw [hg]; exact (below_size (by repeat (first | (with_reducible first | exact HB.out | apply below_alloc | apply pw_below_drewN | apply below_drew1) | exact HB.out))) : w.heap.size ≤ gb220)); have n3_ := Aside0.mk ((by rw [hg]; exact (below_size (by repeat (first | (with_reducible first | exact HB.out | apply below_alloc | apply pw_below_drewN | apply below_drew1) | exact HB.out))) : w.heap.size ≤ gb220)); clear HB; have HB := n0_; have BK220 := n1_; have GW220 := n2_; have GE220 := n3_; clear n0_ n1_ n2_ n3_; clear hb hbox hg)); go_upto_region 1 with (first | ((with_reducible refine gate_dst (N := 1) rfl ?_); (try (refine gate_guard (by rfl) ?_; dsimp only)); refine box_event ?hg (N := 1) ?hd (cs := #[.slice A0_0 l0_0.length c0_0, .slice A0_1 l0_1.length c0_1]) (t := 37) ?hr ?_; (case hd => rfl); (case hg => rfl); (case hr => first | (go_simp; done) | (go_simp; rfl)); intro gb220 hg w3 hbox hb; have n0_ := Aside0.mk (below_step (by repeat (first | (with_reducible first | exact HB.out | apply below_alloc | apply pw_below_drewN | apply below_drew1) | exact HB.out)) hb); have n1_ := Aside0.mk (hbox); have n2_ := Aside0.mk ((by rw [hg]; exact (below_size (by repeat (first | (with_reducible first | exact HB.out | apply below_alloc | apply pw_below_drewN | apply below_drew1) | exact HB.out))) : w.heap.size ≤ gb220)); have n3_ := Aside0.mk ((by rw [hg]; exact (below_size (by repeat (first | (with_reducible first | exact HB.out | apply below_alloc | apply pw_below_drewN | apply below_drew1) | exact HB.out))) : w.heap.size ≤ gb220)); clear HB; have HB := n0_; have BK220 := n1_; have GW220 := n2_; have GE220 := n3_; clear n0_ n1_ n2_ n3_; clear hb hbox hg)))
  (try simp only [Act.put, List.setIfInBounds_toArray, List.set_cons_zero, List.set_cons_succ])
  go_cut [28] (fun v28 wc => ∃ (kq : Nat) (x28_1 : Bool), v28 = .bool x28_1 ∧ Aside0 (semiring_Shape.j0 kq x28_1 l0_0 l0_1 = some r) ∧ Aside0 (kq ≤ k) ∧ Aside0 (wc.heap[gb220]? = some (.cells #[(.slice A0_0 l0_0.length c0_0), (.slice A0_1 l0_1.length c0_1)] 37 (0, 0))) ∧ Aside0 (Below w.heap.size w wc))
  case first =>
    have H := HC2.out
    clear HC2
    by_cases c4 : (l0_1.length : Int) > 64
    · rw [if_pos c4] at H
      have c4b0 : decide (64 < (l0_1.length : Int)) = true := decide_eq_true c4
      have c4b1 : decide (64 < l0_1.length) = true := decide_eq_true (by omega)
      clear c4
      (first | rw [c4b0] | rw [c4b1] | (simp only [i64_w, i32_w]; rw [c4b0]) | skip)
      have H' := Aside0.mk H
      clear H
      have hcz5_0 : w3.cell? ⟨gb220, 0, none⟩ = some (.slice A0_0 l0_0.length c0_0) := (blk_cell BK220.out 0).trans rfl
      have hcz5_1 : w3.cell? ⟨gb220, 1, none⟩ = some (.slice A0_1 l0_1.length c0_1) := (blk_cell BK220.out 1).trans rfl
      have hfz5_0 := blk_frozen BK220.out 0
      have hfz5_1 := blk_frozen BK220.out 1
      go_wp2
      repeat (go_quiet (fail); try go_wp2)
      go_meet
      case rel => exact ⟨_, (true), (by first | rfl | (simp; done) | (simp [*]; done)), H', ⟨by first | omega | exact Nat.le_refl _⟩, ⟨by (with_reducible repeat (first | refine blk_drewN ?_ _ | refine blk_drew ?_ | refine blk_alloc ?_ _)); exact BK220.out⟩, ⟨by repeat (first | (with_reducible first | exact HB.out | apply below_alloc | apply pw_below_drewN | apply below_drew1 | refine below_set ?_ GE220.out) | exact HB.out)⟩⟩
    · rw [if_neg c4] at H
      have c4b0 : decide (64 < (l0_1.length : Int)) = false := decide_eq_false c4
      have c4b1 : decide (64 < l0_1.length) = false := decide_eq_false (by omega)
      clear c4
      (first | rw [c4b0] | rw [c4b1] | (simp only [i64_w, i32_w]; rw [c4b0]) | skip)
      have H' := Aside0.mk H
      clear H
      have hcz6_0 : w3.cell? ⟨gb220, 0, none⟩ = some (.slice A0_0 l0_0.length c0_0) := (blk_cell BK220.out 0).trans rfl
      have hcz6_1 : w3.cell? ⟨gb220, 1, none⟩ = some (.slice A0_1 l0_1.length c0_1) := (blk_cell BK220.out 1).trans rfl
      have hfz6_0 := blk_frozen BK220.out 0
      have hfz6_1 := blk_frozen BK220.out 1
      go_wp2
      repeat (go_quiet (fail); try go_wp2)
      go_meet
      case rel => exact ⟨_, (((l0_0.length : Int) != (wrap64 ((l0_1.length : Int) + 1)))), (by first | rfl | (simp; done) | (simp [*]; done)), H', ⟨by first | omega | exact Nat.le_refl _⟩, ⟨by (with_reducible repeat (first | refine blk_drewN ?_ _ | refine blk_drew ?_ | refine blk_alloc ?_ _)); exact BK220.out⟩, ⟨by repeat (first | (with_reducible first | exact HB.out | apply below_alloc | apply pw_below_drewN | apply below_drew1 | refine below_set ?_ GE220.out) | exact HB.out)⟩⟩
  case rest =>
    clear HC2
    try clear p2
    try clear c4
    try clear c4b0
    try clear c4b1
    try clear p6
    try clear hcz5_0
    try clear hcz5_1
    try clear hcz6_0
    try clear hcz6_1
    try clear hfz5_0
    try clear hfz5_1
    try clear hfz6_0
    try clear hfz6_1
    obtain ⟨kq, x28_1, rfl, HA, HJ1, BK220, HB⟩ := hcut
    cases kq with
    | zero => exact absurd HA.out (by simp [semiring_Shape.j0])
    | succ kj1 =>
      have H := HA.out
      clear HA
      simp only [semiring_Shape.j0] at H
      by_cases c7 : x28_1 = true
      · subst c7
        have H1 : (some 3) = some r := by rw [if_pos rfl] at H; exact H
        clear H
        have H := H1
        clear H1
        obtain rfl := Option.some.inj H
        go_wp2
        repeat (go_quiet (fail); try go_wp2)
        go_ret
        exact ⟨by first | rfl | (simp [errW_none, errW_some] <;> rfl) | (simp [*, errW_none, errW_some] <;> rfl), by repeat (first | (with_reducible first | exact HB.out | apply below_alloc | apply pw_below_drewN | apply below_drew1 | refine below_set ?_ GE220.out) | exact HB.out)⟩
      · replace c7 := Bool.eq_false_iff.mpr c7
        subst c7
        have H1 : (semiring_Shape.l0 kj1 l0_0 (l0_0.length : Int) 0 l0_0 l0_1) = some r := by rw [if_neg (show ¬ (false = true) by decide)] at H; exact H
        clear H
        have H := H1
        clear H1
        have H' := Aside0.mk H
        clear H
        have hcz8_0 : wc.cell? ⟨gb220, 0, none⟩ = some (.slice A0_0 l0_0.length c0_0) := (blk_cell BK220.out 0).trans rfl
        have hcz8_1 : wc.cell? ⟨gb220, 1, none⟩ = some (.slice A0_1 l0_1.length c0_1) := (blk_cell BK220.out 1).trans rfl
        have hfz8_0 := blk_frozen BK220.out 0
        have hfz8_1 := blk_frozen BK220.out 1
        go_wp2
        repeat (go_quiet (fail); try go_wp2)
        go_loopg [32] kj1 (fun kq v32 w' => ∃ (x32_2 : Int), v32 = .int .i64 x32_2 ∧ Aside0 (semiring_Shape.l0 kq l0_0 (l0_0.length : Int) x32_2 l0_0 l0_1 = some r) ∧ Aside0 (kq ≤ kj1) ∧ Aside0 (w'.heap[gb220]? = some (.cells #[(.slice A0_0 l0_0.length c0_0), (.slice A0_1 l0_1.length c0_1)] 37 (0, 0))) ∧ Aside0 (Below w.heap.size w w'))
        case atStart => exact ⟨(0), (by first | rfl | (simp; done) | (simp [*]; done)), H', ⟨Nat.le_refl _⟩, ⟨by (with_reducible repeat (first | refine blk_drewN ?_ _ | refine blk_drew ?_ | refine blk_alloc ?_ _)); exact BK220.out⟩, ⟨by repeat (first | (with_reducible first | exact HB.out | apply below_alloc | apply pw_below_drewN | apply below_drew1 | refine below_set ?_ GE220.out) | exact HB.out)⟩⟩
        case round =>
          clear H'
          try clear p2
          try clear c4
          try clear c4b0
          try clear c4b1
          try clear p6
          try clear c7
          try clear hcz5_0
          try clear hcz5_1
          try clear hcz6_0
          try clear hcz6_1
          try clear hcz8_0
          try clear hcz8_1
          try clear hfz5_0
          try clear hfz5_1
          try clear hfz6_0
          try clear hfz6_1
          try clear hfz8_0
          try clear hfz8_1
          try clear p2
          try clear p6
          obtain ⟨x32_2, rfl, HA, HK2, BK220, HB⟩ := hrel
          cases gk with
          | zero => exact absurd HA.out (by simp [semiring_Shape.l0])
          | succ k2 =>
            have H := HA.out
            clear HA
            simp only [semiring_Shape.l0] at H
            by_cases c9 : x32_2 < (l0_0.length : Int)
            · rw [if_pos c9] at H
              have c9b0 : decide (x32_2 < (l0_0.length : Int)) = true := decide_eq_true c9
              clear c9
              by_cases c10 : 0 ≤ x32_2
              · rw [if_pos c10] at H
                have c10b0 : decide (0 ≤ x32_2) = true := decide_eq_true c10
                clear c10
                by_cases c11 : x32_2 < (l0_0.length : Int)
                · rw [if_pos c11] at H
                  have c11b0 : decide (x32_2 < (l0_0.length : Int)) = true := decide_eq_true c11
                  clear c11
                  by_cases c12 : (rd l0_0 x32_2) < 1
                  · rw [if_pos c12] at H
                    have c12b0 : decide ((rd l0_0 x32_2) < 1) = true := decide_eq_true c12
                    clear c12
                    obtain rfl := Option.some.inj H
                    have p221 : 0 ≤ (x32_2 : Int) := of_decide_eq_true (by first | (with_reducible assumption) | assumption)
                    have q221 : x32_2 < (l0_0.length : Int) := of_decide_eq_true (by first | (with_reducible assumption) | assumption)
                    obtain ⟨ad221, e221, hx221_0⟩ := Kd.at_int HR0_0.out x32_2 p221 q221
                    cases e221
                    replace hx221_0 := (HB.out.cell (World.block_lt_of_cell? w _ hx221_0)).trans hx221_0
                    replace p221 := eq_true p221
                    replace q221 := eq_true q221
                    go_wp2
                    repeat (go_quiet (fail); try go_wp2)
                    go_ret
                    exact ⟨by first | rfl | (simp [errW_none, errW_some] <;> rfl) | (simp [*, errW_none, errW_some] <;> rfl), by repeat (first | (with_reducible first | exact HB.out | apply below_alloc | apply pw_below_drewN | apply below_drew1 | refine below_set ?_ GE220.out) | exact HB.out)⟩
                  · rw [if_neg c12] at H
                    have c12b0 : decide ((rd l0_0 x32_2) < 1) = false := decide_eq_false c12
                    clear c12
                    have H' := Aside0.mk H
                    clear H
                    have p221 : 0 ≤ (x32_2 : Int) := of_decide_eq_true (by first | (with_reducible assumption) | assumption)
                    have q221 : x32_2 < (l0_0.length : Int) := of_decide_eq_true (by first | (with_reducible assumption) | assumption)
                    obtain ⟨ad221, e221, hx221_0⟩ := Kd.at_int HR0_0.out x32_2 p221 q221
                    cases e221
                    replace hx221_0 := (HB.out.cell (World.block_lt_of_cell? w _ hx221_0)).trans hx221_0
                    replace p221 := eq_true p221
                    replace q221 := eq_true q221
                    go_wp2
                    repeat (go_quiet (fail); try go_wp2)
                    go_roundg k2
                    case measure => have := HJ1.out; have := HK2.out; omega
                    case rel => exact ⟨(wrap64 (x32_2 + 1)), (by first | rfl | (simp; done) | (simp [*]; done)), H', ⟨by have := HJ1.out; have := HK2.out; omega⟩, ⟨by (with_reducible repeat (first | refine blk_drewN ?_ _ | refine blk_drew ?_ | refine blk_alloc ?_ _)); exact BK220.out⟩, ⟨by repeat (first | (with_reducible first | exact HB.out | apply below_alloc | apply pw_below_drewN | apply below_drew1 | refine below_set ?_ GE220.out) | exact HB.out)⟩⟩
                · rw [if_neg c11] at H
                  exact absurd H (by simp)
              · rw [if_neg c10] at H
                exact absurd H (by simp)
            · rw [if_neg c9] at H
              have c9b0 : decide (x32_2 < (l0_0.length : Int)) = false := decide_eq_false c9
              clear c9
              have H' := Aside0.mk H
              clear H
              have hcz13_0 : wr.cell? ⟨gb220, 0, none⟩ = some (.slice A0_0 l0_0.length c0_0) := (blk_cell BK220.out 0).trans rfl
              have hcz13_1 : wr.cell? ⟨gb220, 1, none⟩ = some (.slice A0_1 l0_1.length c0_1) := (blk_cell BK220.out 1).trans rfl
              have hfz13_0 := blk_frozen BK220.out 0
              have hfz13_1 := blk_frozen BK220.out 1
              go_wp2
              repeat (go_quiet (fail); try go_wp2)
              go_loopg [5, 42] k2 (fun kq v5 v42 w' => ∃ (x5_3 : Int) (x42_3 : Int), v5 = .int .i64 x5_3 ∧ v42 = .int .i64 x42_3 ∧ Aside0 (semiring_Shape.l1 kq x5_3 0 l0_0 (l0_0.length : Int) x42_3 l0_0 l0_1 = some r) ∧ Aside0 (kq ≤ k2) ∧ Aside0 (w'.heap[gb220]? = some (.cells #[(.slice A0_0 l0_0.length c0_0), (.slice A0_1 l0_1.length c0_1)] 37 (0, 0))) ∧ Aside0 (Below w.heap.size w w'))
              case atStart => exact ⟨(0), (0), (by first | rfl | (simp; done) | (simp [*]; done)), (by first | rfl | (simp; done) | (simp [*]; done)), H', ⟨Nat.le_refl _⟩, ⟨by (with_reducible repeat (first | refine blk_drewN ?_ _ | refine blk_drew ?_ | refine blk_alloc ?_ _)); exact BK220.out⟩, ⟨by repeat (first | (with_reducible first | exact HB.out | apply below_alloc | apply pw_below_drewN | apply below_drew1 | refine below_set ?_ GE220.out) | exact HB.out)⟩⟩
              case round =>
                clear H'
                try clear c1
                try clear p2
                try clear q2
                try clear hx2
                try clear c4
                try clear c4b0
                try clear c4b1
                try clear p6
                try clear c7
                try clear c9
                try clear c9b0
                try clear c10
                try clear c10b0
                try clear c11
                try clear c11b0
                try clear c12
                try clear c12b0
                try clear hcz13_0
                try clear hcz13_1
                try clear hcz5_0
                try clear hcz5_1
                try clear hcz6_0
                try clear hcz6_1
                try clear hcz8_0
                try clear hcz8_1
                try clear hfz13_0
                try clear hfz13_1
                try clear hfz5_0
                try clear hfz5_1
                try clear hfz6_0
                try clear hfz6_1
                try clear hfz8_0
                try clear hfz8_1
                try clear hx221_0
                try clear p2
                try clear p221
                try clear p6
                try clear q221
                obtain ⟨x5_3, x42_3, rfl, rfl, HA, HK3, BK220, HB⟩ := hrel
                cases gk with
                | zero => exact absurd HA.out (by simp [semiring_Shape.l1])
                | succ k3 =>
                  have H := HA.out
                  clear HA
                  simp only [semiring_Shape.l1] at H
                  by_cases c14 : x42_3 < (l0_0.length : Int)
                  · rw [if_pos c14] at H
                    have c14b0 : decide (x42_3 < (l0_0.length : Int)) = true := decide_eq_true c14
                    clear c14
                    by_cases c15 : 0 ≤ x42_3
                    · rw [if_pos c15] at H
                      have c15b0 : decide (0 ≤ x42_3) = true := decide_eq_true c15
                      clear c15
                      by_cases c16 : x42_3 < (l0_0.length : Int)
                      · rw [if_pos c16] at H
                        have c16b0 : decide (x42_3 < (l0_0.length : Int)) = true := decide_eq_true c16
                        clear c16
                        by_cases c17 : (rd l0_0 x42_3) > (wrap64 (65536 - x5_3))
                        · rw [if_pos c17] at H
                          have c17b0 : decide ((wrap64 (65536 - x5_3)) < (rd l0_0 x42_3)) = true := decide_eq_true c17
                          clear c17
                          obtain rfl := Option.some.inj H
                          have p222 : 0 ≤ (x42_3 : Int) := of_decide_eq_true (by first | (with_reducible assumption) | assumption)
                          have q222 : x42_3 < (l0_0.length : Int) := of_decide_eq_true (by first | (with_reducible assumption) | assumption)
                          obtain ⟨ad222, e222, hx222_0⟩ := Kd.at_int HR0_0.out x42_3 p222 q222
                          cases e222
                          replace hx222_0 := (HB.out.cell (World.block_lt_of_cell? w _ hx222_0)).trans hx222_0
                          replace p222 := eq_true p222
                          replace q222 := eq_true q222
                          go_wp2
                          repeat (go_quiet (fail); try go_wp2)
                          go_ret
                          exact ⟨by first | rfl | (simp [errW_none, errW_some] <;> rfl) | (simp [*, errW_none, errW_some] <;> rfl), by repeat (first | (with_reducible first | exact HB.out | apply below_alloc | apply pw_below_drewN | apply below_drew1 | refine below_set ?_ GE220.out) | exact HB.out)⟩
                        · rw [if_neg c17] at H
                          have c17b0 : decide ((wrap64 (65536 - x5_3)) < (rd l0_0 x42_3)) = false := decide_eq_false c17
                          clear c17
                          have H' := Aside0.mk H
                          clear H
                          have p222 : 0 ≤ (x42_3 : Int) := of_decide_eq_true (by first | (with_reducible assumption) | assumption)
                          have q222 : x42_3 < (l0_0.length : Int) := of_decide_eq_true (by first | (with_reducible assumption) | assumption)
                          obtain ⟨ad222, e222, hx222_0⟩ := Kd.at_int HR0_0.out x42_3 p222 q222
                          cases e222
                          replace hx222_0 := (HB.out.cell (World.block_lt_of_cell? w _ hx222_0)).trans hx222_0
                          replace p222 := eq_true p222
                          replace q222 := eq_true q222
                          go_wp2
                          repeat (go_quiet (fail); try go_wp2)
                          go_roundg k3
                          case measure => have := HJ1.out; have := HK2.out; have := HK3.out; omega
                          case rel => exact ⟨(wrap64 (x5_3 + (rd l0_0 x42_3))), (wrap64 (x42_3 + 1)), (by first | rfl | (simp; done) | (simp [*]; done)), (by first | rfl | (simp; done) | (simp [*]; done)), H', ⟨by have := HJ1.out; have := HK2.out; have := HK3.out; omega⟩, ⟨by (with_reducible repeat (first | refine blk_drewN ?_ _ | refine blk_drew ?_ | refine blk_alloc ?_ _)); exact BK220.out⟩, ⟨by repeat (first | (with_reducible first | exact HB.out | apply below_alloc | apply pw_below_drewN | apply below_drew1 | refine below_set ?_ GE220.out) | exact HB.out)⟩⟩
                      · rw [if_neg c16] at H
                        exact absurd H (by simp)
                    · rw [if_neg c15] at H
                      exact absurd H (by simp)
                  · rw [if_neg c14] at H
                    have c14b0 : decide (x42_3 < (l0_0.length : Int)) = false := decide_eq_false c14
                    clear c14
                    have H' := Aside0.mk H
                    clear H
                    have hcz18_0 : wr.cell? ⟨gb220, 0, none⟩ = some (.slice A0_0 l0_0.length c0_0) := (blk_cell BK220.out 0).trans rfl
                    have hcz18_1 : wr.cell? ⟨gb220, 1, none⟩ = some (.slice A0_1 l0_1.length c0_1) := (blk_cell BK220.out 1).trans rfl
                    have hfz18_0 := blk_frozen BK220.out 0
                    have hfz18_1 := blk_frozen BK220.out 1
                    go_wp2
                    repeat (go_quiet (fail); try go_wp2)
                    go_loopg [6, 57] k3 (fun kq v6 v57 w' => ∃ (x6_4 : Int) (x57_4 : Int), v6 = .int .i64 x6_4 ∧ v57 = .int .i64 x57_4 ∧ Aside0 (semiring_Shape.l2 kq x6_4 l0_1 (l0_1.length : Int) x57_4 l0_0 l0_1 = some r) ∧ Aside0 (kq ≤ k3) ∧ Aside0 (w'.heap[gb220]? = some (.cells #[(.slice A0_0 l0_0.length c0_0), (.slice A0_1 l0_1.length c0_1)] 37 (0, 0))) ∧ Aside0 (Below w.heap.size w w'))
                    case atStart => exact ⟨(0), (0), (by first | rfl | (simp; done) | (simp [*]; done)), (by first | rfl | (simp; done) | (simp [*]; done)), H', ⟨Nat.le_refl _⟩, ⟨by (with_reducible repeat (first | refine blk_drewN ?_ _ | refine blk_drew ?_ | refine blk_alloc ?_ _)); exact BK220.out⟩, ⟨by repeat (first | (with_reducible first | exact HB.out | apply below_alloc | apply pw_below_drewN | apply below_drew1 | refine below_set ?_ GE220.out) | exact HB.out)⟩⟩
                    case round =>
                      clear H'
                      try clear c1
                      try clear p2
                      try clear q2
                      try clear hx2
                      try clear c4
                      try clear c4b0
                      try clear c4b1
                      try clear p6
                      try clear c7
                      try clear c9
                      try clear c9b0
                      try clear c10
                      try clear c10b0
                      try clear c11
                      try clear c11b0
                      try clear c12
                      try clear c12b0
                      try clear c14
                      try clear c14b0
                      try clear c15
                      try clear c15b0
                      try clear c16
                      try clear c16b0
                      try clear c17
                      try clear c17b0
                      try clear hcz13_0
                      try clear hcz13_1
                      try clear hcz18_0
                      try clear hcz18_1
                      try clear hcz5_0
                      try clear hcz5_1
                      try clear hcz6_0
                      try clear hcz6_1
                      try clear hcz8_0
                      try clear hcz8_1
                      try clear hfz13_0
                      try clear hfz13_1
                      try clear hfz18_0
                      try clear hfz18_1
                      try clear hfz5_0
                      try clear hfz5_1
                      try clear hfz6_0
                      try clear hfz6_1
                      try clear hfz8_0
                      try clear hfz8_1
                      try clear hx221_0
                      try clear hx222_0
                      try clear p2
                      try clear p221
                      try clear p222
                      try clear p6
                      try clear q2
                      try clear q221
                      try clear q222
                      obtain ⟨x6_4, x57_4, rfl, rfl, HA, HK4, BK220, HB⟩ := hrel
                      cases gk with
                      | zero => exact absurd HA.out (by simp [semiring_Shape.l2])
                      | succ k4 =>
                        have H := HA.out
                        clear HA
                        simp only [semiring_Shape.l2] at H
                        by_cases c19 : x57_4 < (l0_1.length : Int)
                        · rw [if_pos c19] at H
                          have c19b0 : decide (x57_4 < (l0_1.length : Int)) = true := decide_eq_true c19
                          clear c19
                          by_cases c20 : 0 ≤ x57_4
                          · rw [if_pos c20] at H
                            have c20b0 : decide (0 ≤ x57_4) = true := decide_eq_true c20
                            clear c20
                            by_cases c21 : x57_4 < (l0_1.length : Int)
                            · rw [if_pos c21] at H
                              have c21b0 : decide (x57_4 < (l0_1.length : Int)) = true := decide_eq_true c21
                              clear c21
                              by_cases c22 : (wrap64 (x6_4 + ((rd_L2 l0_1 x57_4).length : Int))) > 262144
                              · rw [if_pos c22] at H
                                have c22b0 : decide (262144 < (wrap64 (x6_4 + ((rd_L2 l0_1 x57_4).length : Int)))) = true := decide_eq_true c22
                                clear c22
                                obtain rfl := Option.some.inj H
                                have p223 : 0 ≤ (x57_4 : Int) := of_decide_eq_true (by first | (with_reducible assumption) | assumption)
                                have q223 : x57_4 < (l0_1.length : Int) := of_decide_eq_true (by first | (with_reducible assumption) | assumption)
                                obtain ⟨ad223, A223_0, c223_0, e223, hx223_0, hl223_0, hi223_0⟩ := at_L2 HR0_1.out x57_4 p223 q223
                                cases e223
                                replace hx223_0 := (HB.out.cell (World.block_lt_of_cell? w _ hx223_0)).trans hx223_0
                                have HR223_0 := Aside0.mk hi223_0
                                have HC223_0 := Aside0.mk hl223_0
                                clear hi223_0 hl223_0
                                replace p223 := eq_true p223
                                replace q223 := eq_true q223
                                go_wp2
                                repeat (go_quiet (fail); try go_wp2)
                                go_ret
                                exact ⟨by first | rfl | (simp [errW_none, errW_some] <;> rfl) | (simp [*, errW_none, errW_some] <;> rfl), by repeat (first | (with_reducible first | exact HB.out | apply below_alloc | apply pw_below_drewN | apply below_drew1 | refine below_set ?_ GE220.out) | exact HB.out)⟩
                              · rw [if_neg c22] at H
                                have c22b0 : decide (262144 < (wrap64 (x6_4 + ((rd_L2 l0_1 x57_4).length : Int)))) = false := decide_eq_false c22
                                clear c22
                                have H' := Aside0.mk H
                                clear H
                                have p223 : 0 ≤ (x57_4 : Int) := of_decide_eq_true (by first | (with_reducible assumption) | assumption)
                                have q223 : x57_4 < (l0_1.length : Int) := of_decide_eq_true (by first | (with_reducible assumption) | assumption)
                                obtain ⟨ad223, A223_0, c223_0, e223, hx223_0, hl223_0, hi223_0⟩ := at_L2 HR0_1.out x57_4 p223 q223
                                cases e223
                                replace hx223_0 := (HB.out.cell (World.block_lt_of_cell? w _ hx223_0)).trans hx223_0
                                have HR223_0 := Aside0.mk hi223_0
                                have HC223_0 := Aside0.mk hl223_0
                                clear hi223_0 hl223_0
                                replace p223 := eq_true p223
                                replace q223 := eq_true q223
                                go_wp2
                                repeat (go_quiet (fail); try go_wp2)
                                go_roundg k4
                                case measure => have := HJ1.out; have := HK2.out; have := HK3.out; have := HK4.out; omega
                                case rel => exact ⟨(wrap64 (x6_4 + ((rd_L2 l0_1 x57_4).length : Int))), (wrap64 (x57_4 + 1)), (by first | rfl | (simp; done) | (simp [*]; done)), (by first | rfl | (simp; done) | (simp [*]; done)), H', ⟨by have := HJ1.out; have := HK2.out; have := HK3.out; have := HK4.out; omega⟩, ⟨by (with_reducible repeat (first | refine blk_drewN ?_ _ | refine blk_drew ?_ | refine blk_alloc ?_ _)); exact BK220.out⟩, ⟨by repeat (first | (with_reducible first | exact HB.out | apply below_alloc | apply pw_below_drewN | apply below_drew1 | refine below_set ?_ GE220.out) | exact HB.out)⟩⟩
                            · rw [if_neg c21] at H
                              exact absurd H (by simp)
                          · rw [if_neg c20] at H
                            exact absurd H (by simp)
                        · rw [if_neg c19] at H
                          have c19b0 : decide (x57_4 < (l0_1.length : Int)) = false := decide_eq_false c19
                          clear c19
                          have H' := Aside0.mk H
                          clear H
                          have hcz23_0 : wr.cell? ⟨gb220, 0, none⟩ = some (.slice A0_0 l0_0.length c0_0) := (blk_cell BK220.out 0).trans rfl
                          have hcz23_1 : wr.cell? ⟨gb220, 1, none⟩ = some (.slice A0_1 l0_1.length c0_1) := (blk_cell BK220.out 1).trans rfl
                          have hfz23_0 := blk_frozen BK220.out 0
                          have hfz23_1 := blk_frozen BK220.out 1
                          go_wp2
                          repeat (go_quiet (fail); try go_wp2)
                          go_loopg [71] k4 (fun kq v71 w' => ∃ (x71_5 : Int), v71 = .int .i64 x71_5 ∧ Aside0 (semiring_Shape.l3 kq l0_1 (l0_1.length : Int) x71_5 l0_0 l0_1 = some r) ∧ Aside0 (kq ≤ k4) ∧ Aside0 (w'.heap[gb220]? = some (.cells #[(.slice A0_0 l0_0.length c0_0), (.slice A0_1 l0_1.length c0_1)] 37 (0, 0))) ∧ Aside0 (Below w.heap.size w w'))
                          case atStart => exact ⟨(0), (by first | rfl | (simp; done) | (simp [*]; done)), H', ⟨Nat.le_refl _⟩, ⟨by (with_reducible repeat (first | refine blk_drewN ?_ _ | refine blk_drew ?_ | refine blk_alloc ?_ _)); exact BK220.out⟩, ⟨by repeat (first | (with_reducible first | exact HB.out | apply below_alloc | apply pw_below_drewN | apply below_drew1 | refine below_set ?_ GE220.out) | exact HB.out)⟩⟩
                          case round =>
                            clear H'
                            try clear c1
                            try clear c2
                            try clear p2
                            try clear q2
                            try clear hx2
                            try clear c4
                            try clear c4b0
                            try clear c4b1
                            try clear p6
                            try clear c7
                            try clear c9
                            try clear c9b0
                            try clear c10
                            try clear c10b0
                            try clear c11
                            try clear c11b0
                            try clear c12
                            try clear c12b0
                            try clear c14
                            try clear c14b0
                            try clear c15
                            try clear c15b0
                            try clear c16
                            try clear c16b0
                            try clear c17
                            try clear c17b0
                            try clear c19
                            try clear c19b0
                            try clear c20
                            try clear c20b0
                            try clear c21
                            try clear c21b0
                            try clear c22
                            try clear c22b0
                            try clear p22
                            try clear q22
                            try clear hx22
                            try clear hcz13_0
                            try clear hcz13_1
                            try clear hcz18_0
                            try clear hcz18_1
                            try clear hcz23_0
                            try clear hcz23_1
                            try clear hcz5_0
                            try clear hcz5_1
                            try clear hcz6_0
                            try clear hcz6_1
                            try clear hcz8_0
                            try clear hcz8_1
                            try clear hfz13_0
                            try clear hfz13_1
                            try clear hfz18_0
                            try clear hfz18_1
                            try clear hfz23_0
                            try clear hfz23_1
                            try clear hfz5_0
                            try clear hfz5_1
                            try clear hfz6_0
                            try clear hfz6_1
                            try clear hfz8_0
                            try clear hfz8_1
                            try clear hx221_0
                            try clear hx222_0
                            try clear hx223_0
                            try clear p2
                            try clear p221
                            try clear p222
                            try clear p223
                            try clear p6
                            try clear q2
                            try clear q221
                            try clear q222
                            try clear q223
                            obtain ⟨x71_5, rfl, HA, HK5, BK220, HB⟩ := hrel
                            cases gk with
                            | zero => exact absurd HA.out (by simp [semiring_Shape.l3])
                            | succ k5 =>
                              have H := HA.out
                              clear HA
                              simp only [semiring_Shape.l3] at H
                              by_cases c24 : x71_5 < (l0_1.length : Int)
                              · rw [if_pos c24] at H
                                have c24b0 : decide (x71_5 < (l0_1.length : Int)) = true := decide_eq_true c24
                                clear c24
                                by_cases c25 : 0 ≤ x71_5
                                · rw [if_pos c25] at H
                                  have c25b0 : decide (0 ≤ x71_5) = true := decide_eq_true c25
                                  clear c25
                                  by_cases c26 : x71_5 < (l0_1.length : Int)
                                  · rw [if_pos c26] at H
                                    have c26b0 : decide (x71_5 < (l0_1.length : Int)) = true := decide_eq_true c26
                                    clear c26
                                    have H' := Aside0.mk H
                                    clear H
                                    have p224 : 0 ≤ (x71_5 : Int) := of_decide_eq_true (by first | (with_reducible assumption) | assumption)
                                    have q224 : x71_5 < (l0_1.length : Int) := of_decide_eq_true (by first | (with_reducible assumption) | assumption)
                                    obtain ⟨ad224, A224_0, c224_0, e224, hx224_0, hl224_0, hi224_0⟩ := at_L2 HR0_1.out x71_5 p224 q224
                                    cases e224
                                    replace hx224_0 := (HB.out.cell (World.block_lt_of_cell? w _ hx224_0)).trans hx224_0
                                    have HR224_0 := Aside0.mk hi224_0
                                    have HC224_0 := Aside0.mk hl224_0
                                    clear hi224_0 hl224_0
                                    replace p224 := eq_true p224
                                    replace q224 := eq_true q224
                                    go_wp2
                                    repeat (go_quiet (fail); try go_wp2)
                                    go_loopg [78] k5 (fun kq v78 w' => ∃ (x78_6 : Int), v78 = .int .i64 x78_6 ∧ Aside0 (semiring_Shape.l4 kq x71_5 l0_1 (l0_1.length : Int) x71_5 (rd_L2 l0_1 x71_5) ((rd_L2 l0_1 x71_5).length : Int) x78_6 l0_0 l0_1 = some r) ∧ Aside0 (kq ≤ k5) ∧ Aside0 (w'.heap[gb220]? = some (.cells #[(.slice A0_0 l0_0.length c0_0), (.slice (some ad224) l0_1.length c0_1)] 37 (0, 0))) ∧ Aside0 (Below w.heap.size w w'))
                                    case atStart => exact ⟨(0), (by first | rfl | (simp; done) | (simp [*]; done)), H', ⟨Nat.le_refl _⟩, ⟨by (with_reducible repeat (first | refine blk_drewN ?_ _ | refine blk_drew ?_ | refine blk_alloc ?_ _)); exact BK220.out⟩, ⟨by repeat (first | (with_reducible first | exact HB.out | apply below_alloc | apply pw_below_drewN | apply below_drew1 | refine below_set ?_ GE220.out) | exact HB.out)⟩⟩
                                    case round =>
                                      clear H'
                                      try clear c1
                                      try clear c2
                                      try clear p2
                                      try clear q2
                                      try clear hx2
                                      try clear c4
                                      try clear c4b0
                                      try clear c4b1
                                      try clear p6
                                      try clear c7
                                      try clear c9
                                      try clear c9b0
                                      try clear c10
                                      try clear c10b0
                                      try clear c11
                                      try clear c11b0
                                      try clear c12
                                      try clear c12b0
                                      try clear c14
                                      try clear c14b0
                                      try clear c15
                                      try clear c15b0
                                      try clear c16
                                      try clear c16b0
                                      try clear c17
                                      try clear c17b0
                                      try clear c19
                                      try clear c19b0
                                      try clear c20
                                      try clear c20b0
                                      try clear c21
                                      try clear c21b0
                                      try clear c22
                                      try clear c22b0
                                      try clear p22
                                      try clear q22
                                      try clear hx22
                                      try clear c24
                                      try clear c24b0
                                      try clear c25
                                      try clear c25b0
                                      try clear c26
                                      try clear c26b0
                                      try clear hcz13_0
                                      try clear hcz13_1
                                      try clear hcz18_0
                                      try clear hcz18_1
                                      try clear hcz23_0
                                      try clear hcz23_1
                                      try clear hcz5_0
                                      try clear hcz5_1
                                      try clear hcz6_0
                                      try clear hcz6_1
                                      try clear hcz8_0
                                      try clear hcz8_1
                                      try clear hfz13_0
                                      try clear hfz13_1
                                      try clear hfz18_0
                                      try clear hfz18_1
                                      try clear hfz23_0
                                      try clear hfz23_1
                                      try clear hfz5_0
                                      try clear hfz5_1
                                      try clear hfz6_0
                                      try clear hfz6_1
                                      try clear hfz8_0
                                      try clear hfz8_1
                                      try clear hx221_0
                                      try clear hx222_0
                                      try clear hx223_0
                                      try clear hx224_0
                                      try clear p2
                                      try clear p22
                                      try clear p221
                                      try clear p222
                                      try clear p223
                                      try clear p224
                                      try clear p6
                                      try clear q2
                                      try clear q22
                                      try clear q221
                                      try clear q222
                                      try clear q223
                                      try clear q224
                                      obtain ⟨x78_6, rfl, HA, HK6, BK220, HB⟩ := hrel
                                      cases gk with
                                      | zero => exact absurd HA.out (by simp [semiring_Shape.l4])
                                      | succ k6 =>
                                        have H := HA.out
                                        clear HA
                                        simp only [semiring_Shape.l4] at H
                                        by_cases c27 : x78_6 < ((rd_L2 l0_1 x71_5).length : Int)
                                        · rw [if_pos c27] at H
                                          have c27b0 : decide (x78_6 < ((rd_L2 l0_1 x71_5).length : Int)) = true := decide_eq_true c27
                                          clear c27
                                          by_cases c28 : 0 ≤ x78_6
                                          · rw [if_pos c28] at H
                                            have c28b0 : decide (0 ≤ x78_6) = true := decide_eq_true c28
                                            clear c28
                                            by_cases c29 : x78_6 < ((rd_L2 l0_1 x71_5).length : Int)
                                            · rw [if_pos c29] at H
                                              have c29b0 : decide (x78_6 < ((rd_L2 l0_1 x71_5).length : Int)) = true := decide_eq_true c29
                                              clear c29
                                              by_cases c30 : ((rd_T124 (rd_L2 l0_1 x71_5) x78_6).f0) < 0
                                              · rw [if_pos c30] at H
                                                have c30b0 : decide (((rd_T124 (rd_L2 l0_1 x71_5) x78_6).f0) < 0) = true := decide_eq_true c30
                                                clear c30
                                                obtain rfl := Option.some.inj H
                                                have p225 : 0 ≤ (x78_6 : Int) := of_decide_eq_true (by first | (with_reducible assumption) | assumption)
                                                have q225 : x78_6 < ((rd_L2 l0_1 x71_5).length : Int) := of_decide_eq_true (by first | (with_reducible assumption) | assumption)
                                                obtain ⟨ad225, e225, hx225_0, hx225_1, hx225_2⟩ := at_T124 HR224_0.out x78_6 p225 q225
                                                cases e225
                                                replace hx225_0 := (HB.out.cell (World.block_lt_of_cell? w _ hx225_0)).trans hx225_0
                                                replace hx225_1 := (HB.out.cell (World.block_lt_of_cell? w _ hx225_1)).trans hx225_1
                                                replace hx225_2 := (HB.out.cell (World.block_lt_of_cell? w _ hx225_2)).trans hx225_2
                                                replace p225 := eq_true p225
                                                replace q225 := eq_true q225
                                                go_wp2_with (first | ((with_reducible refine gate_dst (N := 14) rfl ?_); (try (refine gate_guard (by rfl) ?_; dsimp only)); refine box_event ?hg (N := 14) ?hd (cs := #[.int .i64 0, .int .i64 0, .int .i64 0]) (t := 124) ?hr ?_; (case hd => rfl); (case hg => rfl); (case hr => first | (go_simp; done) | (go_simp; rfl)); intro gb226 hg w31 hbox hb; have n0_ := Aside0.mk (blk_below (g := gb220) (o := .cells #[.slice A0_0 l0_0.length c0_0, .slice (some ad224) l0_1.length c0_1] 37 (0, 0)) (by (with_reducible repeat (first | refine blk_drewN ?_ _ | refine blk_drew ?_ | refine blk_alloc ?_ _)); exact BK220.out) hb); have n1_ := Aside0.mk (below_step (by repeat (first | (with_reducible first | exact HB.out | apply below_alloc | apply pw_below_drewN | apply below_drew1 | refine below_set ?_ GE220.out) | exact HB.out)) hb); have n2_ := Aside0.mk (hbox); have n3_ := Aside0.mk ((by rw [hg]; exact (below_size (by repeat (first | (with_reducible first | exact HB.out | apply below_alloc | apply pw_below_drewN | apply below_drew1 | refine below_set ?_ GE220.out) | exact HB.out))) : w.heap.size ≤ gb226)); have n4_ := Aside0.mk ((by rw [hg]; exact (below_size (by repeat (first | (with_reducible first | exact HB.out | apply below_alloc | apply pw_below_drewN | apply below_drew1 | refine below_set ?_ GE220.out) | exact HB.out))) : w.heap.size ≤ gb226)); have n5_ := Aside0.mk ((by rw [hg]; exact Nat.ne_of_lt (blk_lt (g := gb220) (o := .cells #[.slice A0_0 l0_0.length c0_0, .slice (some ad224) l0_1.length c0_1] 37 (0, 0)) (by (with_reducible repeat (first | refine blk_drewN ?_ _ | refine blk_drew ?_ | refine blk_alloc ?_ _)); exact BK220.out)) : gb220 ≠ gb226)); have n6_ := Aside0.mk ((by rw [hg]; exact Nat.ne_of_gt (blk_lt (g := gb220) (o := .cells #[.slice A0_0 l0_0.length c0_0, .slice (some ad224) l0_1.length c0_1] 37 (0, 0)) (by (with_reducible repeat (first | refine blk_drewN ?_ _ | refine blk_drew ?_ | refine blk_alloc ?_ _)); exact BK220.out)) : gb226 ≠ gb220)); clear BK220; clear HB; have BK220 := n0_; have HB := n1_; have BK226 := n2_; have GW226 := n3_; have GE226 := n4_; have NB220_226 := n5_; have NB226_220 := n6_; clear n0_ n1_ n2_ n3_ n4_ n5_ n6_; clear hb hbox hg; have hnb32 := NB226_220.out; have hnc32 := NB220_226.out; have hcz33_0 : w31.cell? ⟨gb226, 0, none⟩ = some (.int .i64 0) := (blk_cell BK226.out 0).trans rfl; have hcz33_1 : w31.cell? ⟨gb226, 1, none⟩ = some (.int .i64 0) := (blk_cell BK226.out 1).trans rfl; have hcz33_2 : w31.cell? ⟨gb226, 2, none⟩ = some (.int .i64 0) := (blk_cell BK226.out 2).trans rfl; have hfz33_0 := blk_frozen BK226.out 0; have hfz33_1 := blk_frozen BK226.out 1; have hfz33_2 := blk_frozen BK226.out 2))
                                                repeat (go_quiet (first | ((with_reducible refine gate_dst (N := 14) rfl ?_); (try (refine gate_guard (by rfl) ?_; dsimp only)); refine box_event ?hg (N := 14) ?hd (cs := #[.int .i64 0, .int .i64 0, .int .i64 0]) (t := 124) ?hr ?_; (case hd => rfl); (case hg => rfl); (case hr => first | (go_simp; done) | (go_simp; rfl)); intro gb226 hg w31 hbox hb; have n0_ := Aside0.mk (blk_below (g := gb220) (o := .cells #[.slice A0_0 l0_0.length c0_0, .slice (some ad224) l0_1.length c0_1] 37 (0, 0)) (by (with_reducible repeat (first | refine blk_drewN ?_ _ | refine blk_drew ?_ | refine blk_alloc ?_ _)); exact BK220.out) hb); have n1_ := Aside0.mk (below_step (by repeat (first | (with_reducible first | exact HB.out | apply below_alloc | apply pw_below_drewN | apply below_drew1 | refine below_set ?_ GE220.out) | exact HB.out)) hb); have n2_ := Aside0.mk (hbox); have n3_ := Aside0.mk ((by rw [hg]; exact (below_size (by repeat (first | (with_reducible first | exact HB.out | apply below_alloc | apply pw_below_drewN | apply below_drew1 | refine below_set ?_ GE220.out) | exact HB.out))) : w.heap.size ≤ gb226)); have n4_ := Aside0.mk ((by rw [hg]; exact (below_size (by repeat (first | (with_reducible first | exact HB.out | apply below_alloc | apply pw_below_drewN | apply below_drew1 | refine below_set ?_ GE220.out) | exact HB.out))) : w.heap.size ≤ gb226)); have n5_ := Aside0.mk ((by rw [hg]; exact Nat.ne_of_lt (blk_lt (g := gb220) (o := .cells #[.slice A0_0 l0_0.length c0_0, .slice (some ad224) l0_1.length c0_1] 37 (0, 0)) (by (with_reducible repeat (first | refine blk_drewN ?_ _ | refine blk_drew ?_ | refine blk_alloc ?_ _)); exact BK220.out)) : gb220 ≠ gb226)); have n6_ := Aside0.mk ((by rw [hg]; exact Nat.ne_of_gt (blk_lt (g := gb220) (o := .cells #[.slice A0_0 l0_0.length c0_0, .slice (some ad224) l0_1.length c0_1] 37 (0, 0)) (by (with_reducible repeat (first | refine blk_drewN ?_ _ | refine blk_drew ?_ | refine blk_alloc ?_ _)); exact BK220.out)) : gb226 ≠ gb220)); clear BK220; clear HB; have BK220 := n0_; have HB := n1_; have BK226 := n2_; have GW226 := n3_; have GE226 := n4_; have NB220_226 := n5_; have NB226_220 := n6_; clear n0_ n1_ n2_ n3_ n4_ n5_ n6_; clear hb hbox hg; have hnb32 := NB226_220.out; have hnc32 := NB220_226.out; have hcz33_0 : w31.cell? ⟨gb226, 0, none⟩ = some (.int .i64 0) := (blk_cell BK226.out 0).trans rfl; have hcz33_1 : w31.cell? ⟨gb226, 1, none⟩ = some (.int .i64 0) := (blk_cell BK226.out 1).trans rfl; have hcz33_2 : w31.cell? ⟨gb226, 2, none⟩ = some (.int .i64 0) := (blk_cell BK226.out 2).trans rfl; have hfz33_0 := blk_frozen BK226.out 0; have hfz33_1 := blk_frozen BK226.out 1; have hfz33_2 := blk_frozen BK226.out 2)); try go_wp2_with (first | ((with_reducible refine gate_dst (N := 14) rfl ?_); (try (refine gate_guard (by rfl) ?_; dsimp only)); refine box_event ?hg (N := 14) ?hd (cs := #[.int .i64 0, .int .i64 0, .int .i64 0]) (t := 124) ?hr ?_; (case hd => rfl); (case hg => rfl); (case hr => first | (go_simp; done) | (go_simp; rfl)); intro gb226 hg w31 hbox hb; have n0_ := Aside0.mk (blk_below (g := gb220) (o := .cells #[.slice A0_0 l0_0.length c0_0, .slice (some ad224) l0_1.length c0_1] 37 (0, 0)) (by (with_reducible repeat (first | refine blk_drewN ?_ _ | refine blk_drew ?_ | refine blk_alloc ?_ _)); exact BK220.out) hb); have n1_ := Aside0.mk (below_step (by repeat (first | (with_reducible first | exact HB.out | apply below_alloc | apply pw_below_drewN | apply below_drew1 | refine below_set ?_ GE220.out) | exact HB.out)) hb); have n2_ := Aside0.mk (hbox); have n3_ := Aside0.mk ((by rw [hg]; exact (below_size (by repeat (first | (with_reducible first | exact HB.out | apply below_alloc | apply pw_below_drewN | apply below_drew1 | refine below_set ?_ GE220.out) | exact HB.out))) : w.heap.size ≤ gb226)); have n4_ := Aside0.mk ((by rw [hg]; exact (below_size (by repeat (first | (with_reducible first | exact HB.out | apply below_alloc | apply pw_below_drewN | apply below_drew1 | refine below_set ?_ GE220.out) | exact HB.out))) : w.heap.size ≤ gb226)); have n5_ := Aside0.mk ((by rw [hg]; exact Nat.ne_of_lt (blk_lt (g := gb220) (o := .cells #[.slice A0_0 l0_0.length c0_0, .slice (some ad224) l0_1.length c0_1] 37 (0, 0)) (by (with_reducible repeat (first | refine blk_drewN ?_ _ | refine blk_drew ?_ | refine blk_alloc ?_ _)); exact BK220.out)) : gb220 ≠ gb226)); have n6_ := Aside0.mk ((by rw [hg]; exact Nat.ne_of_gt (blk_lt (g := gb220) (o := .cells #[.slice A0_0 l0_0.length c0_0, .slice (some ad224) l0_1.length c0_1] 37 (0, 0)) (by (with_reducible repeat (first | refine blk_drewN ?_ _ | refine blk_drew ?_ | refine blk_alloc ?_ _)); exact BK220.out)) : gb226 ≠ gb220)); clear BK220; clear HB; have BK220 := n0_; have HB := n1_; have BK226 := n2_; have GW226 := n3_; have GE226 := n4_; have NB220_226 := n5_; have NB226_220 := n6_; clear n0_ n1_ n2_ n3_ n4_ n5_ n6_; clear hb hbox hg; have hnb32 := NB226_220.out; have hnc32 := NB220_226.out; have hcz33_0 : w31.cell? ⟨gb226, 0, none⟩ = some (.int .i64 0) := (blk_cell BK226.out 0).trans rfl; have hcz33_1 : w31.cell? ⟨gb226, 1, none⟩ = some (.int .i64 0) := (blk_cell BK226.out 1).trans rfl; have hcz33_2 : w31.cell? ⟨gb226, 2, none⟩ = some (.int .i64 0) := (blk_cell BK226.out 2).trans rfl; have hfz33_0 := blk_frozen BK226.out 0; have hfz33_1 := blk_frozen BK226.out 1; have hfz33_2 := blk_frozen BK226.out 2)))
                                                go_ret
                                                exact ⟨by first | rfl | (simp [errW_none, errW_some] <;> rfl) | (simp [*, errW_none, errW_some] <;> rfl), by repeat (first | (with_reducible first | exact HB.out | apply below_alloc | apply pw_below_drewN | apply below_drew1 | refine below_set ?_ GE220.out | refine below_set ?_ GE226.out) | exact HB.out)⟩
                                              · rw [if_neg c30] at H
                                                have c30b0 : decide (((rd_T124 (rd_L2 l0_1 x71_5) x78_6).f0) < 0) = false := decide_eq_false c30
                                                clear c30
                                                by_cases c34 : 0 ≤ x71_5
                                                · rw [if_pos c34] at H
                                                  have c34b0 : decide (0 ≤ x71_5) = true := decide_eq_true c34
                                                  clear c34
                                                  by_cases c35 : x71_5 < (l0_0.length : Int)
                                                  · rw [if_pos c35] at H
                                                    have c35b0 : decide (x71_5 < (l0_0.length : Int)) = true := decide_eq_true c35
                                                    clear c35
                                                    by_cases c36 : ((rd_T124 (rd_L2 l0_1 x71_5) x78_6).f0) ≥ (rd l0_0 x71_5)
                                                    · rw [if_pos c36] at H
                                                      have c36b0 : decide ((rd l0_0 x71_5) ≤ ((rd_T124 (rd_L2 l0_1 x71_5) x78_6).f0)) = true := decide_eq_true c36
                                                      clear c36
                                                      obtain rfl := Option.some.inj H
                                                      have p225 : 0 ≤ (x78_6 : Int) := of_decide_eq_true (by first | (with_reducible assumption) | assumption)
                                                      have q225 : x78_6 < ((rd_L2 l0_1 x71_5).length : Int) := of_decide_eq_true (by first | (with_reducible assumption) | assumption)
                                                      obtain ⟨ad225, e225, hx225_0, hx225_1, hx225_2⟩ := at_T124 HR224_0.out x78_6 p225 q225
                                                      cases e225
                                                      replace hx225_0 := (HB.out.cell (World.block_lt_of_cell? w _ hx225_0)).trans hx225_0
                                                      replace hx225_1 := (HB.out.cell (World.block_lt_of_cell? w _ hx225_1)).trans hx225_1
                                                      replace hx225_2 := (HB.out.cell (World.block_lt_of_cell? w _ hx225_2)).trans hx225_2
                                                      replace p225 := eq_true p225
                                                      replace q225 := eq_true q225
                                                      go_wp2_with (first | ((with_reducible refine gate_dst (N := 14) rfl ?_); (try (refine gate_guard (by rfl) ?_; dsimp only)); refine box_event ?hg (N := 14) ?hd (cs := #[.int .i64 0, .int .i64 0, .int .i64 0]) (t := 124) ?hr ?_; (case hd => rfl); (case hg => rfl); (case hr => first | (go_simp; done) | (go_simp; rfl)); intro gb226 hg w37 hbox hb; have n0_ := Aside0.mk (blk_below (g := gb220) (o := .cells #[.slice A0_0 l0_0.length c0_0, .slice (some ad224) l0_1.length c0_1] 37 (0, 0)) (by (with_reducible repeat (first | refine blk_drewN ?_ _ | refine blk_drew ?_ | refine blk_alloc ?_ _)); exact BK220.out) hb); have n1_ := Aside0.mk (below_step (by repeat (first | (with_reducible first | exact HB.out | apply below_alloc | apply pw_below_drewN | apply below_drew1 | refine below_set ?_ GE220.out) | exact HB.out)) hb); have n2_ := Aside0.mk (hbox); have n3_ := Aside0.mk ((by rw [hg]; exact (below_size (by repeat (first | (with_reducible first | exact HB.out | apply below_alloc | apply pw_below_drewN | apply below_drew1 | refine below_set ?_ GE220.out) | exact HB.out))) : w.heap.size ≤ gb226)); have n4_ := Aside0.mk ((by rw [hg]; exact (below_size (by repeat (first | (with_reducible first | exact HB.out | apply below_alloc | apply pw_below_drewN | apply below_drew1 | refine below_set ?_ GE220.out) | exact HB.out))) : w.heap.size ≤ gb226)); have n5_ := Aside0.mk ((by rw [hg]; exact Nat.ne_of_lt (blk_lt (g := gb220) (o := .cells #[.slice A0_0 l0_0.length c0_0, .slice (some ad224) l0_1.length c0_1] 37 (0, 0)) (by (with_reducible repeat (first | refine blk_drewN ?_ _ | refine blk_drew ?_ | refine blk_alloc ?_ _)); exact BK220.out)) : gb220 ≠ gb226)); have n6_ := Aside0.mk ((by rw [hg]; exact Nat.ne_of_gt (blk_lt (g := gb220) (o := .cells #[.slice A0_0 l0_0.length c0_0, .slice (some ad224) l0_1.length c0_1] 37 (0, 0)) (by (with_reducible repeat (first | refine blk_drewN ?_ _ | refine blk_drew ?_ | refine blk_alloc ?_ _)); exact BK220.out)) : gb226 ≠ gb220)); clear BK220; clear HB; have BK220 := n0_; have HB := n1_; have BK226 := n2_; have GW226 := n3_; have GE226 := n4_; have NB220_226 := n5_; have NB226_220 := n6_; clear n0_ n1_ n2_ n3_ n4_ n5_ n6_; clear hb hbox hg; have hnb38 := NB226_220.out; have hnc38 := NB220_226.out; have hcz39_0 : w37.cell? ⟨gb226, 0, none⟩ = some (.int .i64 0) := (blk_cell BK226.out 0).trans rfl; have hcz39_1 : w37.cell? ⟨gb226, 1, none⟩ = some (.int .i64 0) := (blk_cell BK226.out 1).trans rfl; have hcz39_2 : w37.cell? ⟨gb226, 2, none⟩ = some (.int .i64 0) := (blk_cell BK226.out 2).trans rfl; have hfz39_0 := blk_frozen BK226.out 0; have hfz39_1 := blk_frozen BK226.out 1; have hfz39_2 := blk_frozen BK226.out 2; have hcz40_0 : w37.cell? ⟨gb220, 0, none⟩ = some (.slice A0_0 l0_0.length c0_0) := (blk_cell BK220.out 0).trans rfl; have hcz40_1 : w37.cell? ⟨gb220, 1, none⟩ = some (.slice (some ad224) l0_1.length c0_1) := (blk_cell BK220.out 1).trans rfl; have hfz40_0 := blk_frozen BK220.out 0; have hfz40_1 := blk_frozen BK220.out 1; have p227 : 0 ≤ (x71_5 : Int) := of_decide_eq_true (by first | (with_reducible assumption) | assumption); have q227 : x71_5 < (l0_0.length : Int) := of_decide_eq_true (by first | (with_reducible assumption) | assumption); obtain ⟨ad227, e227, hx227_0⟩ := Kd.at_int HR0_0.out x71_5 p227 q227; cases e227; have hn227_0 : ad227.block ≠ gb226 := Nat.ne_of_lt (Nat.lt_of_lt_of_le (by have := World.block_lt_of_cell? _ _ hx227_0; first | rwa [add_block] at this | exact this) GW226.out); have hn227_1 : ad227.block ≠ gb226 := Nat.ne_of_lt (Nat.lt_of_lt_of_le (by have := World.block_lt_of_cell? _ _ hx227_0; first | rwa [add_block] at this | exact this) GW226.out); have hn227_2 : ad227.block ≠ gb226 := Nat.ne_of_lt (Nat.lt_of_lt_of_le (by have := World.block_lt_of_cell? _ _ hx227_0; first | rwa [add_block] at this | exact this) GW226.out); replace hx227_0 := (HB.out.cell (World.block_lt_of_cell? w _ hx227_0)).trans hx227_0; replace hx227_0 := (cell_far (p := ⟨gb226, 0, none⟩) (by first | (rw [add_block]; exact hn227_0) | (show (Addr.add _ _).block ≠ _; rw [add_block]; exact hn227_0) | exact hn227_0) (.int .i64 ((rd_T124 (rd_L2 l0_1 x71_5) x78_6).f0))).trans hx227_0; replace hx227_0 := (cell_far (p := ⟨gb226, 1, none⟩) (by first | (rw [add_block]; exact hn227_1) | (show (Addr.add _ _).block ≠ _; rw [add_block]; exact hn227_1) | exact hn227_1) (.int .i64 ((rd_T124 (rd_L2 l0_1 x71_5) x78_6).f1))).trans hx227_0; replace hx227_0 := (cell_far (p := ⟨gb226, 2, none⟩) (by first | (rw [add_block]; exact hn227_2) | (show (Addr.add _ _).block ≠ _; rw [add_block]; exact hn227_2) | exact hn227_2) (.int .i64 ((rd_T124 (rd_L2 l0_1 x71_5) x78_6).f2))).trans hx227_0; (try have hy227_0 := fun (n_ : Nat) => (show (((((w37.drewN n_).setCell ⟨gb226, 0, none⟩ (.int .i64 ((rd_T124 (rd_L2 l0_1 x71_5) x78_6).f0))).setCell ⟨gb226, 1, none⟩ (.int .i64 ((rd_T124 (rd_L2 l0_1 x71_5) x78_6).f1))).setCell ⟨gb226, 2, none⟩ (.int .i64 ((rd_T124 (rd_L2 l0_1 x71_5) x78_6).f2)))).cell? _ = some _ from hx227_0)); clear hn227_0; clear hn227_1; clear hn227_2; replace p227 := eq_true p227; replace q227 := eq_true q227))
                                                      repeat (go_quiet (first | ((with_reducible refine gate_dst (N := 14) rfl ?_); (try (refine gate_guard (by rfl) ?_; dsimp only)); refine box_event ?hg (N := 14) ?hd (cs := #[.int .i64 0, .int .i64 0, .int .i64 0]) (t := 124) ?hr ?_; (case hd => rfl); (case hg => rfl); (case hr => first | (go_simp; done) | (go_simp; rfl)); intro gb226 hg w37 hbox hb; have n0_ := Aside0.mk (blk_below (g := gb220) (o := .cells #[.slice A0_0 l0_0.length c0_0, .slice (some ad224) l0_1.length c0_1] 37 (0, 0)) (by (with_reducible repeat (first | refine blk_drewN ?_ _ | refine blk_drew ?_ | refine blk_alloc ?_ _)); exact BK220.out) hb); have n1_ := Aside0.mk (below_step (by repeat (first | (with_reducible first | exact HB.out | apply below_alloc | apply pw_below_drewN | apply below_drew1 | refine below_set ?_ GE220.out) | exact HB.out)) hb); have n2_ := Aside0.mk (hbox); have n3_ := Aside0.mk ((by rw [hg]; exact (below_size (by repeat (first | (with_reducible first | exact HB.out | apply below_alloc | apply pw_below_drewN | apply below_drew1 | refine below_set ?_ GE220.out) | exact HB.out))) : w.heap.size ≤ gb226)); have n4_ := Aside0.mk ((by rw [hg]; exact (below_size (by repeat (first | (with_reducible first | exact HB.out | apply below_alloc | apply pw_below_drewN | apply below_drew1 | refine below_set ?_ GE220.out) | exact HB.out))) : w.heap.size ≤ gb226)); have n5_ := Aside0.mk ((by rw [hg]; exact Nat.ne_of_lt (blk_lt (g := gb220) (o := .cells #[.slice A0_0 l0_0.length c0_0, .slice (some ad224) l0_1.length c0_1] 37 (0, 0)) (by (with_reducible repeat (first | refine blk_drewN ?_ _ | refine blk_drew ?_ | refine blk_alloc ?_ _)); exact BK220.out)) : gb220 ≠ gb226)); have n6_ := Aside0.mk ((by rw [hg]; exact Nat.ne_of_gt (blk_lt (g := gb220) (o := .cells #[.slice A0_0 l0_0.length c0_0, .slice (some ad224) l0_1.length c0_1] 37 (0, 0)) (by (with_reducible repeat (first | refine blk_drewN ?_ _ | refine blk_drew ?_ | refine blk_alloc ?_ _)); exact BK220.out)) : gb226 ≠ gb220)); clear BK220; clear HB; have BK220 := n0_; have HB := n1_; have BK226 := n2_; have GW226 := n3_; have GE226 := n4_; have NB220_226 := n5_; have NB226_220 := n6_; clear n0_ n1_ n2_ n3_ n4_ n5_ n6_; clear hb hbox hg; have hnb38 := NB226_220.out; have hnc38 := NB220_226.out; have hcz39_0 : w37.cell? ⟨gb226, 0, none⟩ = some (.int .i64 0) := (blk_cell BK226.out 0).trans rfl; have hcz39_1 : w37.cell? ⟨gb226, 1, none⟩ = some (.int .i64 0) := (blk_cell BK226.out 1).trans rfl; have hcz39_2 : w37.cell? ⟨gb226, 2, none⟩ = some (.int .i64 0) := (blk_cell BK226.out 2).trans rfl; have hfz39_0 := blk_frozen BK226.out 0; have hfz39_1 := blk_frozen BK226.out 1; have hfz39_2 := blk_frozen BK226.out 2; have hcz40_0 : w37.cell? ⟨gb220, 0, none⟩ = some (.slice A0_0 l0_0.length c0_0) := (blk_cell BK220.out 0).trans rfl; have hcz40_1 : w37.cell? ⟨gb220, 1, none⟩ = some (.slice (some ad224) l0_1.length c0_1) := (blk_cell BK220.out 1).trans rfl; have hfz40_0 := blk_frozen BK220.out 0; have hfz40_1 := blk_frozen BK220.out 1; have p227 : 0 ≤ (x71_5 : Int) := of_decide_eq_true (by first | (with_reducible assumption) | assumption); have q227 : x71_5 < (l0_0.length : Int) := of_decide_eq_true (by first | (with_reducible assumption) | assumption); obtain ⟨ad227, e227, hx227_0⟩ := Kd.at_int HR0_0.out x71_5 p227 q227; cases e227; have hn227_0 : ad227.block ≠ gb226 := Nat.ne_of_lt (Nat.lt_of_lt_of_le (by have := World.block_lt_of_cell? _ _ hx227_0; first | rwa [add_block] at this | exact this) GW226.out); have hn227_1 : ad227.block ≠ gb226 := Nat.ne_of_lt (Nat.lt_of_lt_of_le (by have := World.block_lt_of_cell? _ _ hx227_0; first | rwa [add_block] at this | exact this) GW226.out); have hn227_2 : ad227.block ≠ gb226 := Nat.ne_of_lt (Nat.lt_of_lt_of_le (by have := World.block_lt_of_cell? _ _ hx227_0; first | rwa [add_block] at this | exact this) GW226.out); replace hx227_0 := (HB.out.cell (World.block_lt_of_cell? w _ hx227_0)).trans hx227_0; replace hx227_0 := (cell_far (p := ⟨gb226, 0, none⟩) (by first | (rw [add_block]; exact hn227_0) | (show (Addr.add _ _).block ≠ _; rw [add_block]; exact hn227_0) | exact hn227_0) (.int .i64 ((rd_T124 (rd_L2 l0_1 x71_5) x78_6).f0))).trans hx227_0; replace hx227_0 := (cell_far (p := ⟨gb226, 1, none⟩) (by first | (rw [add_block]; exact hn227_1) | (show (Addr.add _ _).block ≠ _; rw [add_block]; exact hn227_1) | exact hn227_1) (.int .i64 ((rd_T124 (rd_L2 l0_1 x71_5) x78_6).f1))).trans hx227_0; replace hx227_0 := (cell_far (p := ⟨gb226, 2, none⟩) (by first | (rw [add_block]; exact hn227_2) | (show (Addr.add _ _).block ≠ _; rw [add_block]; exact hn227_2) | exact hn227_2) (.int .i64 ((rd_T124 (rd_L2 l0_1 x71_5) x78_6).f2))).trans hx227_0; (try have hy227_0 := fun (n_ : Nat) => (show (((((w37.drewN n_).setCell ⟨gb226, 0, none⟩ (.int .i64 ((rd_T124 (rd_L2 l0_1 x71_5) x78_6).f0))).setCell ⟨gb226, 1, none⟩ (.int .i64 ((rd_T124 (rd_L2 l0_1 x71_5) x78_6).f1))).setCell ⟨gb226, 2, none⟩ (.int .i64 ((rd_T124 (rd_L2 l0_1 x71_5) x78_6).f2)))).cell? _ = some _ from hx227_0)); clear hn227_0; clear hn227_1; clear hn227_2; replace p227 := eq_true p227; replace q227 := eq_true q227)); try go_wp2_with (first | ((with_reducible refine gate_dst (N := 14) rfl ?_); (try (refine gate_guard (by rfl) ?_; dsimp only)); refine box_event ?hg (N := 14) ?hd (cs := #[.int .i64 0, .int .i64 0, .int .i64 0]) (t := 124) ?hr ?_; (case hd => rfl); (case hg => rfl); (case hr => first | (go_simp; done) | (go_simp; rfl)); intro gb226 hg w37 hbox hb; have n0_ := Aside0.mk (blk_below (g := gb220) (o := .cells #[.slice A0_0 l0_0.length c0_0, .slice (some ad224) l0_1.length c0_1] 37 (0, 0)) (by (with_reducible repeat (first | refine blk_drewN ?_ _ | refine blk_drew ?_ | refine blk_alloc ?_ _)); exact BK220.out) hb); have n1_ := Aside0.mk (below_step (by repeat (first | (with_reducible first | exact HB.out | apply below_alloc | apply pw_below_drewN | apply below_drew1 | refine below_set ?_ GE220.out) | exact HB.out)) hb); have n2_ := Aside0.mk (hbox); have n3_ := Aside0.mk ((by rw [hg]; exact (below_size (by repeat (first | (with_reducible first | exact HB.out | apply below_alloc | apply pw_below_drewN | apply below_drew1 | refine below_set ?_ GE220.out) | exact HB.out))) : w.heap.size ≤ gb226)); have n4_ := Aside0.mk ((by rw [hg]; exact (below_size (by repeat (first | (with_reducible first | exact HB.out | apply below_alloc | apply pw_below_drewN | apply below_drew1 | refine below_set ?_ GE220.out) | exact HB.out))) : w.heap.size ≤ gb226)); have n5_ := Aside0.mk ((by rw [hg]; exact Nat.ne_of_lt (blk_lt (g := gb220) (o := .cells #[.slice A0_0 l0_0.length c0_0, .slice (some ad224) l0_1.length c0_1] 37 (0, 0)) (by (with_reducible repeat (first | refine blk_drewN ?_ _ | refine blk_drew ?_ | refine blk_alloc ?_ _)); exact BK220.out)) : gb220 ≠ gb226)); have n6_ := Aside0.mk ((by rw [hg]; exact Nat.ne_of_gt (blk_lt (g := gb220) (o := .cells #[.slice A0_0 l0_0.length c0_0, .slice (some ad224) l0_1.length c0_1] 37 (0, 0)) (by (with_reducible repeat (first | refine blk_drewN ?_ _ | refine blk_drew ?_ | refine blk_alloc ?_ _)); exact BK220.out)) : gb226 ≠ gb220)); clear BK220; clear HB; have BK220 := n0_; have HB := n1_; have BK226 := n2_; have GW226 := n3_; have GE226 := n4_; have NB220_226 := n5_; have NB226_220 := n6_; clear n0_ n1_ n2_ n3_ n4_ n5_ n6_; clear hb hbox hg; have hnb38 := NB226_220.out; have hnc38 := NB220_226.out; have hcz39_0 : w37.cell? ⟨gb226, 0, none⟩ = some (.int .i64 0) := (blk_cell BK226.out 0).trans rfl; have hcz39_1 : w37.cell? ⟨gb226, 1, none⟩ = some (.int .i64 0) := (blk_cell BK226.out 1).trans rfl; have hcz39_2 : w37.cell? ⟨gb226, 2, none⟩ = some (.int .i64 0) := (blk_cell BK226.out 2).trans rfl; have hfz39_0 := blk_frozen BK226.out 0; have hfz39_1 := blk_frozen BK226.out 1; have hfz39_2 := blk_frozen BK226.out 2; have hcz40_0 : w37.cell? ⟨gb220, 0, none⟩ = some (.slice A0_0 l0_0.length c0_0) := (blk_cell BK220.out 0).trans rfl; have hcz40_1 : w37.cell? ⟨gb220, 1, none⟩ = some (.slice (some ad224) l0_1.length c0_1) := (blk_cell BK220.out 1).trans rfl; have hfz40_0 := blk_frozen BK220.out 0; have hfz40_1 := blk_frozen BK220.out 1; have p227 : 0 ≤ (x71_5 : Int) := of_decide_eq_true (by first | (with_reducible assumption) | assumption); have q227 : x71_5 < (l0_0.length : Int) := of_decide_eq_true (by first | (with_reducible assumption) | assumption); obtain ⟨ad227, e227, hx227_0⟩ := Kd.at_int HR0_0.out x71_5 p227 q227; cases e227; have hn227_0 : ad227.block ≠ gb226 := Nat.ne_of_lt (Nat.lt_of_lt_of_le (by have := World.block_lt_of_cell? _ _ hx227_0; first | rwa [add_block] at this | exact this) GW226.out); have hn227_1 : ad227.block ≠ gb226 := Nat.ne_of_lt (Nat.lt_of_lt_of_le (by have := World.block_lt_of_cell? _ _ hx227_0; first | rwa [add_block] at this | exact this) GW226.out); have hn227_2 : ad227.block ≠ gb226 := Nat.ne_of_lt (Nat.lt_of_lt_of_le (by have := World.block_lt_of_cell? _ _ hx227_0; first | rwa [add_block] at this | exact this) GW226.out); replace hx227_0 := (HB.out.cell (World.block_lt_of_cell? w _ hx227_0)).trans hx227_0; replace hx227_0 := (cell_far (p := ⟨gb226, 0, none⟩) (by first | (rw [add_block]; exact hn227_0) | (show (Addr.add _ _).block ≠ _; rw [add_block]; exact hn227_0) | exact hn227_0) (.int .i64 ((rd_T124 (rd_L2 l0_1 x71_5) x78_6).f0))).trans hx227_0; replace hx227_0 := (cell_far (p := ⟨gb226, 1, none⟩) (by first | (rw [add_block]; exact hn227_1) | (show (Addr.add _ _).block ≠ _; rw [add_block]; exact hn227_1) | exact hn227_1) (.int .i64 ((rd_T124 (rd_L2 l0_1 x71_5) x78_6).f1))).trans hx227_0; replace hx227_0 := (cell_far (p := ⟨gb226, 2, none⟩) (by first | (rw [add_block]; exact hn227_2) | (show (Addr.add _ _).block ≠ _; rw [add_block]; exact hn227_2) | exact hn227_2) (.int .i64 ((rd_T124 (rd_L2 l0_1 x71_5) x78_6).f2))).trans hx227_0; (try have hy227_0 := fun (n_ : Nat) => (show (((((w37.drewN n_).setCell ⟨gb226, 0, none⟩ (.int .i64 ((rd_T124 (rd_L2 l0_1 x71_5) x78_6).f0))).setCell ⟨gb226, 1, none⟩ (.int .i64 ((rd_T124 (rd_L2 l0_1 x71_5) x78_6).f1))).setCell ⟨gb226, 2, none⟩ (.int .i64 ((rd_T124 (rd_L2 l0_1 x71_5) x78_6).f2)))).cell? _ = some _ from hx227_0)); clear hn227_0; clear hn227_1; clear hn227_2; replace p227 := eq_true p227; replace q227 := eq_true q227)))
                                                      go_ret
                                                      exact ⟨by first | rfl | (simp [errW_none, errW_some] <;> rfl) | (simp [*, errW_none, errW_some] <;> rfl), by repeat (first | (with_reducible first | exact HB.out | apply below_alloc | apply pw_below_drewN | apply below_drew1 | refine below_set ?_ GE220.out | refine below_set ?_ GE226.out) | exact HB.out)⟩
                                                    · rw [if_neg c36] at H
                                                      have c36b0 : decide ((rd l0_0 x71_5) ≤ ((rd_T124 (rd_L2 l0_1 x71_5) x78_6).f0)) = false := decide_eq_false c36
                                                      clear c36
                                                      by_cases c41 : ((rd_T124 (rd_L2 l0_1 x71_5) x78_6).f2) < 0
                                                      · rw [if_pos c41] at H
                                                        have c41b0 : decide (((rd_T124 (rd_L2 l0_1 x71_5) x78_6).f2) < 0) = true := decide_eq_true c41
                                                        clear c41
                                                        obtain rfl := Option.some.inj H
                                                        have p225 : 0 ≤ (x78_6 : Int) := of_decide_eq_true (by first | (with_reducible assumption) | assumption)
                                                        have q225 : x78_6 < ((rd_L2 l0_1 x71_5).length : Int) := of_decide_eq_true (by first | (with_reducible assumption) | assumption)
                                                        obtain ⟨ad225, e225, hx225_0, hx225_1, hx225_2⟩ := at_T124 HR224_0.out x78_6 p225 q225
                                                        cases e225
                                                        replace hx225_0 := (HB.out.cell (World.block_lt_of_cell? w _ hx225_0)).trans hx225_0
                                                        replace hx225_1 := (HB.out.cell (World.block_lt_of_cell? w _ hx225_1)).trans hx225_1
                                                        replace hx225_2 := (HB.out.cell (World.block_lt_of_cell? w _ hx225_2)).trans hx225_2
                                                        replace p225 := eq_true p225
                                                        replace q225 := eq_true q225
                                                        go_wp2_with (first | ((with_reducible refine gate_dst (N := 14) rfl ?_); (try (refine gate_guard (by rfl) ?_; dsimp only)); refine box_event ?hg (N := 14) ?hd (cs := #[.int .i64 0, .int .i64 0, .int .i64 0]) (t := 124) ?hr ?_; (case hd => rfl); (case hg => rfl); (case hr => first | (go_simp; done) | (go_simp; rfl)); intro gb226 hg w42 hbox hb; have n0_ := Aside0.mk (blk_below (g := gb220) (o := .cells #[.slice A0_0 l0_0.length c0_0, .slice (some ad224) l0_1.length c0_1] 37 (0, 0)) (by (with_reducible repeat (first | refine blk_drewN ?_ _ | refine blk_drew ?_ | refine blk_alloc ?_ _)); exact BK220.out) hb); have n1_ := Aside0.mk (below_step (by repeat (first | (with_reducible first | exact HB.out | apply below_alloc | apply pw_below_drewN | apply below_drew1 | refine below_set ?_ GE220.out) | exact HB.out)) hb); have n2_ := Aside0.mk (hbox); have n3_ := Aside0.mk ((by rw [hg]; exact (below_size (by repeat (first | (with_reducible first | exact HB.out | apply below_alloc | apply pw_below_drewN | apply below_drew1 | refine below_set ?_ GE220.out) | exact HB.out))) : w.heap.size ≤ gb226)); have n4_ := Aside0.mk ((by rw [hg]; exact (below_size (by repeat (first | (with_reducible first | exact HB.out | apply below_alloc | apply pw_below_drewN | apply below_drew1 | refine below_set ?_ GE220.out) | exact HB.out))) : w.heap.size ≤ gb226)); have n5_ := Aside0.mk ((by rw [hg]; exact Nat.ne_of_lt (blk_lt (g := gb220) (o := .cells #[.slice A0_0 l0_0.length c0_0, .slice (some ad224) l0_1.length c0_1] 37 (0, 0)) (by (with_reducible repeat (first | refine blk_drewN ?_ _ | refine blk_drew ?_ | refine blk_alloc ?_ _)); exact BK220.out)) : gb220 ≠ gb226)); have n6_ := Aside0.mk ((by rw [hg]; exact Nat.ne_of_gt (blk_lt (g := gb220) (o := .cells #[.slice A0_0 l0_0.length c0_0, .slice (some ad224) l0_1.length c0_1] 37 (0, 0)) (by (with_reducible repeat (first | refine blk_drewN ?_ _ | refine blk_drew ?_ | refine blk_alloc ?_ _)); exact BK220.out)) : gb226 ≠ gb220)); clear BK220; clear HB; have BK220 := n0_; have HB := n1_; have BK226 := n2_; have GW226 := n3_; have GE226 := n4_; have NB220_226 := n5_; have NB226_220 := n6_; clear n0_ n1_ n2_ n3_ n4_ n5_ n6_; clear hb hbox hg; have hnb43 := NB226_220.out; have hnc43 := NB220_226.out; have hcz44_0 : w42.cell? ⟨gb226, 0, none⟩ = some (.int .i64 0) := (blk_cell BK226.out 0).trans rfl; have hcz44_1 : w42.cell? ⟨gb226, 1, none⟩ = some (.int .i64 0) := (blk_cell BK226.out 1).trans rfl; have hcz44_2 : w42.cell? ⟨gb226, 2, none⟩ = some (.int .i64 0) := (blk_cell BK226.out 2).trans rfl; have hfz44_0 := blk_frozen BK226.out 0; have hfz44_1 := blk_frozen BK226.out 1; have hfz44_2 := blk_frozen BK226.out 2; have hcz45_0 : w42.cell? ⟨gb220, 0, none⟩ = some (.slice A0_0 l0_0.length c0_0) := (blk_cell BK220.out 0).trans rfl; have hcz45_1 : w42.cell? ⟨gb220, 1, none⟩ = some (.slice (some ad224) l0_1.length c0_1) := (blk_cell BK220.out 1).trans rfl; have hfz45_0 := blk_frozen BK220.out 0; have hfz45_1 := blk_frozen BK220.out 1; have p227 : 0 ≤ (x71_5 : Int) := of_decide_eq_true (by first | (with_reducible assumption) | assumption); have q227 : x71_5 < (l0_0.length : Int) := of_decide_eq_true (by first | (with_reducible assumption) | assumption); obtain ⟨ad227, e227, hx227_0⟩ := Kd.at_int HR0_0.out x71_5 p227 q227; cases e227; have hn227_0 : ad227.block ≠ gb226 := Nat.ne_of_lt (Nat.lt_of_lt_of_le (by have := World.block_lt_of_cell? _ _ hx227_0; first | rwa [add_block] at this | exact this) GW226.out); have hn227_1 : ad227.block ≠ gb226 := Nat.ne_of_lt (Nat.lt_of_lt_of_le (by have := World.block_lt_of_cell? _ _ hx227_0; first | rwa [add_block] at this | exact this) GW226.out); have hn227_2 : ad227.block ≠ gb226 := Nat.ne_of_lt (Nat.lt_of_lt_of_le (by have := World.block_lt_of_cell? _ _ hx227_0; first | rwa [add_block] at this | exact this) GW226.out); replace hx227_0 := (HB.out.cell (World.block_lt_of_cell? w _ hx227_0)).trans hx227_0; replace hx227_0 := (cell_far (p := ⟨gb226, 0, none⟩) (by first | (rw [add_block]; exact hn227_0) | (show (Addr.add _ _).block ≠ _; rw [add_block]; exact hn227_0) | exact hn227_0) (.int .i64 ((rd_T124 (rd_L2 l0_1 x71_5) x78_6).f0))).trans hx227_0; replace hx227_0 := (cell_far (p := ⟨gb226, 1, none⟩) (by first | (rw [add_block]; exact hn227_1) | (show (Addr.add _ _).block ≠ _; rw [add_block]; exact hn227_1) | exact hn227_1) (.int .i64 ((rd_T124 (rd_L2 l0_1 x71_5) x78_6).f1))).trans hx227_0; replace hx227_0 := (cell_far (p := ⟨gb226, 2, none⟩) (by first | (rw [add_block]; exact hn227_2) | (show (Addr.add _ _).block ≠ _; rw [add_block]; exact hn227_2) | exact hn227_2) (.int .i64 ((rd_T124 (rd_L2 l0_1 x71_5) x78_6).f2))).trans hx227_0; (try have hy227_0 := fun (n_ : Nat) => (show (((((w42.drewN n_).setCell ⟨gb226, 0, none⟩ (.int .i64 ((rd_T124 (rd_L2 l0_1 x71_5) x78_6).f0))).setCell ⟨gb226, 1, none⟩ (.int .i64 ((rd_T124 (rd_L2 l0_1 x71_5) x78_6).f1))).setCell ⟨gb226, 2, none⟩ (.int .i64 ((rd_T124 (rd_L2 l0_1 x71_5) x78_6).f2)))).cell? _ = some _ from hx227_0)); clear hn227_0; clear hn227_1; clear hn227_2; replace p227 := eq_true p227; replace q227 := eq_true q227))
                                                        repeat (go_quiet (first | ((with_reducible refine gate_dst (N := 14) rfl ?_); (try (refine gate_guard (by rfl) ?_; dsimp only)); refine box_event ?hg (N := 14) ?hd (cs := #[.int .i64 0, .int .i64 0, .int .i64 0]) (t := 124) ?hr ?_; (case hd => rfl); (case hg => rfl); (case hr => first | (go_simp; done) | (go_simp; rfl)); intro gb226 hg w42 hbox hb; have n0_ := Aside0.mk (blk_below (g := gb220) (o := .cells #[.slice A0_0 l0_0.length c0_0, .slice (some ad224) l0_1.length c0_1] 37 (0, 0)) (by (with_reducible repeat (first | refine blk_drewN ?_ _ | refine blk_drew ?_ | refine blk_alloc ?_ _)); exact BK220.out) hb); have n1_ := Aside0.mk (below_step (by repeat (first | (with_reducible first | exact HB.out | apply below_alloc | apply pw_below_drewN | apply below_drew1 | refine below_set ?_ GE220.out) | exact HB.out)) hb); have n2_ := Aside0.mk (hbox); have n3_ := Aside0.mk ((by rw [hg]; exact (below_size (by repeat (first | (with_reducible first | exact HB.out | apply below_alloc | apply pw_below_drewN | apply below_drew1 | refine below_set ?_ GE220.out) | exact HB.out))) : w.heap.size ≤ gb226)); have n4_ := Aside0.mk ((by rw [hg]; exact (below_size (by repeat (first | (with_reducible first | exact HB.out | apply below_alloc | apply pw_below_drewN | apply below_drew1 | refine below_set ?_ GE220.out) | exact HB.out))) : w.heap.size ≤ gb226)); have n5_ := Aside0.mk ((by rw [hg]; exact Nat.ne_of_lt (blk_lt (g := gb220) (o := .cells #[.slice A0_0 l0_0.length c0_0, .slice (some ad224) l0_1.length c0_1] 37 (0, 0)) (by (with_reducible repeat (first | refine blk_drewN ?_ _ | refine blk_drew ?_ | refine blk_alloc ?_ _)); exact BK220.out)) : gb220 ≠ gb226)); have n6_ := Aside0.mk ((by rw [hg]; exact Nat.ne_of_gt (blk_lt (g := gb220) (o := .cells #[.slice A0_0 l0_0.length c0_0, .slice (some ad224) l0_1.length c0_1] 37 (0, 0)) (by (with_reducible repeat (first | refine blk_drewN ?_ _ | refine blk_drew ?_ | refine blk_alloc ?_ _)); exact BK220.out)) : gb226 ≠ gb220)); clear BK220; clear HB; have BK220 := n0_; have HB := n1_; have BK226 := n2_; have GW226 := n3_; have GE226 := n4_; have NB220_226 := n5_; have NB226_220 := n6_; clear n0_ n1_ n2_ n3_ n4_ n5_ n6_; clear hb hbox hg; have hnb43 := NB226_220.out; have hnc43 := NB220_226.out; have hcz44_0 : w42.cell? ⟨gb226, 0, none⟩ = some (.int .i64 0) := (blk_cell BK226.out 0).trans rfl; have hcz44_1 : w42.cell? ⟨gb226, 1, none⟩ = some (.int .i64 0) := (blk_cell BK226.out 1).trans rfl; have hcz44_2 : w42.cell? ⟨gb226, 2, none⟩ = some (.int .i64 0) := (blk_cell BK226.out 2).trans rfl; have hfz44_0 := blk_frozen BK226.out 0; have hfz44_1 := blk_frozen BK226.out 1; have hfz44_2 := blk_frozen BK226.out 2; have hcz45_0 : w42.cell? ⟨gb220, 0, none⟩ = some (.slice A0_0 l0_0.length c0_0) := (blk_cell BK220.out 0).trans rfl; have hcz45_1 : w42.cell? ⟨gb220, 1, none⟩ = some (.slice (some ad224) l0_1.length c0_1) := (blk_cell BK220.out 1).trans rfl; have hfz45_0 := blk_frozen BK220.out 0; have hfz45_1 := blk_frozen BK220.out 1; have p227 : 0 ≤ (x71_5 : Int) := of_decide_eq_true (by first | (with_reducible assumption) | assumption); have q227 : x71_5 < (l0_0.length : Int) := of_decide_eq_true (by first | (with_reducible assumption) | assumption); obtain ⟨ad227, e227, hx227_0⟩ := Kd.at_int HR0_0.out x71_5 p227 q227; cases e227; have hn227_0 : ad227.block ≠ gb226 := Nat.ne_of_lt (Nat.lt_of_lt_of_le (by have := World.block_lt_of_cell? _ _ hx227_0; first | rwa [add_block] at this | exact this) GW226.out); have hn227_1 : ad227.block ≠ gb226 := Nat.ne_of_lt (Nat.lt_of_lt_of_le (by have := World.block_lt_of_cell? _ _ hx227_0; first | rwa [add_block] at this | exact this) GW226.out); have hn227_2 : ad227.block ≠ gb226 := Nat.ne_of_lt (Nat.lt_of_lt_of_le (by have := World.block_lt_of_cell? _ _ hx227_0; first | rwa [add_block] at this | exact this) GW226.out); replace hx227_0 := (HB.out.cell (World.block_lt_of_cell? w _ hx227_0)).trans hx227_0; replace hx227_0 := (cell_far (p := ⟨gb226, 0, none⟩) (by first | (rw [add_block]; exact hn227_0) | (show (Addr.add _ _).block ≠ _; rw [add_block]; exact hn227_0) | exact hn227_0) (.int .i64 ((rd_T124 (rd_L2 l0_1 x71_5) x78_6).f0))).trans hx227_0; replace hx227_0 := (cell_far (p := ⟨gb226, 1, none⟩) (by first | (rw [add_block]; exact hn227_1) | (show (Addr.add _ _).block ≠ _; rw [add_block]; exact hn227_1) | exact hn227_1) (.int .i64 ((rd_T124 (rd_L2 l0_1 x71_5) x78_6).f1))).trans hx227_0; replace hx227_0 := (cell_far (p := ⟨gb226, 2, none⟩) (by first | (rw [add_block]; exact hn227_2) | (show (Addr.add _ _).block ≠ _; rw [add_block]; exact hn227_2) | exact hn227_2) (.int .i64 ((rd_T124 (rd_L2 l0_1 x71_5) x78_6).f2))).trans hx227_0; (try have hy227_0 := fun (n_ : Nat) => (show (((((w42.drewN n_).setCell ⟨gb226, 0, none⟩ (.int .i64 ((rd_T124 (rd_L2 l0_1 x71_5) x78_6).f0))).setCell ⟨gb226, 1, none⟩ (.int .i64 ((rd_T124 (rd_L2 l0_1 x71_5) x78_6).f1))).setCell ⟨gb226, 2, none⟩ (.int .i64 ((rd_T124 (rd_L2 l0_1 x71_5) x78_6).f2)))).cell? _ = some _ from hx227_0)); clear hn227_0; clear hn227_1; clear hn227_2; replace p227 := eq_true p227; replace q227 := eq_true q227)); try go_wp2_with (first | ((with_reducible refine gate_dst (N := 14) rfl ?_); (try (refine gate_guard (by rfl) ?_; dsimp only)); refine box_event ?hg (N := 14) ?hd (cs := #[.int .i64 0, .int .i64 0, .int .i64 0]) (t := 124) ?hr ?_; (case hd => rfl); (case hg => rfl); (case hr => first | (go_simp; done) | (go_simp; rfl)); intro gb226 hg w42 hbox hb; have n0_ := Aside0.mk (blk_below (g := gb220) (o := .cells #[.slice A0_0 l0_0.length c0_0, .slice (some ad224) l0_1.length c0_1] 37 (0, 0)) (by (with_reducible repeat (first | refine blk_drewN ?_ _ | refine blk_drew ?_ | refine blk_alloc ?_ _)); exact BK220.out) hb); have n1_ := Aside0.mk (below_step (by repeat (first | (with_reducible first | exact HB.out | apply below_alloc | apply pw_below_drewN | apply below_drew1 | refine below_set ?_ GE220.out) | exact HB.out)) hb); have n2_ := Aside0.mk (hbox); have n3_ := Aside0.mk ((by rw [hg]; exact (below_size (by repeat (first | (with_reducible first | exact HB.out | apply below_alloc | apply pw_below_drewN | apply below_drew1 | refine below_set ?_ GE220.out) | exact HB.out))) : w.heap.size ≤ gb226)); have n4_ := Aside0.mk ((by rw [hg]; exact (below_size (by repeat (first | (with_reducible first | exact HB.out | apply below_alloc | apply pw_below_drewN | apply below_drew1 | refine below_set ?_ GE220.out) | exact HB.out))) : w.heap.size ≤ gb226)); have n5_ := Aside0.mk ((by rw [hg]; exact Nat.ne_of_lt (blk_lt (g := gb220) (o := .cells #[.slice A0_0 l0_0.length c0_0, .slice (some ad224) l0_1.length c0_1] 37 (0, 0)) (by (with_reducible repeat (first | refine blk_drewN ?_ _ | refine blk_drew ?_ | refine blk_alloc ?_ _)); exact BK220.out)) : gb220 ≠ gb226)); have n6_ := Aside0.mk ((by rw [hg]; exact Nat.ne_of_gt (blk_lt (g := gb220) (o := .cells #[.slice A0_0 l0_0.length c0_0, .slice (some ad224) l0_1.length c0_1] 37 (0, 0)) (by (with_reducible repeat (first | refine blk_drewN ?_ _ | refine blk_drew ?_ | refine blk_alloc ?_ _)); exact BK220.out)) : gb226 ≠ gb220)); clear BK220; clear HB; have BK220 := n0_; have HB := n1_; have BK226 := n2_; have GW226 := n3_; have GE226 := n4_; have NB220_226 := n5_; have NB226_220 := n6_; clear n0_ n1_ n2_ n3_ n4_ n5_ n6_; clear hb hbox hg; have hnb43 := NB226_220.out; have hnc43 := NB220_226.out; have hcz44_0 : w42.cell? ⟨gb226, 0, none⟩ = some (.int .i64 0) := (blk_cell BK226.out 0).trans rfl; have hcz44_1 : w42.cell? ⟨gb226, 1, none⟩ = some (.int .i64 0) := (blk_cell BK226.out 1).trans rfl; have hcz44_2 : w42.cell? ⟨gb226, 2, none⟩ = some (.int .i64 0) := (blk_cell BK226.out 2).trans rfl; have hfz44_0 := blk_frozen BK226.out 0; have hfz44_1 := blk_frozen BK226.out 1; have hfz44_2 := blk_frozen BK226.out 2; have hcz45_0 : w42.cell? ⟨gb220, 0, none⟩ = some (.slice A0_0 l0_0.length c0_0) := (blk_cell BK220.out 0).trans rfl; have hcz45_1 : w42.cell? ⟨gb220, 1, none⟩ = some (.slice (some ad224) l0_1.length c0_1) := (blk_cell BK220.out 1).trans rfl; have hfz45_0 := blk_frozen BK220.out 0; have hfz45_1 := blk_frozen BK220.out 1; have p227 : 0 ≤ (x71_5 : Int) := of_decide_eq_true (by first | (with_reducible assumption) | assumption); have q227 : x71_5 < (l0_0.length : Int) := of_decide_eq_true (by first | (with_reducible assumption) | assumption); obtain ⟨ad227, e227, hx227_0⟩ := Kd.at_int HR0_0.out x71_5 p227 q227; cases e227; have hn227_0 : ad227.block ≠ gb226 := Nat.ne_of_lt (Nat.lt_of_lt_of_le (by have := World.block_lt_of_cell? _ _ hx227_0; first | rwa [add_block] at this | exact this) GW226.out); have hn227_1 : ad227.block ≠ gb226 := Nat.ne_of_lt (Nat.lt_of_lt_of_le (by have := World.block_lt_of_cell? _ _ hx227_0; first | rwa [add_block] at this | exact this) GW226.out); have hn227_2 : ad227.block ≠ gb226 := Nat.ne_of_lt (Nat.lt_of_lt_of_le (by have := World.block_lt_of_cell? _ _ hx227_0; first | rwa [add_block] at this | exact this) GW226.out); replace hx227_0 := (HB.out.cell (World.block_lt_of_cell? w _ hx227_0)).trans hx227_0; replace hx227_0 := (cell_far (p := ⟨gb226, 0, none⟩) (by first | (rw [add_block]; exact hn227_0) | (show (Addr.add _ _).block ≠ _; rw [add_block]; exact hn227_0) | exact hn227_0) (.int .i64 ((rd_T124 (rd_L2 l0_1 x71_5) x78_6).f0))).trans hx227_0; replace hx227_0 := (cell_far (p := ⟨gb226, 1, none⟩) (by first | (rw [add_block]; exact hn227_1) | (show (Addr.add _ _).block ≠ _; rw [add_block]; exact hn227_1) | exact hn227_1) (.int .i64 ((rd_T124 (rd_L2 l0_1 x71_5) x78_6).f1))).trans hx227_0; replace hx227_0 := (cell_far (p := ⟨gb226, 2, none⟩) (by first | (rw [add_block]; exact hn227_2) | (show (Addr.add _ _).block ≠ _; rw [add_block]; exact hn227_2) | exact hn227_2) (.int .i64 ((rd_T124 (rd_L2 l0_1 x71_5) x78_6).f2))).trans hx227_0; (try have hy227_0 := fun (n_ : Nat) => (show (((((w42.drewN n_).setCell ⟨gb226, 0, none⟩ (.int .i64 ((rd_T124 (rd_L2 l0_1 x71_5) x78_6).f0))).setCell ⟨gb226, 1, none⟩ (.int .i64 ((rd_T124 (rd_L2 l0_1 x71_5) x78_6).f1))).setCell ⟨gb226, 2, none⟩ (.int .i64 ((rd_T124 (rd_L2 l0_1 x71_5) x78_6).f2)))).cell? _ = some _ from hx227_0)); clear hn227_0; clear hn227_1; clear hn227_2; replace p227 := eq_true p227; replace q227 := eq_true q227)))
                                                        go_ret
                                                        exact ⟨by first | rfl | (simp [errW_none, errW_some] <;> rfl) | (simp [*, errW_none, errW_some] <;> rfl), by repeat (first | (with_reducible first | exact HB.out | apply below_alloc | apply pw_below_drewN | apply below_drew1 | refine below_set ?_ GE220.out | refine below_set ?_ GE226.out) | exact HB.out)⟩
                                                      · rw [if_neg c41] at H
                                                        have c41b0 : decide (((rd_T124 (rd_L2 l0_1 x71_5) x78_6).f2) < 0) = false := decide_eq_false c41
                                                        clear c41
                                                        obtain ⟨ji46, hji46⟩ : ∃ j_ : Int, (wrap64 (x71_5 + 1)) = j_ := ⟨_, rfl⟩
                                                        replace H : (if 0 ≤ (ji46) then (if (ji46) < (l0_0.length : Int) then (if ((rd_T124 (rd_L2 l0_1 x71_5) x78_6).f2) ≥ (rd l0_0 (ji46)) then (some 6) else (semiring_Shape.l4 k6 x71_5 l0_1 (l0_1.length : Int) x71_5 (rd_L2 l0_1 x71_5) ((rd_L2 l0_1 x71_5).length : Int) (wrap64 (x78_6 + 1)) l0_0 l0_1)) else (none)) else (none)) = some r := by first | (rw [hji46] at H; exact H) | (simp only [hji46] at H ⊢; exact H)
                                                        have hji46w : (IntKind.i64.wrap (x71_5 + 1)) = ji46 := (i64_w _).trans hji46
                                                        by_cases c47 : 0 ≤ (ji46)
                                                        · rw [if_pos c47] at H
                                                          have c47b0 : decide (0 ≤ (ji46)) = true := decide_eq_true c47
                                                          clear c47
                                                          by_cases c48 : (ji46) < (l0_0.length : Int)
                                                          · rw [if_pos c48] at H
                                                            have c48b0 : decide ((ji46) < (l0_0.length : Int)) = true := decide_eq_true c48
                                                            clear c48
                                                            by_cases c49 : ((rd_T124 (rd_L2 l0_1 x71_5) x78_6).f2) ≥ (rd l0_0 (ji46))
                                                            · rw [if_pos c49] at H
                                                              have c49b0 : decide ((rd l0_0 (ji46)) ≤ ((rd_T124 (rd_L2 l0_1 x71_5) x78_6).f2)) = true := decide_eq_true c49
                                                              clear c49
                                                              obtain rfl := Option.some.inj H
                                                              have p225 : 0 ≤ (x78_6 : Int) := of_decide_eq_true (by first | (with_reducible assumption) | assumption)
                                                              have q225 : x78_6 < ((rd_L2 l0_1 x71_5).length : Int) := of_decide_eq_true (by first | (with_reducible assumption) | assumption)
                                                              obtain ⟨ad225, e225, hx225_0, hx225_1, hx225_2⟩ := at_T124 HR224_0.out x78_6 p225 q225
                                                              cases e225
                                                              replace hx225_0 := (HB.out.cell (World.block_lt_of_cell? w _ hx225_0)).trans hx225_0
                                                              replace hx225_1 := (HB.out.cell (World.block_lt_of_cell? w _ hx225_1)).trans hx225_1
                                                              replace hx225_2 := (HB.out.cell (World.block_lt_of_cell? w _ hx225_2)).trans hx225_2
                                                              replace p225 := eq_true p225
                                                              replace q225 := eq_true q225
                                                              go_wp2_with (first | ((with_reducible refine gate_dst (N := 14) rfl ?_); (try (refine gate_guard (by rfl) ?_; dsimp only)); refine box_event ?hg (N := 14) ?hd (cs := #[.int .i64 0, .int .i64 0, .int .i64 0]) (t := 124) ?hr ?_; (case hd => rfl); (case hg => rfl); (case hr => first | (go_simp; done) | (go_simp; rfl)); intro gb226 hg w50 hbox hb; have n0_ := Aside0.mk (blk_below (g := gb220) (o := .cells #[.slice A0_0 l0_0.length c0_0, .slice (some ad224) l0_1.length c0_1] 37 (0, 0)) (by (with_reducible repeat (first | refine blk_drewN ?_ _ | refine blk_drew ?_ | refine blk_alloc ?_ _)); exact BK220.out) hb); have n1_ := Aside0.mk (below_step (by repeat (first | (with_reducible first | exact HB.out | apply below_alloc | apply pw_below_drewN | apply below_drew1 | refine below_set ?_ GE220.out) | exact HB.out)) hb); have n2_ := Aside0.mk (hbox); have n3_ := Aside0.mk ((by rw [hg]; exact (below_size (by repeat (first | (with_reducible first | exact HB.out | apply below_alloc | apply pw_below_drewN | apply below_drew1 | refine below_set ?_ GE220.out) | exact HB.out))) : w.heap.size ≤ gb226)); have n4_ := Aside0.mk ((by rw [hg]; exact (below_size (by repeat (first | (with_reducible first | exact HB.out | apply below_alloc | apply pw_below_drewN | apply below_drew1 | refine below_set ?_ GE220.out) | exact HB.out))) : w.heap.size ≤ gb226)); have n5_ := Aside0.mk ((by rw [hg]; exact Nat.ne_of_lt (blk_lt (g := gb220) (o := .cells #[.slice A0_0 l0_0.length c0_0, .slice (some ad224) l0_1.length c0_1] 37 (0, 0)) (by (with_reducible repeat (first | refine blk_drewN ?_ _ | refine blk_drew ?_ | refine blk_alloc ?_ _)); exact BK220.out)) : gb220 ≠ gb226)); have n6_ := Aside0.mk ((by rw [hg]; exact Nat.ne_of_gt (blk_lt (g := gb220) (o := .cells #[.slice A0_0 l0_0.length c0_0, .slice (some ad224) l0_1.length c0_1] 37 (0, 0)) (by (with_reducible repeat (first | refine blk_drewN ?_ _ | refine blk_drew ?_ | refine blk_alloc ?_ _)); exact BK220.out)) : gb226 ≠ gb220)); clear BK220; clear HB; have BK220 := n0_; have HB := n1_; have BK226 := n2_; have GW226 := n3_; have GE226 := n4_; have NB220_226 := n5_; have NB226_220 := n6_; clear n0_ n1_ n2_ n3_ n4_ n5_ n6_; clear hb hbox hg; have hnb51 := NB226_220.out; have hnc51 := NB220_226.out; have hcz52_0 : w50.cell? ⟨gb226, 0, none⟩ = some (.int .i64 0) := (blk_cell BK226.out 0).trans rfl; have hcz52_1 : w50.cell? ⟨gb226, 1, none⟩ = some (.int .i64 0) := (blk_cell BK226.out 1).trans rfl; have hcz52_2 : w50.cell? ⟨gb226, 2, none⟩ = some (.int .i64 0) := (blk_cell BK226.out 2).trans rfl; have hfz52_0 := blk_frozen BK226.out 0; have hfz52_1 := blk_frozen BK226.out 1; have hfz52_2 := blk_frozen BK226.out 2; have hcz53_0 : w50.cell? ⟨gb220, 0, none⟩ = some (.slice A0_0 l0_0.length c0_0) := (blk_cell BK220.out 0).trans rfl; have hcz53_1 : w50.cell? ⟨gb220, 1, none⟩ = some (.slice (some ad224) l0_1.length c0_1) := (blk_cell BK220.out 1).trans rfl; have hfz53_0 := blk_frozen BK220.out 0; have hfz53_1 := blk_frozen BK220.out 1; have p227 : 0 ≤ (x71_5 : Int) := of_decide_eq_true (by first | (with_reducible assumption) | assumption); have q227 : x71_5 < (l0_0.length : Int) := of_decide_eq_true (by first | (with_reducible assumption) | assumption); obtain ⟨ad227, e227, hx227_0⟩ := Kd.at_int HR0_0.out x71_5 p227 q227; cases e227; have hn227_0 : ad227.block ≠ gb226 := Nat.ne_of_lt (Nat.lt_of_lt_of_le (by have := World.block_lt_of_cell? _ _ hx227_0; first | rwa [add_block] at this | exact this) GW226.out); have hn227_1 : ad227.block ≠ gb226 := Nat.ne_of_lt (Nat.lt_of_lt_of_le (by have := World.block_lt_of_cell? _ _ hx227_0; first | rwa [add_block] at this | exact this) GW226.out); have hn227_2 : ad227.block ≠ gb226 := Nat.ne_of_lt (Nat.lt_of_lt_of_le (by have := World.block_lt_of_cell? _ _ hx227_0; first | rwa [add_block] at this | exact this) GW226.out); replace hx227_0 := (HB.out.cell (World.block_lt_of_cell? w _ hx227_0)).trans hx227_0; replace hx227_0 := (cell_far (p := ⟨gb226, 0, none⟩) (by first | (rw [add_block]; exact hn227_0) | (show (Addr.add _ _).block ≠ _; rw [add_block]; exact hn227_0) | exact hn227_0) (.int .i64 ((rd_T124 (rd_L2 l0_1 x71_5) x78_6).f0))).trans hx227_0; replace hx227_0 := (cell_far (p := ⟨gb226, 1, none⟩) (by first | (rw [add_block]; exact hn227_1) | (show (Addr.add _ _).block ≠ _; rw [add_block]; exact hn227_1) | exact hn227_1) (.int .i64 ((rd_T124 (rd_L2 l0_1 x71_5) x78_6).f1))).trans hx227_0; replace hx227_0 := (cell_far (p := ⟨gb226, 2, none⟩) (by first | (rw [add_block]; exact hn227_2) | (show (Addr.add _ _).block ≠ _; rw [add_block]; exact hn227_2) | exact hn227_2) (.int .i64 ((rd_T124 (rd_L2 l0_1 x71_5) x78_6).f2))).trans hx227_0; (try have hy227_0 := fun (n_ : Nat) => (show (((((w50.drewN n_).setCell ⟨gb226, 0, none⟩ (.int .i64 ((rd_T124 (rd_L2 l0_1 x71_5) x78_6).f0))).setCell ⟨gb226, 1, none⟩ (.int .i64 ((rd_T124 (rd_L2 l0_1 x71_5) x78_6).f1))).setCell ⟨gb226, 2, none⟩ (.int .i64 ((rd_T124 (rd_L2 l0_1 x71_5) x78_6).f2)))).cell? _ = some _ from hx227_0)); clear hn227_0; clear hn227_1; clear hn227_2; replace p227 := eq_true p227; replace q227 := eq_true q227; have p228 : 0 ≤ ((ji46) : Int) := of_decide_eq_true (by first | (with_reducible assumption) | assumption); have q228 : (ji46) < (l0_0.length : Int) := of_decide_eq_true (by first | (with_reducible assumption) | assumption); obtain ⟨ad228, e228, hx228_0⟩ := Kd.at_int HR0_0.out (ji46) p228 q228; obtain rfl : ad227 = ad228 := (by injection e228); have hn228_0 : ad227.block ≠ gb226 := Nat.ne_of_lt (Nat.lt_of_lt_of_le (by have := World.block_lt_of_cell? _ _ hx228_0; first | rwa [add_block] at this | exact this) GW226.out); have hn228_1 : ad227.block ≠ gb226 := Nat.ne_of_lt (Nat.lt_of_lt_of_le (by have := World.block_lt_of_cell? _ _ hx228_0; first | rwa [add_block] at this | exact this) GW226.out); have hn228_2 : ad227.block ≠ gb226 := Nat.ne_of_lt (Nat.lt_of_lt_of_le (by have := World.block_lt_of_cell? _ _ hx228_0; first | rwa [add_block] at this | exact this) GW226.out); replace hx228_0 := (HB.out.cell (World.block_lt_of_cell? w _ hx228_0)).trans hx228_0; replace hx228_0 := (cell_far (p := ⟨gb226, 0, none⟩) (by first | (rw [add_block]; exact hn228_0) | (show (Addr.add _ _).block ≠ _; rw [add_block]; exact hn228_0) | exact hn228_0) (.int .i64 ((rd_T124 (rd_L2 l0_1 x71_5) x78_6).f0))).trans hx228_0; replace hx228_0 := (cell_far (p := ⟨gb226, 1, none⟩) (by first | (rw [add_block]; exact hn228_1) | (show (Addr.add _ _).block ≠ _; rw [add_block]; exact hn228_1) | exact hn228_1) (.int .i64 ((rd_T124 (rd_L2 l0_1 x71_5) x78_6).f1))).trans hx228_0; replace hx228_0 := (cell_far (p := ⟨gb226, 2, none⟩) (by first | (rw [add_block]; exact hn228_2) | (show (Addr.add _ _).block ≠ _; rw [add_block]; exact hn228_2) | exact hn228_2) (.int .i64 ((rd_T124 (rd_L2 l0_1 x71_5) x78_6).f2))).trans hx228_0; (try have hy228_0 := fun (n_ : Nat) => (show (((((w50.drewN n_).setCell ⟨gb226, 0, none⟩ (.int .i64 ((rd_T124 (rd_L2 l0_1 x71_5) x78_6).f0))).setCell ⟨gb226, 1, none⟩ (.int .i64 ((rd_T124 (rd_L2 l0_1 x71_5) x78_6).f1))).setCell ⟨gb226, 2, none⟩ (.int .i64 ((rd_T124 (rd_L2 l0_1 x71_5) x78_6).f2)))).cell? _ = some _ from hx228_0)); clear hn228_0; clear hn228_1; clear hn228_2; replace p228 := eq_true p228; replace q228 := eq_true q228))
                                                              repeat (go_quiet (first | ((with_reducible refine gate_dst (N := 14) rfl ?_); (try (refine gate_guard (by rfl) ?_; dsimp only)); refine box_event ?hg (N := 14) ?hd (cs := #[.int .i64 0, .int .i64 0, .int .i64 0]) (t := 124) ?hr ?_; (case hd => rfl); (case hg => rfl); (case hr => first | (go_simp; done) | (go_simp; rfl)); intro gb226 hg w50 hbox hb; have n0_ := Aside0.mk (blk_below (g := gb220) (o := .cells #[.slice A0_0 l0_0.length c0_0, .slice (some ad224) l0_1.length c0_1] 37 (0, 0)) (by (with_reducible repeat (first | refine blk_drewN ?_ _ | refine blk_drew ?_ | refine blk_alloc ?_ _)); exact BK220.out) hb); have n1_ := Aside0.mk (below_step (by repeat (first | (with_reducible first | exact HB.out | apply below_alloc | apply pw_below_drewN | apply below_drew1 | refine below_set ?_ GE220.out) | exact HB.out)) hb); have n2_ := Aside0.mk (hbox); have n3_ := Aside0.mk ((by rw [hg]; exact (below_size (by repeat (first | (with_reducible first | exact HB.out | apply below_alloc | apply pw_below_drewN | apply below_drew1 | refine below_set ?_ GE220.out) | exact HB.out))) : w.heap.size ≤ gb226)); have n4_ := Aside0.mk ((by rw [hg]; exact (below_size (by repeat (first | (with_reducible first | exact HB.out | apply below_alloc | apply pw_below_drewN | apply below_drew1 | refine below_set ?_ GE220.out) | exact HB.out))) : w.heap.size ≤ gb226)); have n5_ := Aside0.mk ((by rw [hg]; exact Nat.ne_of_lt (blk_lt (g := gb220) (o := .cells #[.slice A0_0 l0_0.length c0_0, .slice (some ad224) l0_1.length c0_1] 37 (0, 0)) (by (with_reducible repeat (first | refine blk_drewN ?_ _ | refine blk_drew ?_ | refine blk_alloc ?_ _)); exact BK220.out)) : gb220 ≠ gb226)); have n6_ := Aside0.mk ((by rw [hg]; exact Nat.ne_of_gt (blk_lt (g := gb220) (o := .cells #[.slice A0_0 l0_0.length c0_0, .slice (some ad224) l0_1.length c0_1] 37 (0, 0)) (by (with_reducible repeat (first | refine blk_drewN ?_ _ | refine blk_drew ?_ | refine blk_alloc ?_ _)); exact BK220.out)) : gb226 ≠ gb220)); clear BK220; clear HB; have BK220 := n0_; have HB := n1_; have BK226 := n2_; have GW226 := n3_; have GE226 := n4_; have NB220_226 := n5_; have NB226_220 := n6_; clear n0_ n1_ n2_ n3_ n4_ n5_ n6_; clear hb hbox hg; have hnb51 := NB226_220.out; have hnc51 := NB220_226.out; have hcz52_0 : w50.cell? ⟨gb226, 0, none⟩ = some (.int .i64 0) := (blk_cell BK226.out 0).trans rfl; have hcz52_1 : w50.cell? ⟨gb226, 1, none⟩ = some (.int .i64 0) := (blk_cell BK226.out 1).trans rfl; have hcz52_2 : w50.cell? ⟨gb226, 2, none⟩ = some (.int .i64 0) := (blk_cell BK226.out 2).trans rfl; have hfz52_0 := blk_frozen BK226.out 0; have hfz52_1 := blk_frozen BK226.out 1; have hfz52_2 := blk_frozen BK226.out 2; have hcz53_0 : w50.cell? ⟨gb220, 0, none⟩ = some (.slice A0_0 l0_0.length c0_0) := (blk_cell BK220.out 0).trans rfl; have hcz53_1 : w50.cell? ⟨gb220, 1, none⟩ = some (.slice (some ad224) l0_1.length c0_1) := (blk_cell BK220.out 1).trans rfl; have hfz53_0 := blk_frozen BK220.out 0; have hfz53_1 := blk_frozen BK220.out 1; have p227 : 0 ≤ (x71_5 : Int) := of_decide_eq_true (by first | (with_reducible assumption) | assumption); have q227 : x71_5 < (l0_0.length : Int) := of_decide_eq_true (by first | (with_reducible assumption) | assumption); obtain ⟨ad227, e227, hx227_0⟩ := Kd.at_int HR0_0.out x71_5 p227 q227; cases e227; have hn227_0 : ad227.block ≠ gb226 := Nat.ne_of_lt (Nat.lt_of_lt_of_le (by have := World.block_lt_of_cell? _ _ hx227_0; first | rwa [add_block] at this | exact this) GW226.out); have hn227_1 : ad227.block ≠ gb226 := Nat.ne_of_lt (Nat.lt_of_lt_of_le (by have := World.block_lt_of_cell? _ _ hx227_0; first | rwa [add_block] at this | exact this) GW226.out); have hn227_2 : ad227.block ≠ gb226 := Nat.ne_of_lt (Nat.lt_of_lt_of_le (by have := World.block_lt_of_cell? _ _ hx227_0; first | rwa [add_block] at this | exact this) GW226.out); replace hx227_0 := (HB.out.cell (World.block_lt_of_cell? w _ hx227_0)).trans hx227_0; replace hx227_0 := (cell_far (p := ⟨gb226, 0, none⟩) (by first | (rw [add_block]; exact hn227_0) | (show (Addr.add _ _).block ≠ _; rw [add_block]; exact hn227_0) | exact hn227_0) (.int .i64 ((rd_T124 (rd_L2 l0_1 x71_5) x78_6).f0))).trans hx227_0; replace hx227_0 := (cell_far (p := ⟨gb226, 1, none⟩) (by first | (rw [add_block]; exact hn227_1) | (show (Addr.add _ _).block ≠ _; rw [add_block]; exact hn227_1) | exact hn227_1) (.int .i64 ((rd_T124 (rd_L2 l0_1 x71_5) x78_6).f1))).trans hx227_0; replace hx227_0 := (cell_far (p := ⟨gb226, 2, none⟩) (by first | (rw [add_block]; exact hn227_2) | (show (Addr.add _ _).block ≠ _; rw [add_block]; exact hn227_2) | exact hn227_2) (.int .i64 ((rd_T124 (rd_L2 l0_1 x71_5) x78_6).f2))).trans hx227_0; (try have hy227_0 := fun (n_ : Nat) => (show (((((w50.drewN n_).setCell ⟨gb226, 0, none⟩ (.int .i64 ((rd_T124 (rd_L2 l0_1 x71_5) x78_6).f0))).setCell ⟨gb226, 1, none⟩ (.int .i64 ((rd_T124 (rd_L2 l0_1 x71_5) x78_6).f1))).setCell ⟨gb226, 2, none⟩ (.int .i64 ((rd_T124 (rd_L2 l0_1 x71_5) x78_6).f2)))).cell? _ = some _ from hx227_0)); clear hn227_0; clear hn227_1; clear hn227_2; replace p227 := eq_true p227; replace q227 := eq_true q227; have p228 : 0 ≤ ((ji46) : Int) := of_decide_eq_true (by first | (with_reducible assumption) | assumption); have q228 : (ji46) < (l0_0.length : Int) := of_decide_eq_true (by first | (with_reducible assumption) | assumption); obtain ⟨ad228, e228, hx228_0⟩ := Kd.at_int HR0_0.out (ji46) p228 q228; obtain rfl : ad227 = ad228 := (by injection e228); have hn228_0 : ad227.block ≠ gb226 := Nat.ne_of_lt (Nat.lt_of_lt_of_le (by have := World.block_lt_of_cell? _ _ hx228_0; first | rwa [add_block] at this | exact this) GW226.out); have hn228_1 : ad227.block ≠ gb226 := Nat.ne_of_lt (Nat.lt_of_lt_of_le (by have := World.block_lt_of_cell? _ _ hx228_0; first | rwa [add_block] at this | exact this) GW226.out); have hn228_2 : ad227.block ≠ gb226 := Nat.ne_of_lt (Nat.lt_of_lt_of_le (by have := World.block_lt_of_cell? _ _ hx228_0; first | rwa [add_block] at this | exact this) GW226.out); replace hx228_0 := (HB.out.cell (World.block_lt_of_cell? w _ hx228_0)).trans hx228_0; replace hx228_0 := (cell_far (p := ⟨gb226, 0, none⟩) (by first | (rw [add_block]; exact hn228_0) | (show (Addr.add _ _).block ≠ _; rw [add_block]; exact hn228_0) | exact hn228_0) (.int .i64 ((rd_T124 (rd_L2 l0_1 x71_5) x78_6).f0))).trans hx228_0; replace hx228_0 := (cell_far (p := ⟨gb226, 1, none⟩) (by first | (rw [add_block]; exact hn228_1) | (show (Addr.add _ _).block ≠ _; rw [add_block]; exact hn228_1) | exact hn228_1) (.int .i64 ((rd_T124 (rd_L2 l0_1 x71_5) x78_6).f1))).trans hx228_0; replace hx228_0 := (cell_far (p := ⟨gb226, 2, none⟩) (by first | (rw [add_block]; exact hn228_2) | (show (Addr.add _ _).block ≠ _; rw [add_block]; exact hn228_2) | exact hn228_2) (.int .i64 ((rd_T124 (rd_L2 l0_1 x71_5) x78_6).f2))).trans hx228_0; (try have hy228_0 := fun (n_ : Nat) => (show (((((w50.drewN n_).setCell ⟨gb226, 0, none⟩ (.int .i64 ((rd_T124 (rd_L2 l0_1 x71_5) x78_6).f0))).setCell ⟨gb226, 1, none⟩ (.int .i64 ((rd_T124 (rd_L2 l0_1 x71_5) x78_6).f1))).setCell ⟨gb226, 2, none⟩ (.int .i64 ((rd_T124 (rd_L2 l0_1 x71_5) x78_6).f2)))).cell? _ = some _ from hx228_0)); clear hn228_0; clear hn228_1; clear hn228_2; replace p228 := eq_true p228; replace q228 := eq_true q228)); try go_wp2_with (first | ((with_reducible refine gate_dst (N := 14) rfl ?_); (try (refine gate_guard (by rfl) ?_; dsimp only)); refine box_event ?hg (N := 14) ?hd (cs := #[.int .i64 0, .int .i64 0, .int .i64 0]) (t := 124) ?hr ?_; (case hd => rfl); (case hg => rfl); (case hr => first | (go_simp; done) | (go_simp; rfl)); intro gb226 hg w50 hbox hb; have n0_ := Aside0.mk (blk_below (g := gb220) (o := .cells #[.slice A0_0 l0_0.length c0_0, .slice (some ad224) l0_1.length c0_1] 37 (0, 0)) (by (with_reducible repeat (first | refine blk_drewN ?_ _ | refine blk_drew ?_ | refine blk_alloc ?_ _)); exact BK220.out) hb); have n1_ := Aside0.mk (below_step (by repeat (first | (with_reducible first | exact HB.out | apply below_alloc | apply pw_below_drewN | apply below_drew1 | refine below_set ?_ GE220.out) | exact HB.out)) hb); have n2_ := Aside0.mk (hbox); have n3_ := Aside0.mk ((by rw [hg]; exact (below_size (by repeat (first | (with_reducible first | exact HB.out | apply below_alloc | apply pw_below_drewN | apply below_drew1 | refine below_set ?_ GE220.out) | exact HB.out))) : w.heap.size ≤ gb226)); have n4_ := Aside0.mk ((by rw [hg]; exact (below_size (by repeat (first | (with_reducible first | exact HB.out | apply below_alloc | apply pw_below_drewN | apply below_drew1 | refine below_set ?_ GE220.out) | exact HB.out))) : w.heap.size ≤ gb226)); have n5_ := Aside0.mk ((by rw [hg]; exact Nat.ne_of_lt (blk_lt (g := gb220) (o := .cells #[.slice A0_0 l0_0.length c0_0, .slice (some ad224) l0_1.length c0_1] 37 (0, 0)) (by (with_reducible repeat (first | refine blk_drewN ?_ _ | refine blk_drew ?_ | refine blk_alloc ?_ _)); exact BK220.out)) : gb220 ≠ gb226)); have n6_ := Aside0.mk ((by rw [hg]; exact Nat.ne_of_gt (blk_lt (g := gb220) (o := .cells #[.slice A0_0 l0_0.length c0_0, .slice (some ad224) l0_1.length c0_1] 37 (0, 0)) (by (with_reducible repeat (first | refine blk_drewN ?_ _ | refine blk_drew ?_ | refine blk_alloc ?_ _)); exact BK220.out)) : gb226 ≠ gb220)); clear BK220; clear HB; have BK220 := n0_; have HB := n1_; have BK226 := n2_; have GW226 := n3_; have GE226 := n4_; have NB220_226 := n5_; have NB226_220 := n6_; clear n0_ n1_ n2_ n3_ n4_ n5_ n6_; clear hb hbox hg; have hnb51 := NB226_220.out; have hnc51 := NB220_226.out; have hcz52_0 : w50.cell? ⟨gb226, 0, none⟩ = some (.int .i64 0) := (blk_cell BK226.out 0).trans rfl; have hcz52_1 : w50.cell? ⟨gb226, 1, none⟩ = some (.int .i64 0) := (blk_cell BK226.out 1).trans rfl; have hcz52_2 : w50.cell? ⟨gb226, 2, none⟩ = some (.int .i64 0) := (blk_cell BK226.out 2).trans rfl; have hfz52_0 := blk_frozen BK226.out 0; have hfz52_1 := blk_frozen BK226.out 1; have hfz52_2 := blk_frozen BK226.out 2; have hcz53_0 : w50.cell? ⟨gb220, 0, none⟩ = some (.slice A0_0 l0_0.length c0_0) := (blk_cell BK220.out 0).trans rfl; have hcz53_1 : w50.cell? ⟨gb220, 1, none⟩ = some (.slice (some ad224) l0_1.length c0_1) := (blk_cell BK220.out 1).trans rfl; have hfz53_0 := blk_frozen BK220.out 0; have hfz53_1 := blk_frozen BK220.out 1; have p227 : 0 ≤ (x71_5 : Int) := of_decide_eq_true (by first | (with_reducible assumption) | assumption); have q227 : x71_5 < (l0_0.length : Int) := of_decide_eq_true (by first | (with_reducible assumption) | assumption); obtain ⟨ad227, e227, hx227_0⟩ := Kd.at_int HR0_0.out x71_5 p227 q227; cases e227; have hn227_0 : ad227.block ≠ gb226 := Nat.ne_of_lt (Nat.lt_of_lt_of_le (by have := World.block_lt_of_cell? _ _ hx227_0; first | rwa [add_block] at this | exact this) GW226.out); have hn227_1 : ad227.block ≠ gb226 := Nat.ne_of_lt (Nat.lt_of_lt_of_le (by have := World.block_lt_of_cell? _ _ hx227_0; first | rwa [add_block] at this | exact this) GW226.out); have hn227_2 : ad227.block ≠ gb226 := Nat.ne_of_lt (Nat.lt_of_lt_of_le (by have := World.block_lt_of_cell? _ _ hx227_0; first | rwa [add_block] at this | exact this) GW226.out); replace hx227_0 := (HB.out.cell (World.block_lt_of_cell? w _ hx227_0)).trans hx227_0; replace hx227_0 := (cell_far (p := ⟨gb226, 0, none⟩) (by first | (rw [add_block]; exact hn227_0) | (show (Addr.add _ _).block ≠ _; rw [add_block]; exact hn227_0) | exact hn227_0) (.int .i64 ((rd_T124 (rd_L2 l0_1 x71_5) x78_6).f0))).trans hx227_0; replace hx227_0 := (cell_far (p := ⟨gb226, 1, none⟩) (by first | (rw [add_block]; exact hn227_1) | (show (Addr.add _ _).block ≠ _; rw [add_block]; exact hn227_1) | exact hn227_1) (.int .i64 ((rd_T124 (rd_L2 l0_1 x71_5) x78_6).f1))).trans hx227_0; replace hx227_0 := (cell_far (p := ⟨gb226, 2, none⟩) (by first | (rw [add_block]; exact hn227_2) | (show (Addr.add _ _).block ≠ _; rw [add_block]; exact hn227_2) | exact hn227_2) (.int .i64 ((rd_T124 (rd_L2 l0_1 x71_5) x78_6).f2))).trans hx227_0; (try have hy227_0 := fun (n_ : Nat) => (show (((((w50.drewN n_).setCell ⟨gb226, 0, none⟩ (.int .i64 ((rd_T124 (rd_L2 l0_1 x71_5) x78_6).f0))).setCell ⟨gb226, 1, none⟩ (.int .i64 ((rd_T124 (rd_L2 l0_1 x71_5) x78_6).f1))).setCell ⟨gb226, 2, none⟩ (.int .i64 ((rd_T124 (rd_L2 l0_1 x71_5) x78_6).f2)))).cell? _ = some _ from hx227_0)); clear hn227_0; clear hn227_1; clear hn227_2; replace p227 := eq_true p227; replace q227 := eq_true q227; have p228 : 0 ≤ ((ji46) : Int) := of_decide_eq_true (by first | (with_reducible assumption) | assumption); have q228 : (ji46) < (l0_0.length : Int) := of_decide_eq_true (by first | (with_reducible assumption) | assumption); obtain ⟨ad228, e228, hx228_0⟩ := Kd.at_int HR0_0.out (ji46) p228 q228; obtain rfl : ad227 = ad228 := (by injection e228); have hn228_0 : ad227.block ≠ gb226 := Nat.ne_of_lt (Nat.lt_of_lt_of_le (by have := World.block_lt_of_cell? _ _ hx228_0; first | rwa [add_block] at this | exact this) GW226.out); have hn228_1 : ad227.block ≠ gb226 := Nat.ne_of_lt (Nat.lt_of_lt_of_le (by have := World.block_lt_of_cell? _ _ hx228_0; first | rwa [add_block] at this | exact this) GW226.out); have hn228_2 : ad227.block ≠ gb226 := Nat.ne_of_lt (Nat.lt_of_lt_of_le (by have := World.block_lt_of_cell? _ _ hx228_0; first | rwa [add_block] at this | exact this) GW226.out); replace hx228_0 := (HB.out.cell (World.block_lt_of_cell? w _ hx228_0)).trans hx228_0; replace hx228_0 := (cell_far (p := ⟨gb226, 0, none⟩) (by first | (rw [add_block]; exact hn228_0) | (show (Addr.add _ _).block ≠ _; rw [add_block]; exact hn228_0) | exact hn228_0) (.int .i64 ((rd_T124 (rd_L2 l0_1 x71_5) x78_6).f0))).trans hx228_0; replace hx228_0 := (cell_far (p := ⟨gb226, 1, none⟩) (by first | (rw [add_block]; exact hn228_1) | (show (Addr.add _ _).block ≠ _; rw [add_block]; exact hn228_1) | exact hn228_1) (.int .i64 ((rd_T124 (rd_L2 l0_1 x71_5) x78_6).f1))).trans hx228_0; replace hx228_0 := (cell_far (p := ⟨gb226, 2, none⟩) (by first | (rw [add_block]; exact hn228_2) | (show (Addr.add _ _).block ≠ _; rw [add_block]; exact hn228_2) | exact hn228_2) (.int .i64 ((rd_T124 (rd_L2 l0_1 x71_5) x78_6).f2))).trans hx228_0; (try have hy228_0 := fun (n_ : Nat) => (show (((((w50.drewN n_).setCell ⟨gb226, 0, none⟩ (.int .i64 ((rd_T124 (rd_L2 l0_1 x71_5) x78_6).f0))).setCell ⟨gb226, 1, none⟩ (.int .i64 ((rd_T124 (rd_L2 l0_1 x71_5) x78_6).f1))).setCell ⟨gb226, 2, none⟩ (.int .i64 ((rd_T124 (rd_L2 l0_1 x71_5) x78_6).f2)))).cell? _ = some _ from hx228_0)); clear hn228_0; clear hn228_1; clear hn228_2; replace p228 := eq_true p228; replace q228 := eq_true q228)))
                                                              go_ret
                                                              exact ⟨by first | rfl | (simp [errW_none, errW_some] <;> rfl) | (simp only [← hji46]; first | rfl | (simp [errW_none, errW_some] <;> rfl)) | (simp [*, errW_none, errW_some] <;> rfl), by repeat (first | (with_reducible first | exact HB.out | apply below_alloc | apply pw_below_drewN | apply below_drew1 | refine below_set ?_ GE220.out | refine below_set ?_ GE226.out) | exact HB.out)⟩
                                                            · rw [if_neg c49] at H
                                                              have c49b0 : decide ((rd l0_0 (ji46)) ≤ ((rd_T124 (rd_L2 l0_1 x71_5) x78_6).f2)) = false := decide_eq_false c49
                                                              clear c49
                                                              have H' := Aside0.mk H
                                                              clear H
                                                              have p225 : 0 ≤ (x78_6 : Int) := of_decide_eq_true (by first | (with_reducible assumption) | assumption)
                                                              have q225 : x78_6 < ((rd_L2 l0_1 x71_5).length : Int) := of_decide_eq_true (by first | (with_reducible assumption) | assumption)
                                                              obtain ⟨ad225, e225, hx225_0, hx225_1, hx225_2⟩ := at_T124 HR224_0.out x78_6 p225 q225
                                                              cases e225
                                                              replace hx225_0 := (HB.out.cell (World.block_lt_of_cell? w _ hx225_0)).trans hx225_0
                                                              replace hx225_1 := (HB.out.cell (World.block_lt_of_cell? w _ hx225_1)).trans hx225_1
                                                              replace hx225_2 := (HB.out.cell (World.block_lt_of_cell? w _ hx225_2)).trans hx225_2
                                                              replace p225 := eq_true p225
                                                              replace q225 := eq_true q225
                                                              go_wp2_with (first | ((with_reducible refine gate_dst (N := 14) rfl ?_); (try (refine gate_guard (by rfl) ?_; dsimp only)); refine box_event ?hg (N := 14) ?hd (cs := #[.int .i64 0, .int .i64 0, .int .i64 0]) (t := 124) ?hr ?_; (case hd => rfl); (case hg => rfl); (case hr => first | (go_simp; done) | (go_simp; rfl)); intro gb226 hg w54 hbox hb; have n0_ := Aside0.mk (blk_below (g := gb220) (o := .cells #[.slice A0_0 l0_0.length c0_0, .slice (some ad224) l0_1.length c0_1] 37 (0, 0)) (by (with_reducible repeat (first | refine blk_drewN ?_ _ | refine blk_drew ?_ | refine blk_alloc ?_ _)); exact BK220.out) hb); have n1_ := Aside0.mk (below_step (by repeat (first | (with_reducible first | exact HB.out | apply below_alloc | apply pw_below_drewN | apply below_drew1 | refine below_set ?_ GE220.out) | exact HB.out)) hb); have n2_ := Aside0.mk (hbox); have n3_ := Aside0.mk ((by rw [hg]; exact (below_size (by repeat (first | (with_reducible first | exact HB.out | apply below_alloc | apply pw_below_drewN | apply below_drew1 | refine below_set ?_ GE220.out) | exact HB.out))) : w.heap.size ≤ gb226)); have n4_ := Aside0.mk ((by rw [hg]; exact (below_size (by repeat (first | (with_reducible first | exact HB.out | apply below_alloc | apply pw_below_drewN | apply below_drew1 | refine below_set ?_ GE220.out) | exact HB.out))) : w.heap.size ≤ gb226)); have n5_ := Aside0.mk ((by rw [hg]; exact Nat.ne_of_lt (blk_lt (g := gb220) (o := .cells #[.slice A0_0 l0_0.length c0_0, .slice (some ad224) l0_1.length c0_1] 37 (0, 0)) (by (with_reducible repeat (first | refine blk_drewN ?_ _ | refine blk_drew ?_ | refine blk_alloc ?_ _)); exact BK220.out)) : gb220 ≠ gb226)); have n6_ := Aside0.mk ((by rw [hg]; exact Nat.ne_of_gt (blk_lt (g := gb220) (o := .cells #[.slice A0_0 l0_0.length c0_0, .slice (some ad224) l0_1.length c0_1] 37 (0, 0)) (by (with_reducible repeat (first | refine blk_drewN ?_ _ | refine blk_drew ?_ | refine blk_alloc ?_ _)); exact BK220.out)) : gb226 ≠ gb220)); clear BK220; clear HB; have BK220 := n0_; have HB := n1_; have BK226 := n2_; have GW226 := n3_; have GE226 := n4_; have NB220_226 := n5_; have NB226_220 := n6_; clear n0_ n1_ n2_ n3_ n4_ n5_ n6_; clear hb hbox hg; have hnb55 := NB226_220.out; have hnc55 := NB220_226.out; have hcz56_0 : w54.cell? ⟨gb226, 0, none⟩ = some (.int .i64 0) := (blk_cell BK226.out 0).trans rfl; have hcz56_1 : w54.cell? ⟨gb226, 1, none⟩ = some (.int .i64 0) := (blk_cell BK226.out 1).trans rfl; have hcz56_2 : w54.cell? ⟨gb226, 2, none⟩ = some (.int .i64 0) := (blk_cell BK226.out 2).trans rfl; have hfz56_0 := blk_frozen BK226.out 0; have hfz56_1 := blk_frozen BK226.out 1; have hfz56_2 := blk_frozen BK226.out 2; have hcz57_0 : w54.cell? ⟨gb220, 0, none⟩ = some (.slice A0_0 l0_0.length c0_0) := (blk_cell BK220.out 0).trans rfl; have hcz57_1 : w54.cell? ⟨gb220, 1, none⟩ = some (.slice (some ad224) l0_1.length c0_1) := (blk_cell BK220.out 1).trans rfl; have hfz57_0 := blk_frozen BK220.out 0; have hfz57_1 := blk_frozen BK220.out 1; have p227 : 0 ≤ (x71_5 : Int) := of_decide_eq_true (by first | (with_reducible assumption) | assumption); have q227 : x71_5 < (l0_0.length : Int) := of_decide_eq_true (by first | (with_reducible assumption) | assumption); obtain ⟨ad227, e227, hx227_0⟩ := Kd.at_int HR0_0.out x71_5 p227 q227; cases e227; have hn227_0 : ad227.block ≠ gb226 := Nat.ne_of_lt (Nat.lt_of_lt_of_le (by have := World.block_lt_of_cell? _ _ hx227_0; first | rwa [add_block] at this | exact this) GW226.out); have hn227_1 : ad227.block ≠ gb226 := Nat.ne_of_lt (Nat.lt_of_lt_of_le (by have := World.block_lt_of_cell? _ _ hx227_0; first | rwa [add_block] at this | exact this) GW226.out); have hn227_2 : ad227.block ≠ gb226 := Nat.ne_of_lt (Nat.lt_of_lt_of_le (by have := World.block_lt_of_cell? _ _ hx227_0; first | rwa [add_block] at this | exact this) GW226.out); replace hx227_0 := (HB.out.cell (World.block_lt_of_cell? w _ hx227_0)).trans hx227_0; replace hx227_0 := (cell_far (p := ⟨gb226, 0, none⟩) (by first | (rw [add_block]; exact hn227_0) | (show (Addr.add _ _).block ≠ _; rw [add_block]; exact hn227_0) | exact hn227_0) (.int .i64 ((rd_T124 (rd_L2 l0_1 x71_5) x78_6).f0))).trans hx227_0; replace hx227_0 := (cell_far (p := ⟨gb226, 1, none⟩) (by first | (rw [add_block]; exact hn227_1) | (show (Addr.add _ _).block ≠ _; rw [add_block]; exact hn227_1) | exact hn227_1) (.int .i64 ((rd_T124 (rd_L2 l0_1 x71_5) x78_6).f1))).trans hx227_0; replace hx227_0 := (cell_far (p := ⟨gb226, 2, none⟩) (by first | (rw [add_block]; exact hn227_2) | (show (Addr.add _ _).block ≠ _; rw [add_block]; exact hn227_2) | exact hn227_2) (.int .i64 ((rd_T124 (rd_L2 l0_1 x71_5) x78_6).f2))).trans hx227_0; (try have hy227_0 := fun (n_ : Nat) => (show (((((w54.drewN n_).setCell ⟨gb226, 0, none⟩ (.int .i64 ((rd_T124 (rd_L2 l0_1 x71_5) x78_6).f0))).setCell ⟨gb226, 1, none⟩ (.int .i64 ((rd_T124 (rd_L2 l0_1 x71_5) x78_6).f1))).setCell ⟨gb226, 2, none⟩ (.int .i64 ((rd_T124 (rd_L2 l0_1 x71_5) x78_6).f2)))).cell? _ = some _ from hx227_0)); clear hn227_0; clear hn227_1; clear hn227_2; replace p227 := eq_true p227; replace q227 := eq_true q227; have p228 : 0 ≤ ((ji46) : Int) := of_decide_eq_true (by first | (with_reducible assumption) | assumption); have q228 : (ji46) < (l0_0.length : Int) := of_decide_eq_true (by first | (with_reducible assumption) | assumption); obtain ⟨ad228, e228, hx228_0⟩ := Kd.at_int HR0_0.out (ji46) p228 q228; obtain rfl : ad227 = ad228 := (by injection e228); have hn228_0 : ad227.block ≠ gb226 := Nat.ne_of_lt (Nat.lt_of_lt_of_le (by have := World.block_lt_of_cell? _ _ hx228_0; first | rwa [add_block] at this | exact this) GW226.out); have hn228_1 : ad227.block ≠ gb226 := Nat.ne_of_lt (Nat.lt_of_lt_of_le (by have := World.block_lt_of_cell? _ _ hx228_0; first | rwa [add_block] at this | exact this) GW226.out); have hn228_2 : ad227.block ≠ gb226 := Nat.ne_of_lt (Nat.lt_of_lt_of_le (by have := World.block_lt_of_cell? _ _ hx228_0; first | rwa [add_block] at this | exact this) GW226.out); replace hx228_0 := (HB.out.cell (World.block_lt_of_cell? w _ hx228_0)).trans hx228_0; replace hx228_0 := (cell_far (p := ⟨gb226, 0, none⟩) (by first | (rw [add_block]; exact hn228_0) | (show (Addr.add _ _).block ≠ _; rw [add_block]; exact hn228_0) | exact hn228_0) (.int .i64 ((rd_T124 (rd_L2 l0_1 x71_5) x78_6).f0))).trans hx228_0; replace hx228_0 := (cell_far (p := ⟨gb226, 1, none⟩) (by first | (rw [add_block]; exact hn228_1) | (show (Addr.add _ _).block ≠ _; rw [add_block]; exact hn228_1) | exact hn228_1) (.int .i64 ((rd_T124 (rd_L2 l0_1 x71_5) x78_6).f1))).trans hx228_0; replace hx228_0 := (cell_far (p := ⟨gb226, 2, none⟩) (by first | (rw [add_block]; exact hn228_2) | (show (Addr.add _ _).block ≠ _; rw [add_block]; exact hn228_2) | exact hn228_2) (.int .i64 ((rd_T124 (rd_L2 l0_1 x71_5) x78_6).f2))).trans hx228_0; (try have hy228_0 := fun (n_ : Nat) => (show (((((w54.drewN n_).setCell ⟨gb226, 0, none⟩ (.int .i64 ((rd_T124 (rd_L2 l0_1 x71_5) x78_6).f0))).setCell ⟨gb226, 1, none⟩ (.int .i64 ((rd_T124 (rd_L2 l0_1 x71_5) x78_6).f1))).setCell ⟨gb226, 2, none⟩ (.int .i64 ((rd_T124 (rd_L2 l0_1 x71_5) x78_6).f2)))).cell? _ = some _ from hx228_0)); clear hn228_0; clear hn228_1; clear hn228_2; replace p228 := eq_true p228; replace q228 := eq_true q228))
                                                              repeat (go_quiet (first | ((with_reducible refine gate_dst (N := 14) rfl ?_); (try (refine gate_guard (by rfl) ?_; dsimp only)); refine box_event ?hg (N := 14) ?hd (cs := #[.int .i64 0, .int .i64 0, .int .i64 0]) (t := 124) ?hr ?_; (case hd => rfl); (case hg => rfl); (case hr => first | (go_simp; done) | (go_simp; rfl)); intro gb226 hg w54 hbox hb; have n0_ := Aside0.mk (blk_below (g := gb220) (o := .cells #[.slice A0_0 l0_0.length c0_0, .slice (some ad224) l0_1.length c0_1] 37 (0, 0)) (by (with_reducible repeat (first | refine blk_drewN ?_ _ | refine blk_drew ?_ | refine blk_alloc ?_ _)); exact BK220.out) hb); have n1_ := Aside0.mk (below_step (by repeat (first | (with_reducible first | exact HB.out | apply below_alloc | apply pw_below_drewN | apply below_drew1 | refine below_set ?_ GE220.out) | exact HB.out)) hb); have n2_ := Aside0.mk (hbox); have n3_ := Aside0.mk ((by rw [hg]; exact (below_size (by repeat (first | (with_reducible first | exact HB.out | apply below_alloc | apply pw_below_drewN | apply below_drew1 | refine below_set ?_ GE220.out) | exact HB.out))) : w.heap.size ≤ gb226)); have n4_ := Aside0.mk ((by rw [hg]; exact (below_size (by repeat (first | (with_reducible first | exact HB.out | apply below_alloc | apply pw_below_drewN | apply below_drew1 | refine below_set ?_ GE220.out) | exact HB.out))) : w.heap.size ≤ gb226)); have n5_ := Aside0.mk ((by rw [hg]; exact Nat.ne_of_lt (blk_lt (g := gb220) (o := .cells #[.slice A0_0 l0_0.length c0_0, .slice (some ad224) l0_1.length c0_1] 37 (0, 0)) (by (with_reducible repeat (first | refine blk_drewN ?_ _ | refine blk_drew ?_ | refine blk_alloc ?_ _)); exact BK220.out)) : gb220 ≠ gb226)); have n6_ := Aside0.mk ((by rw [hg]; exact Nat.ne_of_gt (blk_lt (g := gb220) (o := .cells #[.slice A0_0 l0_0.length c0_0, .slice (some ad224) l0_1.length c0_1] 37 (0, 0)) (by (with_reducible repeat (first | refine blk_drewN ?_ _ | refine blk_drew ?_ | refine blk_alloc ?_ _)); exact BK220.out)) : gb226 ≠ gb220)); clear BK220; clear HB; have BK220 := n0_; have HB := n1_; have BK226 := n2_; have GW226 := n3_; have GE226 := n4_; have NB220_226 := n5_; have NB226_220 := n6_; clear n0_ n1_ n2_ n3_ n4_ n5_ n6_; clear hb hbox hg; have hnb55 := NB226_220.out; have hnc55 := NB220_226.out; have hcz56_0 : w54.cell? ⟨gb226, 0, none⟩ = some (.int .i64 0) := (blk_cell BK226.out 0).trans rfl; have hcz56_1 : w54.cell? ⟨gb226, 1, none⟩ = some (.int .i64 0) := (blk_cell BK226.out 1).trans rfl; have hcz56_2 : w54.cell? ⟨gb226, 2, none⟩ = some (.int .i64 0) := (blk_cell BK226.out 2).trans rfl; have hfz56_0 := blk_frozen BK226.out 0; have hfz56_1 := blk_frozen BK226.out 1; have hfz56_2 := blk_frozen BK226.out 2; have hcz57_0 : w54.cell? ⟨gb220, 0, none⟩ = some (.slice A0_0 l0_0.length c0_0) := (blk_cell BK220.out 0).trans rfl; have hcz57_1 : w54.cell? ⟨gb220, 1, none⟩ = some (.slice (some ad224) l0_1.length c0_1) := (blk_cell BK220.out 1).trans rfl; have hfz57_0 := blk_frozen BK220.out 0; have hfz57_1 := blk_frozen BK220.out 1; have p227 : 0 ≤ (x71_5 : Int) := of_decide_eq_true (by first | (with_reducible assumption) | assumption); have q227 : x71_5 < (l0_0.length : Int) := of_decide_eq_true (by first | (with_reducible assumption) | assumption); obtain ⟨ad227, e227, hx227_0⟩ := Kd.at_int HR0_0.out x71_5 p227 q227; cases e227; have hn227_0 : ad227.block ≠ gb226 := Nat.ne_of_lt (Nat.lt_of_lt_of_le (by have := World.block_lt_of_cell? _ _ hx227_0; first | rwa [add_block] at this | exact this) GW226.out); have hn227_1 : ad227.block ≠ gb226 := Nat.ne_of_lt (Nat.lt_of_lt_of_le (by have := World.block_lt_of_cell? _ _ hx227_0; first | rwa [add_block] at this | exact this) GW226.out); have hn227_2 : ad227.block ≠ gb226 := Nat.ne_of_lt (Nat.lt_of_lt_of_le (by have := World.block_lt_of_cell? _ _ hx227_0; first | rwa [add_block] at this | exact this) GW226.out); replace hx227_0 := (HB.out.cell (World.block_lt_of_cell? w _ hx227_0)).trans hx227_0; replace hx227_0 := (cell_far (p := ⟨gb226, 0, none⟩) (by first | (rw [add_block]; exact hn227_0) | (show (Addr.add _ _).block ≠ _; rw [add_block]; exact hn227_0) | exact hn227_0) (.int .i64 ((rd_T124 (rd_L2 l0_1 x71_5) x78_6).f0))).trans hx227_0; replace hx227_0 := (cell_far (p := ⟨gb226, 1, none⟩) (by first | (rw [add_block]; exact hn227_1) | (show (Addr.add _ _).block ≠ _; rw [add_block]; exact hn227_1) | exact hn227_1) (.int .i64 ((rd_T124 (rd_L2 l0_1 x71_5) x78_6).f1))).trans hx227_0; replace hx227_0 := (cell_far (p := ⟨gb226, 2, none⟩) (by first | (rw [add_block]; exact hn227_2) | (show (Addr.add _ _).block ≠ _; rw [add_block]; exact hn227_2) | exact hn227_2) (.int .i64 ((rd_T124 (rd_L2 l0_1 x71_5) x78_6).f2))).trans hx227_0; (try have hy227_0 := fun (n_ : Nat) => (show (((((w54.drewN n_).setCell ⟨gb226, 0, none⟩ (.int .i64 ((rd_T124 (rd_L2 l0_1 x71_5) x78_6).f0))).setCell ⟨gb226, 1, none⟩ (.int .i64 ((rd_T124 (rd_L2 l0_1 x71_5) x78_6).f1))).setCell ⟨gb226, 2, none⟩ (.int .i64 ((rd_T124 (rd_L2 l0_1 x71_5) x78_6).f2)))).cell? _ = some _ from hx227_0)); clear hn227_0; clear hn227_1; clear hn227_2; replace p227 := eq_true p227; replace q227 := eq_true q227; have p228 : 0 ≤ ((ji46) : Int) := of_decide_eq_true (by first | (with_reducible assumption) | assumption); have q228 : (ji46) < (l0_0.length : Int) := of_decide_eq_true (by first | (with_reducible assumption) | assumption); obtain ⟨ad228, e228, hx228_0⟩ := Kd.at_int HR0_0.out (ji46) p228 q228; obtain rfl : ad227 = ad228 := (by injection e228); have hn228_0 : ad227.block ≠ gb226 := Nat.ne_of_lt (Nat.lt_of_lt_of_le (by have := World.block_lt_of_cell? _ _ hx228_0; first | rwa [add_block] at this | exact this) GW226.out); have hn228_1 : ad227.block ≠ gb226 := Nat.ne_of_lt (Nat.lt_of_lt_of_le (by have := World.block_lt_of_cell? _ _ hx228_0; first | rwa [add_block] at this | exact this) GW226.out); have hn228_2 : ad227.block ≠ gb226 := Nat.ne_of_lt (Nat.lt_of_lt_of_le (by have := World.block_lt_of_cell? _ _ hx228_0; first | rwa [add_block] at this | exact this) GW226.out); replace hx228_0 := (HB.out.cell (World.block_lt_of_cell? w _ hx228_0)).trans hx228_0; replace hx228_0 := (cell_far (p := ⟨gb226, 0, none⟩) (by first | (rw [add_block]; exact hn228_0) | (show (Addr.add _ _).block ≠ _; rw [add_block]; exact hn228_0) | exact hn228_0) (.int .i64 ((rd_T124 (rd_L2 l0_1 x71_5) x78_6).f0))).trans hx228_0; replace hx228_0 := (cell_far (p := ⟨gb226, 1, none⟩) (by first | (rw [add_block]; exact hn228_1) | (show (Addr.add _ _).block ≠ _; rw [add_block]; exact hn228_1) | exact hn228_1) (.int .i64 ((rd_T124 (rd_L2 l0_1 x71_5) x78_6).f1))).trans hx228_0; replace hx228_0 := (cell_far (p := ⟨gb226, 2, none⟩) (by first | (rw [add_block]; exact hn228_2) | (show (Addr.add _ _).block ≠ _; rw [add_block]; exact hn228_2) | exact hn228_2) (.int .i64 ((rd_T124 (rd_L2 l0_1 x71_5) x78_6).f2))).trans hx228_0; (try have hy228_0 := fun (n_ : Nat) => (show (((((w54.drewN n_).setCell ⟨gb226, 0, none⟩ (.int .i64 ((rd_T124 (rd_L2 l0_1 x71_5) x78_6).f0))).setCell ⟨gb226, 1, none⟩ (.int .i64 ((rd_T124 (rd_L2 l0_1 x71_5) x78_6).f1))).setCell ⟨gb226, 2, none⟩ (.int .i64 ((rd_T124 (rd_L2 l0_1 x71_5) x78_6).f2)))).cell? _ = some _ from hx228_0)); clear hn228_0; clear hn228_1; clear hn228_2; replace p228 := eq_true p228; replace q228 := eq_true q228)); try go_wp2_with (first | ((with_reducible refine gate_dst (N := 14) rfl ?_); (try (refine gate_guard (by rfl) ?_; dsimp only)); refine box_event ?hg (N := 14) ?hd (cs := #[.int .i64 0, .int .i64 0, .int .i64 0]) (t := 124) ?hr ?_; (case hd => rfl); (case hg => rfl); (case hr => first | (go_simp; done) | (go_simp; rfl)); intro gb226 hg w54 hbox hb; have n0_ := Aside0.mk (blk_below (g := gb220) (o := .cells #[.slice A0_0 l0_0.length c0_0, .slice (some ad224) l0_1.length c0_1] 37 (0, 0)) (by (with_reducible repeat (first | refine blk_drewN ?_ _ | refine blk_drew ?_ | refine blk_alloc ?_ _)); exact BK220.out) hb); have n1_ := Aside0.mk (below_step (by repeat (first | (with_reducible first | exact HB.out | apply below_alloc | apply pw_below_drewN | apply below_drew1 | refine below_set ?_ GE220.out) | exact HB.out)) hb); have n2_ := Aside0.mk (hbox); have n3_ := Aside0.mk ((by rw [hg]; exact (below_size (by repeat (first | (with_reducible first | exact HB.out | apply below_alloc | apply pw_below_drewN | apply below_drew1 | refine below_set ?_ GE220.out) | exact HB.out))) : w.heap.size ≤ gb226)); have n4_ := Aside0.mk ((by rw [hg]; exact (below_size (by repeat (first | (with_reducible first | exact HB.out | apply below_alloc | apply pw_below_drewN | apply below_drew1 | refine below_set ?_ GE220.out) | exact HB.out))) : w.heap.size ≤ gb226)); have n5_ := Aside0.mk ((by rw [hg]; exact Nat.ne_of_lt (blk_lt (g := gb220) (o := .cells #[.slice A0_0 l0_0.length c0_0, .slice (some ad224) l0_1.length c0_1] 37 (0, 0)) (by (with_reducible repeat (first | refine blk_drewN ?_ _ | refine blk_drew ?_ | refine blk_alloc ?_ _)); exact BK220.out)) : gb220 ≠ gb226)); have n6_ := Aside0.mk ((by rw [hg]; exact Nat.ne_of_gt (blk_lt (g := gb220) (o := .cells #[.slice A0_0 l0_0.length c0_0, .slice (some ad224) l0_1.length c0_1] 37 (0, 0)) (by (with_reducible repeat (first | refine blk_drewN ?_ _ | refine blk_drew ?_ | refine blk_alloc ?_ _)); exact BK220.out)) : gb226 ≠ gb220)); clear BK220; clear HB; have BK220 := n0_; have HB := n1_; have BK226 := n2_; have GW226 := n3_; have GE226 := n4_; have NB220_226 := n5_; have NB226_220 := n6_; clear n0_ n1_ n2_ n3_ n4_ n5_ n6_; clear hb hbox hg; have hnb55 := NB226_220.out; have hnc55 := NB220_226.out; have hcz56_0 : w54.cell? ⟨gb226, 0, none⟩ = some (.int .i64 0) := (blk_cell BK226.out 0).trans rfl; have hcz56_1 : w54.cell? ⟨gb226, 1, none⟩ = some (.int .i64 0) := (blk_cell BK226.out 1).trans rfl; have hcz56_2 : w54.cell? ⟨gb226, 2, none⟩ = some (.int .i64 0) := (blk_cell BK226.out 2).trans rfl; have hfz56_0 := blk_frozen BK226.out 0; have hfz56_1 := blk_frozen BK226.out 1; have hfz56_2 := blk_frozen BK226.out 2; have hcz57_0 : w54.cell? ⟨gb220, 0, none⟩ = some (.slice A0_0 l0_0.length c0_0) := (blk_cell BK220.out 0).trans rfl; have hcz57_1 : w54.cell? ⟨gb220, 1, none⟩ = some (.slice (some ad224) l0_1.length c0_1) := (blk_cell BK220.out 1).trans rfl; have hfz57_0 := blk_frozen BK220.out 0; have hfz57_1 := blk_frozen BK220.out 1; have p227 : 0 ≤ (x71_5 : Int) := of_decide_eq_true (by first | (with_reducible assumption) | assumption); have q227 : x71_5 < (l0_0.length : Int) := of_decide_eq_true (by first | (with_reducible assumption) | assumption); obtain ⟨ad227, e227, hx227_0⟩ := Kd.at_int HR0_0.out x71_5 p227 q227; cases e227; have hn227_0 : ad227.block ≠ gb226 := Nat.ne_of_lt (Nat.lt_of_lt_of_le (by have := World.block_lt_of_cell? _ _ hx227_0; first | rwa [add_block] at this | exact this) GW226.out); have hn227_1 : ad227.block ≠ gb226 := Nat.ne_of_lt (Nat.lt_of_lt_of_le (by have := World.block_lt_of_cell? _ _ hx227_0; first | rwa [add_block] at this | exact this) GW226.out); have hn227_2 : ad227.block ≠ gb226 := Nat.ne_of_lt (Nat.lt_of_lt_of_le (by have := World.block_lt_of_cell? _ _ hx227_0; first | rwa [add_block] at this | exact this) GW226.out); replace hx227_0 := (HB.out.cell (World.block_lt_of_cell? w _ hx227_0)).trans hx227_0; replace hx227_0 := (cell_far (p := ⟨gb226, 0, none⟩) (by first | (rw [add_block]; exact hn227_0) | (show (Addr.add _ _).block ≠ _; rw [add_block]; exact hn227_0) | exact hn227_0) (.int .i64 ((rd_T124 (rd_L2 l0_1 x71_5) x78_6).f0))).trans hx227_0; replace hx227_0 := (cell_far (p := ⟨gb226, 1, none⟩) (by first | (rw [add_block]; exact hn227_1) | (show (Addr.add _ _).block ≠ _; rw [add_block]; exact hn227_1) | exact hn227_1) (.int .i64 ((rd_T124 (rd_L2 l0_1 x71_5) x78_6).f1))).trans hx227_0; replace hx227_0 := (cell_far (p := ⟨gb226, 2, none⟩) (by first | (rw [add_block]; exact hn227_2) | (show (Addr.add _ _).block ≠ _; rw [add_block]; exact hn227_2) | exact hn227_2) (.int .i64 ((rd_T124 (rd_L2 l0_1 x71_5) x78_6).f2))).trans hx227_0; (try have hy227_0 := fun (n_ : Nat) => (show (((((w54.drewN n_).setCell ⟨gb226, 0, none⟩ (.int .i64 ((rd_T124 (rd_L2 l0_1 x71_5) x78_6).f0))).setCell ⟨gb226, 1, none⟩ (.int .i64 ((rd_T124 (rd_L2 l0_1 x71_5) x78_6).f1))).setCell ⟨gb226, 2, none⟩ (.int .i64 ((rd_T124 (rd_L2 l0_1 x71_5) x78_6).f2)))).cell? _ = some _ from hx227_0)); clear hn227_0; clear hn227_1; clear hn227_2; replace p227 := eq_true p227; replace q227 := eq_true q227; have p228 : 0 ≤ ((ji46) : Int) := of_decide_eq_true (by first | (with_reducible assumption) | assumption); have q228 : (ji46) < (l0_0.length : Int) := of_decide_eq_true (by first | (with_reducible assumption) | assumption); obtain ⟨ad228, e228, hx228_0⟩ := Kd.at_int HR0_0.out (ji46) p228 q228; obtain rfl : ad227 = ad228 := (by injection e228); have hn228_0 : ad227.block ≠ gb226 := Nat.ne_of_lt (Nat.lt_of_lt_of_le (by have := World.block_lt_of_cell? _ _ hx228_0; first | rwa [add_block] at this | exact this) GW226.out); have hn228_1 : ad227.block ≠ gb226 := Nat.ne_of_lt (Nat.lt_of_lt_of_le (by have := World.block_lt_of_cell? _ _ hx228_0; first | rwa [add_block] at this | exact this) GW226.out); have hn228_2 : ad227.block ≠ gb226 := Nat.ne_of_lt (Nat.lt_of_lt_of_le (by have := World.block_lt_of_cell? _ _ hx228_0; first | rwa [add_block] at this | exact this) GW226.out); replace hx228_0 := (HB.out.cell (World.block_lt_of_cell? w _ hx228_0)).trans hx228_0; replace hx228_0 := (cell_far (p := ⟨gb226, 0, none⟩) (by first | (rw [add_block]; exact hn228_0) | (show (Addr.add _ _).block ≠ _; rw [add_block]; exact hn228_0) | exact hn228_0) (.int .i64 ((rd_T124 (rd_L2 l0_1 x71_5) x78_6).f0))).trans hx228_0; replace hx228_0 := (cell_far (p := ⟨gb226, 1, none⟩) (by first | (rw [add_block]; exact hn228_1) | (show (Addr.add _ _).block ≠ _; rw [add_block]; exact hn228_1) | exact hn228_1) (.int .i64 ((rd_T124 (rd_L2 l0_1 x71_5) x78_6).f1))).trans hx228_0; replace hx228_0 := (cell_far (p := ⟨gb226, 2, none⟩) (by first | (rw [add_block]; exact hn228_2) | (show (Addr.add _ _).block ≠ _; rw [add_block]; exact hn228_2) | exact hn228_2) (.int .i64 ((rd_T124 (rd_L2 l0_1 x71_5) x78_6).f2))).trans hx228_0; (try have hy228_0 := fun (n_ : Nat) => (show (((((w54.drewN n_).setCell ⟨gb226, 0, none⟩ (.int .i64 ((rd_T124 (rd_L2 l0_1 x71_5) x78_6).f0))).setCell ⟨gb226, 1, none⟩ (.int .i64 ((rd_T124 (rd_L2 l0_1 x71_5) x78_6).f1))).setCell ⟨gb226, 2, none⟩ (.int .i64 ((rd_T124 (rd_L2 l0_1 x71_5) x78_6).f2)))).cell? _ = some _ from hx228_0)); clear hn228_0; clear hn228_1; clear hn228_2; replace p228 := eq_true p228; replace q228 := eq_true q228)))
                                                              go_roundg k6
                                                              case measure => have := HJ1.out; have := HK2.out; have := HK3.out; have := HK4.out; have := HK5.out; have := HK6.out; omega
                                                              case rel => exact ⟨(wrap64 (x78_6 + 1)), (by first | rfl | (simp; done) | (simp [*]; done)), H', ⟨by have := HJ1.out; have := HK2.out; have := HK3.out; have := HK4.out; have := HK5.out; have := HK6.out; omega⟩, ⟨by (with_reducible repeat (first | refine blk_drewN ?_ _ | refine blk_drew ?_ | refine blk_alloc ?_ _)); refine blk_far ?_ NB220_226.out _; (with_reducible repeat (first | refine blk_drewN ?_ _ | refine blk_drew ?_ | refine blk_alloc ?_ _)); refine blk_far ?_ NB220_226.out _; (with_reducible repeat (first | refine blk_drewN ?_ _ | refine blk_drew ?_ | refine blk_alloc ?_ _)); refine blk_far ?_ NB220_226.out _; (with_reducible repeat (first | refine blk_drewN ?_ _ | refine blk_drew ?_ | refine blk_alloc ?_ _)); exact BK220.out⟩, ⟨by repeat (first | (with_reducible first | exact HB.out | apply below_alloc | apply pw_below_drewN | apply below_drew1 | refine below_set ?_ GE220.out | refine below_set ?_ GE226.out) | exact HB.out)⟩⟩
                                                          · rw [if_neg c48] at H
                                                            exact absurd H (by simp)
                                                        · rw [if_neg c47] at H
                                                          exact absurd H (by simp)
                                                  · rw [if_neg c35] at H
                                                    exact absurd H (by simp)
                                                · rw [if_neg c34] at H
                                                  exact absurd H (by simp)
                                            · rw [if_neg c29] at H
                                              exact absurd H (by simp)
                                          · rw [if_neg c28] at H
                                            exact absurd H (by simp)
                                        · rw [if_neg c27] at H
                                          have c27b0 : decide (x78_6 < ((rd_L2 l0_1 x71_5).length : Int)) = false := decide_eq_false c27
                                          clear c27
                                          have H' := Aside0.mk H
                                          clear H
                                          go_wp2
                                          repeat (go_quiet (fail); try go_wp2)
                                          go_roundg k6
                                          case measure => have := HJ1.out; have := HK2.out; have := HK3.out; have := HK4.out; have := HK5.out; have := HK6.out; omega
                                          case rel => exact ⟨(wrap64 (x71_5 + 1)), (by first | rfl | (simp; done) | (simp [*]; done)), H', ⟨by have := HJ1.out; have := HK2.out; have := HK3.out; have := HK4.out; have := HK5.out; have := HK6.out; omega⟩, ⟨by (with_reducible repeat (first | refine blk_drewN ?_ _ | refine blk_drew ?_ | refine blk_alloc ?_ _)); exact BK220.out⟩, ⟨by repeat (first | (with_reducible first | exact HB.out | apply below_alloc | apply pw_below_drewN | apply below_drew1 | refine below_set ?_ GE220.out) | exact HB.out)⟩⟩
                                  · rw [if_neg c26] at H
                                    exact absurd H (by simp)
                                · rw [if_neg c25] at H
                                  exact absurd H (by simp)
                              · rw [if_neg c24] at H
                                have c24b0 : decide (x71_5 < (l0_1.length : Int)) = false := decide_eq_false c24
                                clear c24
                                obtain rfl := Option.some.inj H
                                go_wp2
                                repeat (go_quiet (fail); try go_wp2)
                                go_ret
                                exact ⟨by first | rfl | (simp [errW_none, errW_some] <;> rfl) | (simp [*, errW_none, errW_some] <;> rfl), by repeat (first | (with_reducible first | exact HB.out | apply below_alloc | apply pw_below_drewN | apply below_drew1 | refine below_set ?_ GE220.out) | exact HB.out)⟩

end Go.Proofs.Ytecfdemglbfnoaa.PT
