/- Walks of functions of the program, printed by a program of this session out of the translation: each call of such a function comes to what the function of the same name beside it says. No condition beyond those that each theorem names. -/
import Derived.Test.YtecfdemglbfnoaaPT0
import Derived.Test.YtecfdemglbfnoaaPT7
import Derived.Test.YtecfdemglbfnoaaPT10
namespace Go.Proofs.Ytecfdemglbfnoaa.PT
open Go.RowKit Go.Proofs.YtecfdemglbfnoaaW.PrintWords Go.Proofs.YtecfdemglbfnoaaW.PrintLast Go.Proofs.YtecfdemglbfnoaaW.PrintMore
attribute [local go_sem] max2_int min2_int max_two min_two max_three min_three max_four min_four   -- for this text's walks alone
set_option linter.unusedVariables false
set_option linter.unusedSimpArgs false

/-! ### semiring_MinPlus_117: function 117 -/
def semiring_MinPlus_117.l0 : Nat → Int → List Int → Int → Int → Option (Int)
  | 0, _, _, _, _ => none
  | k + 1, x5, x11, x12, x13 => if x13 < x12 then (if 0 ≤ x13 then (if x13 < (x11.length : Int) then ((semiring_MinPlus_Add.f x5 (rd x11 x13)).bind fun t2907 => (semiring_MinPlus_117.l0 k t2907 x11 x12 (wrap64 (x13 + 1)))) else (none)) else (none)) else (some x5)
def semiring_MinPlus_117.f (k : Nat)  (l1 : List Int) : Option (Int) := (semiring_MinPlus_Zero.f).bind fun t2905 => (semiring_MinPlus_117.l0 k t2905 l1 (l1.length : Int) 0)
theorem semiring_MinPlus_117.mono_l : ∀ k, (∀ y0 y1 y2 y3, LeO (semiring_MinPlus_117.l0 k y0 y1 y2 y3) (semiring_MinPlus_117.l0 (k + 1) y0 y1 y2 y3))
  | 0 => fun _ _ _ _ r h => by simp [semiring_MinPlus_117.l0] at h
  | k + 1 => by
    have ih0 := semiring_MinPlus_117.mono_l k
    · intro y0 y1 y2 y3
      unfold semiring_MinPlus_117.l0
      repeat' first
      | (with_reducible exact ih0 _ _ _ _)
      | (with_reducible exact LeO.refl _)
      | (with_reducible exact LeO.none _)
      | (with_reducible refine LeO.ite ?_ ?_)
      | (with_reducible refine LeO.bind ?_ (fun _ => ?_))
      | exact ih0 _ _ _ _
      | exact LeO.none _
      | refine LeO.ite ?_ ?_
      | refine LeO.bind ?_ (fun _ => ?_)
theorem semiring_MinPlus_117.mono : ∀ a0 k, LeO (semiring_MinPlus_117.f k a0) (semiring_MinPlus_117.f (k + 1) a0) := by
  intro a0 k
  have ih0 := semiring_MinPlus_117.mono_l k
  unfold semiring_MinPlus_117.f
  repeat' first
      | (with_reducible exact ih0 _ _ _ _)
      | (with_reducible exact LeO.refl _)
      | (with_reducible exact LeO.none _)
      | (with_reducible refine LeO.ite ?_ ?_)
      | (with_reducible refine LeO.bind ?_ (fun _ => ?_))
      | exact ih0 _ _ _ _
      | exact LeO.none _
      | refine LeO.ite ?_ ?_
      | refine LeO.bind ?_ (fun _ => ?_)
set_option maxHeartbeats 8000000 in
set_option maxRecDepth 100000 in
theorem semiring_MinPlus_117.calls (k : Nat)  (A1 : Option Addr) (c1 : Nat) (l1 : List Int) (r : Int) (w : World) (hr1 : Kd.C (Kd.int .i64) w A1 l1.length l1) (hc1 : l1.length ≤ c1) (h : semiring_MinPlus_117.f k l1 = some r) :
    Calls Try.prog 117 #[.agg #[], .slice A1 l1.length c1] w fun e w' => e = .returned (.int .i64 r) ∧ Below w.heap.size w w' := by
  have hu27 := Try.underlying27
  have hm27_Add : ∀ W : World, (method 268 27 (.agg #[]) "Add").run Try.prog W = .ok (35, .agg #[]) W := fun _ => by kernel_rfl
  have hm27_Zero : ∀ W : World, (method 268 27 (.agg #[]) "Zero").run Try.prog W = .ok (33, .agg #[]) W := fun _ => by kernel_rfl
  have HR1 := Aside0.mk hr1
  have HC1 := Aside0.mk hc1
  clear hr1 hc1
  have HB := Aside0.mk (Below.refl w.heap.size w)
  have H : ((semiring_MinPlus_Zero.f).bind fun t2905 => (semiring_MinPlus_117.l0 k t2905 l1 (l1.length : Int) 0)) = some r := h
  clear h
  replace H := Option.bind_eq_some_iff.mp H
  obtain ⟨t2905, A30, H⟩ := H
  replace H : (semiring_MinPlus_117.l0 k t2905 l1 (l1.length : Int) 0) = some r := H
  have A3 := Aside0.mk A30
  clear A30
  have H' := Aside0.mk H
  clear H
  go_enter Try.func117, Try.ntmps117
  go_wp2_with (first | ((with_reducible refine gate_dst (N := 2) rfl ?_); refine box_event ?hg (N := 2) ?hd (cs := #[]) (t := 27) ?hr ?_; (case hd => rfl); (case hg => rfl); (case hr => first | (go_simp; done) | (go_simp; rfl)); intro gb2904 hg w4 hbox hb; have n0_ := Aside0.mk (below_step (by repeat (first | (with_reducible first | exact HB.out | apply below_alloc | apply pw_below_drewN | apply below_drew1) | exact HB.out)) hb); have n1_ := Aside0.mk (hbox); have n2_ := Aside0.mk ((by rw [hg]; exact (below_size (by repeat (first | (with_reducible first | exact HB.out | apply below_alloc | apply pw_below_drewN | apply below_drew1) | exact HB.out))) : w.heap.size ≤ gb2904)); have n3_ := Aside0.mk ((by rw [hg]; exact (below_size (by repeat (first | (with_reducible first | exact HB.out | apply below_alloc | apply pw_below_drewN | apply below_drew1) | exact HB.out))) : w.heap.size ≤ gb2904)); clear HB; have HB := n0_; have BK2904 := n1_; have GW2904 := n2_; have GE2904 := n3_; clear n0_ n1_ n2_ n3_; clear hb hbox hg) | (go_at_call 33; (with_reducible refine (semiring_MinPlus_Zero.calls  t2905 _ A3.out).mono ?_); rintro e w6 ⟨rfl, hb⟩; have n0_ := Aside0.mk (blk_below (g := gb2904) (o := .cells #[] 27 (0, 0)) (by (with_reducible repeat (first | refine blk_drewN ?_ _ | refine blk_drew ?_ | refine blk_alloc ?_ _)); exact BK2904.out) hb); have n1_ := Aside0.mk (below_step (by repeat (first | (with_reducible first | exact HB.out | apply below_alloc | apply pw_below_drewN | apply below_drew1 | refine below_set ?_ GE2904.out) | exact HB.out)) hb); clear BK2904; clear HB; have BK2904 := n0_; have HB := n1_; clear n0_ n1_; (try clear hb); (try clear hb2); (try clear hk); (try clear hi)))
  go_loopg [5, 13] k (fun kq v5 v13 w' => ∃ (x5_1 : Int) (x13_1 : Int), v5 = .int .i64 x5_1 ∧ v13 = .int .i64 x13_1 ∧ Aside0 (semiring_MinPlus_117.l0 kq x5_1 l1 (l1.length : Int) x13_1 = some r) ∧ Aside0 (kq ≤ k) ∧ Aside0 (w'.heap[gb2904]? = some (.cells #[] 27 (0, 0))) ∧ Aside0 (Below w.heap.size w w'))
  case atStart => exact ⟨(t2905), (0), (by first | rfl | (simp; done) | (simp [*]; done)), (by first | rfl | (simp; done) | (simp [*]; done)), H', ⟨Nat.le_refl _⟩, ⟨by (with_reducible repeat (first | refine blk_drewN ?_ _ | refine blk_drew ?_ | refine blk_alloc ?_ _)); exact BK2904.out⟩, ⟨by repeat (first | (with_reducible first | exact HB.out | apply below_alloc | apply pw_below_drewN | apply below_drew1 | refine below_set ?_ GE2904.out) | exact HB.out)⟩⟩
  case round =>
    clear H'
    try clear c1
    try clear p2
    obtain ⟨x5_1, x13_1, rfl, rfl, HA, HK1, BK2904, HB⟩ := hrel
    cases gk with
    | zero => exact absurd HA.out (by simp [semiring_MinPlus_117.l0])
    | succ k1 =>
      have H := HA.out
      clear HA
      simp only [semiring_MinPlus_117.l0] at H
      by_cases c7 : x13_1 < (l1.length : Int)
      · rw [if_pos c7] at H
        have c7b0 : decide (x13_1 < (l1.length : Int)) = true := decide_eq_true c7
        clear c7
        by_cases c8 : 0 ≤ x13_1
        · rw [if_pos c8] at H
          have c8b0 : decide (0 ≤ x13_1) = true := decide_eq_true c8
          clear c8
          by_cases c9 : x13_1 < (l1.length : Int)
          · rw [if_pos c9] at H
            have c9b0 : decide (x13_1 < (l1.length : Int)) = true := decide_eq_true c9
            clear c9
            replace H := Option.bind_eq_some_iff.mp H
            obtain ⟨t2907, A100, H⟩ := H
            replace H : (semiring_MinPlus_117.l0 k1 t2907 l1 (l1.length : Int) (wrap64 (x13_1 + 1))) = some r := H
            have A10 := Aside0.mk A100
            clear A100
            have H' := Aside0.mk H
            clear H
            have p2906 : 0 ≤ (x13_1 : Int) := of_decide_eq_true (by first | (with_reducible assumption) | assumption)
            have q2906 : x13_1 < (l1.length : Int) := of_decide_eq_true (by first | (with_reducible assumption) | assumption)
            obtain ⟨ad2906, e2906, hx2906_0⟩ := Kd.at_int HR1.out x13_1 p2906 q2906
            cases e2906
            replace hx2906_0 := (HB.out.cell (World.block_lt_of_cell? w _ hx2906_0)).trans hx2906_0
            replace p2906 := eq_true p2906
            replace q2906 := eq_true q2906
            go_wp2_with (first | (go_at_call 35; (with_reducible refine (semiring_MinPlus_Add.calls  x5_1 (rd l1 x13_1) t2907 _ A10.out).mono ?_); rintro e w12 ⟨rfl, hb⟩; have n0_ := Aside0.mk (blk_below (g := gb2904) (o := .cells #[] 27 (0, 0)) (by (with_reducible repeat (first | refine blk_drewN ?_ _ | refine blk_drew ?_ | refine blk_alloc ?_ _)); exact BK2904.out) hb); have n1_ := Aside0.mk (below_step (by repeat (first | (with_reducible first | exact HB.out | apply below_alloc | apply pw_below_drewN | apply below_drew1 | refine below_set ?_ GE2904.out) | exact HB.out)) hb); clear BK2904; clear HB; have BK2904 := n0_; have HB := n1_; clear n0_ n1_; (try clear hb); (try clear hb2); (try clear hk); (try clear hi)))
            go_roundg k1
            case measure => have := HK1.out; omega
            case rel => exact ⟨(t2907), (wrap64 (x13_1 + 1)), (by first | rfl | (simp; done) | (simp [*]; done)), (by first | rfl | (simp; done) | (simp [*]; done)), H', ⟨by have := HK1.out; omega⟩, ⟨by (with_reducible repeat (first | refine blk_drewN ?_ _ | refine blk_drew ?_ | refine blk_alloc ?_ _)); exact BK2904.out⟩, ⟨by repeat (first | (with_reducible first | exact HB.out | apply below_alloc | apply pw_below_drewN | apply below_drew1 | refine below_set ?_ GE2904.out) | exact HB.out)⟩⟩
          · rw [if_neg c9] at H
            exact absurd H (by simp)
        · rw [if_neg c8] at H
          exact absurd H (by simp)
      · rw [if_neg c7] at H
        have c7b0 : decide (x13_1 < (l1.length : Int)) = false := decide_eq_false c7
        clear c7
        obtain rfl := Option.some.inj H
        go_wp2
        go_ret
        exact ⟨by first | rfl | (simp [errW_none, errW_some] <;> rfl) | (simp [*, errW_none, errW_some] <;> rfl), by repeat (first | (with_reducible first | exact HB.out | apply below_alloc | apply pw_below_drewN | apply below_drew1 | refine below_set ?_ GE2904.out) | exact HB.out)⟩

end Go.Proofs.Ytecfdemglbfnoaa.PT
