/- Walks of functions of the program, printed by a program of this session out of the translation: each call of such a function comes to what the function of the same name beside it says. No condition beyond those that each theorem names. -/
import Derived.Test.YtecfdemglbfnoaaPT0
import Derived.Test.YtecfdemglbfnoaaPT11
import Derived.Test.YtecfdemglbfnoaaPT14
import Derived.Test.YtecfdemglbfnoaaPT21
import Derived.Test.YtecfdemglbfnoaaPT23
import Derived.Test.YtecfdemglbfnoaaPT154
import Derived.Test.YtecfdemglbfnoaaPT155
import Derived.Test.YtecfdemglbfnoaaPT156
import Derived.Test.YtecfdemglbfnoaaPT157
namespace Go.Proofs.Ytecfdemglbfnoaa.PT
open Go.RowKit Go.Proofs.YtecfdemglbfnoaaW.PrintWords Go.Proofs.YtecfdemglbfnoaaW.PrintLast Go.Proofs.YtecfdemglbfnoaaW.PrintMore
attribute [local go_sem] max2_int min2_int max_two min_two max_three min_three max_four min_four   -- for this text's walks alone
set_option linter.unusedVariables false
set_option linter.unusedSimpArgs false

/-! ### codewrightlaw46_SemiringSums: function 23 -/
mutual
def codewrightlaw46_SemiringSums.l0 : Nat → List Int → Int → Int → Int → Option (Bool)
  | 0, _, _, _, _ => none
  | k + 1, x0, x4, x5, x6 => if x6 < (x0.length : Int) then (if 0 ≤ x6 then ((codewrightref46_Min.f (rd x0 x6)).bind fun t2922 => ((codewrightref46_MinMul.f x5 (rd x0 x6)).bind fun t2924 => (codewrightlaw46_SemiringSums.l0 k x0 (mn x4 t2922) t2924 (wrap64 (x6 + 1))))) else (none)) else ((semiring_MinPlus_117.f k x0).bind fun t2925 => (if t2925 = x4 then ((semiring_MinPlus_118.f k x0).bind fun t2926 => (codewrightlaw46_SemiringSums.j1 k x0 (t2926 != x5))) else (codewrightlaw46_SemiringSums.j1 k x0 true)))
def codewrightlaw46_SemiringSums.j1 : Nat → List Int → Bool → Option (Bool)
  | 0, _, _ => none
  | k + 1, x0, x41 => if x41 = true then (none) else (codewrightlaw46_SemiringSums.l1 k x0 (-1) 0 0)
def codewrightlaw46_SemiringSums.l1 : Nat → List Int → Int → Int → Int → Option (Bool)
  | 0, _, _, _, _ => none
  | k + 1, x0, x7, x8, x9 => if x9 < (x0.length : Int) then (if 0 ≤ x9 then ((codewrightref46_Max.f (rd x0 x9)).bind fun t2928 => ((codewrightref46_MaxMul.f x8 (rd x0 x9)).bind fun t2930 => (codewrightlaw46_SemiringSums.l1 k x0 (mx x7 t2928) t2930 (wrap64 (x9 + 1))))) else (none)) else ((semiring_MaxPlus_119.f k x0).bind fun t2931 => (if t2931 = x7 then ((semiring_MaxPlus_120.f k x0).bind fun t2932 => (some (t2932 == x8))) else (none)))
end
def codewrightlaw46_SemiringSums.f (k : Nat) (l0 : List Int) : Option (Bool) := codewrightlaw46_SemiringSums.l0 k l0 4611686018427387904 0 0
theorem codewrightlaw46_SemiringSums.mono_l : ∀ k, (∀ y0 y1 y2 y3, LeO (codewrightlaw46_SemiringSums.l0 k y0 y1 y2 y3) (codewrightlaw46_SemiringSums.l0 (k + 1) y0 y1 y2 y3)) ∧ (∀ y0 y1, LeO (codewrightlaw46_SemiringSums.j1 k y0 y1) (codewrightlaw46_SemiringSums.j1 (k + 1) y0 y1)) ∧ (∀ y0 y1 y2 y3, LeO (codewrightlaw46_SemiringSums.l1 k y0 y1 y2 y3) (codewrightlaw46_SemiringSums.l1 (k + 1) y0 y1 y2 y3))
  | 0 => ⟨fun _ _ _ _ r h => by simp [codewrightlaw46_SemiringSums.l0] at h, fun _ _ r h => by simp [codewrightlaw46_SemiringSums.j1] at h, fun _ _ _ _ r h => by simp [codewrightlaw46_SemiringSums.l1] at h⟩
  | k + 1 => by
    obtain ⟨ih0, ih1, ih2⟩ := codewrightlaw46_SemiringSums.mono_l k
    refine ⟨?_, ?_, ?_⟩
    · intro y0 y1 y2 y3
      unfold codewrightlaw46_SemiringSums.l0
      repeat' first
      | (with_reducible exact ih0 _ _ _ _)
      | (with_reducible exact ih1 _ _)
      | (with_reducible exact ih2 _ _ _ _)
      | (with_reducible exact semiring_MaxPlus_119.mono _ _)
      | (with_reducible exact semiring_MaxPlus_120.mono _ _)
      | (with_reducible exact semiring_MinPlus_117.mono _ _)
      | (with_reducible exact semiring_MinPlus_118.mono _ _)
      | (with_reducible exact LeO.refl _)
      | (with_reducible exact LeO.none _)
      | (with_reducible refine LeO.ite ?_ ?_)
      | (with_reducible refine LeO.bind ?_ (fun _ => ?_))
      | exact ih0 _ _ _ _
      | exact ih1 _ _
      | exact ih2 _ _ _ _
      | exact semiring_MaxPlus_119.mono _ _
      | exact semiring_MaxPlus_120.mono _ _
      | exact semiring_MinPlus_117.mono _ _
      | exact semiring_MinPlus_118.mono _ _
      | exact LeO.none _
      | refine LeO.ite ?_ ?_
      | refine LeO.bind ?_ (fun _ => ?_)
    · intro y0 y1
      unfold codewrightlaw46_SemiringSums.j1
      repeat' first
      | (with_reducible exact ih0 _ _ _ _)
      | (with_reducible exact ih1 _ _)
      | (with_reducible exact ih2 _ _ _ _)
      | (with_reducible exact semiring_MaxPlus_119.mono _ _)
      | (with_reducible exact semiring_MaxPlus_120.mono _ _)
      | (with_reducible exact semiring_MinPlus_117.mono _ _)
      | (with_reducible exact semiring_MinPlus_118.mono _ _)
      | (with_reducible exact LeO.refl _)
      | (with_reducible exact LeO.none _)
      | (with_reducible refine LeO.ite ?_ ?_)
      | (with_reducible refine LeO.bind ?_ (fun _ => ?_))
      | exact ih0 _ _ _ _
      | exact ih1 _ _
      | exact ih2 _ _ _ _
      | exact semiring_MaxPlus_119.mono _ _
      | exact semiring_MaxPlus_120.mono _ _
      | exact semiring_MinPlus_117.mono _ _
      | exact semiring_MinPlus_118.mono _ _
      | exact LeO.none _
      | refine LeO.ite ?_ ?_
      | refine LeO.bind ?_ (fun _ => ?_)
    · intro y0 y1 y2 y3
      unfold codewrightlaw46_SemiringSums.l1
      repeat' first
      | (with_reducible exact ih0 _ _ _ _)
      | (with_reducible exact ih1 _ _)
      | (with_reducible exact ih2 _ _ _ _)
      | (with_reducible exact semiring_MaxPlus_119.mono _ _)
      | (with_reducible exact semiring_MaxPlus_120.mono _ _)
      | (with_reducible exact semiring_MinPlus_117.mono _ _)
      | (with_reducible exact semiring_MinPlus_118.mono _ _)
      | (with_reducible exact LeO.refl _)
      | (with_reducible exact LeO.none _)
      | (with_reducible refine LeO.ite ?_ ?_)
      | (with_reducible refine LeO.bind ?_ (fun _ => ?_))
      | exact ih0 _ _ _ _
      | exact ih1 _ _
      | exact ih2 _ _ _ _
      | exact semiring_MaxPlus_119.mono _ _
      | exact semiring_MaxPlus_120.mono _ _
      | exact semiring_MinPlus_117.mono _ _
      | exact semiring_MinPlus_118.mono _ _
      | exact LeO.none _
      | refine LeO.ite ?_ ?_
      | refine LeO.bind ?_ (fun _ => ?_)
theorem codewrightlaw46_SemiringSums.mono : ∀ a0 k, LeO (codewrightlaw46_SemiringSums.f k a0) (codewrightlaw46_SemiringSums.f (k + 1) a0) := by
  intro a0 k
  obtain ⟨ih0, ih1, ih2⟩ := codewrightlaw46_SemiringSums.mono_l k
  unfold codewrightlaw46_SemiringSums.f
  repeat' first
      | (with_reducible exact ih0 _ _ _ _)
      | (with_reducible exact ih1 _ _)
      | (with_reducible exact ih2 _ _ _ _)
      | (with_reducible exact semiring_MaxPlus_119.mono _ _)
      | (with_reducible exact semiring_MaxPlus_120.mono _ _)
      | (with_reducible exact semiring_MinPlus_117.mono _ _)
      | (with_reducible exact semiring_MinPlus_118.mono _ _)
      | (with_reducible exact LeO.refl _)
      | (with_reducible exact LeO.none _)
      | (with_reducible refine LeO.ite ?_ ?_)
      | (with_reducible refine LeO.bind ?_ (fun _ => ?_))
      | exact ih0 _ _ _ _
      | exact ih1 _ _
      | exact ih2 _ _ _ _
      | exact semiring_MaxPlus_119.mono _ _
      | exact semiring_MaxPlus_120.mono _ _
      | exact semiring_MinPlus_117.mono _ _
      | exact semiring_MinPlus_118.mono _ _
      | exact LeO.none _
      | refine LeO.ite ?_ ?_
      | refine LeO.bind ?_ (fun _ => ?_)
set_option maxHeartbeats 8000000 in
set_option maxRecDepth 100000 in
theorem codewrightlaw46_SemiringSums.calls (k : Nat) (A0 : Option Addr) (c0 : Nat) (l0 : List Int) (r : Bool) (w : World) (hr0 : Kd.C (Kd.int .i64) w A0 l0.length l0) (hc0 : l0.length ≤ c0) (h : codewrightlaw46_SemiringSums.f k l0 = some r) :
    Calls Try.prog 23 #[.slice A0 l0.length c0] w fun e w' => e = .returned (.bool r) ∧ Below w.heap.size w w' := by
  have hu27 := Try.underlying27
  have hu33 := Try.underlying33
  have HR0 := Aside0.mk hr0
  have HC0 := Aside0.mk hc0
  clear hr0 hc0
  have HB := Aside0.mk (Below.refl w.heap.size w)
  have H : (codewrightlaw46_SemiringSums.l0 k l0 4611686018427387904 0 0) = some r := h
  clear h
  have H' := Aside0.mk H
  clear H
  go_enter Try.func23, Try.ntmps23
  go_wp2_with (first | ((with_reducible refine gate_dst (N := 3) rfl ?_); refine box_event ?hg (N := 3) ?hd (cs := #[]) (t := 27) ?hr ?_; (case hd => rfl); (case hg => rfl); (case hr => first | (go_simp; done) | (go_simp; rfl)); intro gb2920 hg w2 hbox hb; have n0_ := Aside0.mk (below_step (by repeat (first | (with_reducible first | exact HB.out | apply below_alloc | apply pw_below_drewN | apply below_drew1) | exact HB.out)) hb); have n1_ := Aside0.mk (hbox); have n2_ := Aside0.mk ((by rw [hg]; exact (below_size (by repeat (first | (with_reducible first | exact HB.out | apply below_alloc | apply pw_below_drewN | apply below_drew1) | exact HB.out))) : w.heap.size ≤ gb2920)); have n3_ := Aside0.mk ((by rw [hg]; exact (below_size (by repeat (first | (with_reducible first | exact HB.out | apply below_alloc | apply pw_below_drewN | apply below_drew1) | exact HB.out))) : w.heap.size ≤ gb2920)); clear HB; have HB := n0_; have BK2920 := n1_; have GW2920 := n2_; have GE2920 := n3_; clear n0_ n1_ n2_ n3_; clear hb hbox hg))
  go_loopg [4, 5, 6] k (fun kq v4 v5 v6 w' => ∃ (x4_1 : Int) (x5_1 : Int) (x6_1 : Int), v4 = .int .i64 x4_1 ∧ v5 = .int .i64 x5_1 ∧ v6 = .int .i64 x6_1 ∧ Aside0 (codewrightlaw46_SemiringSums.l0 kq l0 x4_1 x5_1 x6_1 = some r) ∧ Aside0 (kq ≤ k) ∧ Aside0 (w'.heap[gb2920]? = some (.cells #[] 27 (0, 0))) ∧ Aside0 (Below w.heap.size w w'))
  case atStart => exact ⟨(4611686018427387904), (0), (0), (by first | rfl | (simp; done) | (simp [*]; done)), (by first | rfl | (simp; done) | (simp [*]; done)), (by first | rfl | (simp; done) | (simp [*]; done)), H', ⟨Nat.le_refl _⟩, ⟨by (with_reducible repeat (first | refine blk_drewN ?_ _ | refine blk_drew ?_ | refine blk_alloc ?_ _)); exact BK2920.out⟩, ⟨by repeat (first | (with_reducible first | exact HB.out | apply below_alloc | apply pw_below_drewN | apply below_drew1 | refine below_set ?_ GE2920.out) | exact HB.out)⟩⟩
  case round =>
    clear H'
    try clear c2
    try clear p2
    obtain ⟨x4_1, x5_1, x6_1, rfl, rfl, rfl, HA, HK1, BK2920, HB⟩ := hrel
    cases gk with
    | zero => exact absurd HA.out (by simp [codewrightlaw46_SemiringSums.l0])
    | succ k1 =>
      have H := HA.out
      clear HA
      simp only [codewrightlaw46_SemiringSums.l0] at H
      by_cases c3 : x6_1 < (l0.length : Int)
      · rw [if_pos c3] at H
        have c3b0 : decide (x6_1 < (l0.length : Int)) = true := decide_eq_true c3
        clear c3
        by_cases c4 : 0 ≤ x6_1
        · rw [if_pos c4] at H
          have c4b0 : decide (0 ≤ x6_1) = true := decide_eq_true c4
          clear c4
          replace H := Option.bind_eq_some_iff.mp H
          obtain ⟨t2922, A50, H⟩ := H
          replace H : ((codewrightref46_MinMul.f x5_1 (rd l0 x6_1)).bind fun t2924 => (codewrightlaw46_SemiringSums.l0 k1 l0 (mn x4_1 t2922) t2924 (wrap64 (x6_1 + 1)))) = some r := H
          have A5 := Aside0.mk A50
          clear A50
          obtain ⟨ji6, hji6⟩ : ∃ j_ : Int, (mn x4_1 t2922) = j_ := ⟨_, rfl⟩
          replace H : ((codewrightref46_MinMul.f x5_1 (rd l0 x6_1)).bind fun t2924 => (codewrightlaw46_SemiringSums.l0 k1 l0 ji6 t2924 (wrap64 (x6_1 + 1)))) = some r := by first | (rw [hji6] at H; exact H) | (simp only [hji6] at H ⊢; exact H)
          (try rw [hji6] at A5)
          have hji6_ : (if t2922 < x4_1 then t2922 else x4_1) = ji6 := hji6
          replace H := Option.bind_eq_some_iff.mp H
          obtain ⟨t2924, A70, H⟩ := H
          replace H : (codewrightlaw46_SemiringSums.l0 k1 l0 ji6 t2924 (wrap64 (x6_1 + 1))) = some r := H
          have A7 := Aside0.mk A70
          clear A70
          have H' := Aside0.mk H
          clear H
          have p2921 : 0 ≤ (x6_1 : Int) := of_decide_eq_true (by first | (with_reducible assumption) | assumption)
          have q2921 : x6_1 < (l0.length : Int) := of_decide_eq_true (by first | (with_reducible assumption) | assumption)
          obtain ⟨ad2921, e2921, hx2921_0⟩ := Kd.at_int HR0.out x6_1 p2921 q2921
          cases e2921
          replace hx2921_0 := (HB.out.cell (World.block_lt_of_cell? w _ hx2921_0)).trans hx2921_0
          replace p2921 := eq_true p2921
          replace q2921 := eq_true q2921
          go_wp2_with (first | ((with_reducible refine gate_callee (f := 36) rfl ?_); refine goesL_ (some 22) rfl rfl Try.func36 (by kernel_rfl) rfl #[.int .i64 (rd l0 x6_1)] rfl (by (try simp only [List.map_toArray, List.map_cons, List.map_nil]); first | done | rfl | (simp only [List.length_drop, List.length_take]; rfl)) ?_; (with_reducible refine (codewrightref46_Min.calls (rd l0 x6_1) t2922 _ A5.out).mono ?_); rintro e w8 ⟨rfl, hb⟩; refine ⟨_, rfl, ?_⟩; have n0_ := Aside0.mk (blk_below (g := gb2920) (o := .cells #[] 27 (0, 0)) (by (with_reducible repeat (first | refine blk_drewN ?_ _ | refine blk_drew ?_ | refine blk_alloc ?_ _)); exact BK2920.out) hb); have n1_ := Aside0.mk (below_step (by repeat (first | (with_reducible first | exact HB.out | apply below_alloc | apply pw_below_drewN | apply below_drew1 | refine below_set ?_ GE2920.out) | exact HB.out)) hb); clear BK2920; clear HB; have BK2920 := n0_; have HB := n1_; clear n0_ n1_; (try clear hb); (try clear hb2); (try clear hk); (try clear hi); have p2923 : 0 ≤ (x6_1 : Int) := of_decide_eq_true (by first | (with_reducible assumption) | assumption); have q2923 : x6_1 < (l0.length : Int) := of_decide_eq_true (by first | (with_reducible assumption) | assumption); obtain ⟨ad2923, e2923, hx2923_0⟩ := Kd.at_int HR0.out x6_1 p2923 q2923; obtain rfl : ad2921 = ad2923 := (by injection e2923); replace hx2923_0 := (HB.out.cell (World.block_lt_of_cell? w _ hx2923_0)).trans hx2923_0; replace p2923 := eq_true p2923; replace q2923 := eq_true q2923) | ((with_reducible refine gate_callee (f := 38) rfl ?_); refine goesL_ (some 29) rfl rfl Try.func38 (by kernel_rfl) rfl #[.int .i64 x5_1, .int .i64 (rd l0 x6_1)] rfl (by (try simp only [List.map_toArray, List.map_cons, List.map_nil]); first | done | rfl | (simp only [List.length_drop, List.length_take]; rfl)) ?_; (with_reducible refine (codewrightref46_MinMul.calls x5_1 (rd l0 x6_1) t2924 _ A7.out).mono ?_); rintro e w9 ⟨rfl, hb⟩; refine ⟨_, rfl, ?_⟩; have n0_ := Aside0.mk (blk_below (g := gb2920) (o := .cells #[] 27 (0, 0)) (by (with_reducible repeat (first | refine blk_drewN ?_ _ | refine blk_drew ?_ | refine blk_alloc ?_ _)); exact BK2920.out) hb); have n1_ := Aside0.mk (below_step (by repeat (first | (with_reducible first | exact HB.out | apply below_alloc | apply pw_below_drewN | apply below_drew1 | refine below_set ?_ GE2920.out) | exact HB.out)) hb); clear BK2920; clear HB; have BK2920 := n0_; have HB := n1_; clear n0_ n1_; (try clear hb); (try clear hb2); (try clear hk); (try clear hi)))
          go_roundg k1
          case measure => have := HK1.out; omega
          case rel => exact ⟨(ji6), (t2924), (wrap64 (x6_1 + 1)), (by first | rfl | (simp; done) | (simp only [← hji6] <;> (first | rfl | simp)) | (simp [*]; done)), (by first | rfl | (simp; done) | (simp [*]; done)), (by first | rfl | (simp; done) | (simp [*]; done)), H', ⟨by have := HK1.out; omega⟩, ⟨by (with_reducible repeat (first | refine blk_drewN ?_ _ | refine blk_drew ?_ | refine blk_alloc ?_ _)); exact BK2920.out⟩, ⟨by repeat (first | (with_reducible first | exact HB.out | apply below_alloc | apply pw_below_drewN | apply below_drew1 | refine below_set ?_ GE2920.out) | exact HB.out)⟩⟩
        · rw [if_neg c4] at H
          exact absurd H (by simp)
      · rw [if_neg c3] at H
        have c3b0 : decide (x6_1 < (l0.length : Int)) = false := decide_eq_false c3
        clear c3
        have HC10 := Aside0.mk H
        clear H
        go_upto_region 9 with (fail)
        go_cut [41] (fun v41 wc => ∃ (kq : Nat) (x41_9 : Bool), v41 = .bool x41_9 ∧ Aside0 (codewrightlaw46_SemiringSums.j1 kq l0 x41_9 = some r) ∧ Aside0 (kq ≤ k1) ∧ Aside0 (wc.heap[gb2920]? = some (.cells #[] 27 (0, 0))) ∧ Aside0 (Below w.heap.size w wc))
        case first =>
          have H := HC10.out
          clear HC10
          replace H := Option.bind_eq_some_iff.mp H
          obtain ⟨t2925, A110, H⟩ := H
          replace H : (if t2925 = x4_1 then ((semiring_MinPlus_118.f k1 l0).bind fun t2926 => (codewrightlaw46_SemiringSums.j1 k1 l0 (t2926 != x5_1))) else (codewrightlaw46_SemiringSums.j1 k1 l0 true)) = some r := H
          have A11 := Aside0.mk A110
          clear A110
          by_cases c12 : t2925 = x4_1
          · rw [if_pos c12] at H
            have c12b0 : (t2925 == x4_1) = true := beq_iff_eq.mpr c12
            have c12b1 : (t2925 != x4_1) = false := bne_eq_false_iff_eq.mpr c12
            clear c12
            (first | rw [c12b0] | rw [c12b1] | (simp only [i64_w, i32_w]; rw [c12b0]) | skip)
            replace H := Option.bind_eq_some_iff.mp H
            obtain ⟨t2926, A130, H⟩ := H
            replace H : (codewrightlaw46_SemiringSums.j1 k1 l0 (t2926 != x5_1)) = some r := H
            have A13 := Aside0.mk A130
            clear A130
            have H' := Aside0.mk H
            clear H
            go_wp2_with (first | ((with_reducible refine gate_callee (f := 117) rfl ?_); refine goesL_ (some 32) rfl rfl Try.func117 (by kernel_rfl) rfl #[.agg #[], .slice A0 l0.length c0] rfl (by (try simp only [List.map_toArray, List.map_cons, List.map_nil]); first | done | rfl | (simp only [List.length_drop, List.length_take]; rfl)) ?_; (with_reducible refine (semiring_MinPlus_117.calls k1  _ _ l0 t2925 _ ?side1 ?side2 A11.out).mono ?_); (case side1 => repeat (first | exact (Kd.C_below HR0.out HB.out) | (with_reducible refine Kd.C_alloc ?_ _) | (with_reducible refine Kd.C_drewN ?_ _) | (with_reducible refine Kd.C_drew ?_))); (case side2 => exact HC0.out); rintro e w15 ⟨rfl, hb⟩; refine ⟨_, rfl, ?_⟩; have n0_ := Aside0.mk (blk_below (g := gb2920) (o := .cells #[] 27 (0, 0)) (by (with_reducible repeat (first | refine blk_drewN ?_ _ | refine blk_drew ?_ | refine blk_alloc ?_ _)); exact BK2920.out) hb); have n1_ := Aside0.mk (below_step (by repeat (first | (with_reducible first | exact HB.out | apply below_alloc | apply pw_below_drewN | apply below_drew1 | refine below_set ?_ GE2920.out) | exact HB.out)) hb); clear BK2920; clear HB; have BK2920 := n0_; have HB := n1_; clear n0_ n1_; (try clear hb); (try clear hb2); (try clear hk); (try clear hi)) | (go_at_call 118; (with_reducible refine (semiring_MinPlus_118.calls k1  _ _ l0 t2926 _ ?side1 ?side2 A13.out).mono ?_); (case side1 => repeat (first | exact (Kd.C_below HR0.out HB.out) | (with_reducible refine Kd.C_alloc ?_ _) | (with_reducible refine Kd.C_drewN ?_ _) | (with_reducible refine Kd.C_drew ?_))); (case side2 => exact HC0.out); rintro e w17 ⟨rfl, hb⟩; have n0_ := Aside0.mk (blk_below (g := gb2920) (o := .cells #[] 27 (0, 0)) (by (with_reducible repeat (first | refine blk_drewN ?_ _ | refine blk_drew ?_ | refine blk_alloc ?_ _)); exact BK2920.out) hb); have n1_ := Aside0.mk (below_step (by repeat (first | (with_reducible first | exact HB.out | apply below_alloc | apply pw_below_drewN | apply below_drew1 | refine below_set ?_ GE2920.out) | exact HB.out)) hb); clear BK2920; clear HB; have BK2920 := n0_; have HB := n1_; clear n0_ n1_; (try clear hb); (try clear hb2); (try clear hk); (try clear hi)))
            go_meet
            case rel => exact ⟨_, ((t2926 != x5_1)), (by first | rfl | (simp; done) | (simp [*]; done) | (cases t2926 <;> cases x5_1 <;> first | rfl | (simp; done))), H', ⟨by have := HK1.out; first | omega | exact Nat.le_refl _⟩, ⟨by (with_reducible repeat (first | refine blk_drewN ?_ _ | refine blk_drew ?_ | refine blk_alloc ?_ _)); exact BK2920.out⟩, ⟨by repeat (first | (with_reducible first | exact HB.out | apply below_alloc | apply pw_below_drewN | apply below_drew1 | refine below_set ?_ GE2920.out) | exact HB.out)⟩⟩
          · rw [if_neg c12] at H
            have c12b0 : (t2925 == x4_1) = false := beq_eq_false_iff_ne.mpr c12
            have c12b1 : (t2925 != x4_1) = true := bne_iff_ne.mpr c12
            (first | rw [c12b0] | rw [c12b1] | (simp only [i64_w, i32_w]; rw [c12b0]) | skip)
            have H' := Aside0.mk H
            clear H
            go_wp2_with (first | ((with_reducible refine gate_callee (f := 117) rfl ?_); refine goesL_ (some 32) rfl rfl Try.func117 (by kernel_rfl) rfl #[.agg #[], .slice A0 l0.length c0] rfl (by (try simp only [List.map_toArray, List.map_cons, List.map_nil]); first | done | rfl | (simp only [List.length_drop, List.length_take]; rfl)) ?_; (with_reducible refine (semiring_MinPlus_117.calls k1  _ _ l0 t2925 _ ?side1 ?side2 A11.out).mono ?_); (case side1 => repeat (first | exact (Kd.C_below HR0.out HB.out) | (with_reducible refine Kd.C_alloc ?_ _) | (with_reducible refine Kd.C_drewN ?_ _) | (with_reducible refine Kd.C_drew ?_))); (case side2 => exact HC0.out); rintro e w19 ⟨rfl, hb⟩; refine ⟨_, rfl, ?_⟩; have n0_ := Aside0.mk (blk_below (g := gb2920) (o := .cells #[] 27 (0, 0)) (by (with_reducible repeat (first | refine blk_drewN ?_ _ | refine blk_drew ?_ | refine blk_alloc ?_ _)); exact BK2920.out) hb); have n1_ := Aside0.mk (below_step (by repeat (first | (with_reducible first | exact HB.out | apply below_alloc | apply pw_below_drewN | apply below_drew1 | refine below_set ?_ GE2920.out) | exact HB.out)) hb); clear BK2920; clear HB; have BK2920 := n0_; have HB := n1_; clear n0_ n1_; (try clear hb); (try clear hb2); (try clear hk); (try clear hi)))
            go_meet
            case rel => exact ⟨_, (true), (by first | rfl | (simp; done) | (simp [*]; done)), H', ⟨by have := HK1.out; first | omega | exact Nat.le_refl _⟩, ⟨by (with_reducible repeat (first | refine blk_drewN ?_ _ | refine blk_drew ?_ | refine blk_alloc ?_ _)); exact BK2920.out⟩, ⟨by repeat (first | (with_reducible first | exact HB.out | apply below_alloc | apply pw_below_drewN | apply below_drew1 | refine below_set ?_ GE2920.out) | exact HB.out)⟩⟩
        case rest =>
          clear HC10
          try clear c1
          try clear c2
          try clear p2
          try clear q2
          try clear hx2
          try clear c3
          try clear c3b0
          try clear c4
          try clear c4b0
          try clear p6
          try clear c11
          try clear c12
          try clear c12b0
          try clear c12b1
          try clear hx2921_0
          try clear hx2923_0
          try clear p2
          try clear p2921
          try clear p2923
          try clear q2921
          try clear q2923
          obtain ⟨kq, x41_9, rfl, HA, HJ9, BK2920, HB⟩ := hcut
          cases kq with
          | zero => exact absurd HA.out (by simp [codewrightlaw46_SemiringSums.j1])
          | succ kj9 =>
            have H := HA.out
            clear HA
            simp only [codewrightlaw46_SemiringSums.j1] at H
            by_cases c20 : x41_9 = true
            · subst c20
              have H1 : (none) = some r := by rw [if_pos rfl] at H; exact H
              clear H
              have H := H1
              clear H1
              exact absurd H (by simp)
            · replace c20 := Bool.eq_false_iff.mpr c20
              subst c20
              have H1 : (codewrightlaw46_SemiringSums.l1 kj9 l0 (-1) 0 0) = some r := by rw [if_neg (show ¬ (false = true) by decide)] at H; exact H
              clear H
              have H := H1
              clear H1
              have H' := Aside0.mk H
              clear H
              go_wp2
              go_loopg [7, 8, 9] kj9 (fun kq v7 v8 v9 w' => ∃ (x7_3 : Int) (x8_3 : Int) (x9_3 : Int), v7 = .int .i64 x7_3 ∧ v8 = .int .i64 x8_3 ∧ v9 = .int .i64 x9_3 ∧ Aside0 (codewrightlaw46_SemiringSums.l1 kq l0 x7_3 x8_3 x9_3 = some r) ∧ Aside0 (kq ≤ kj9) ∧ Aside0 (w'.heap[gb2920]? = some (.cells #[] 27 (0, 0))) ∧ Aside0 (Below w.heap.size w w'))
              case atStart => exact ⟨((-1)), (0), (0), (by first | rfl | (simp; done) | (simp [*]; done)), (by first | rfl | (simp; done) | (simp [*]; done)), (by first | rfl | (simp; done) | (simp [*]; done)), H', ⟨Nat.le_refl _⟩, ⟨by (with_reducible repeat (first | refine blk_drewN ?_ _ | refine blk_drew ?_ | refine blk_alloc ?_ _)); exact BK2920.out⟩, ⟨by repeat (first | (with_reducible first | exact HB.out | apply below_alloc | apply pw_below_drewN | apply below_drew1 | refine below_set ?_ GE2920.out) | exact HB.out)⟩⟩
              case round =>
                clear H'
                try clear c1
                try clear c2
                try clear p2
                try clear q2
                try clear hx2
                try clear c3
                try clear c3b0
                try clear c4
                try clear c4b0
                try clear p6
                try clear c11
                try clear c12
                try clear c12b0
                try clear c12b1
                try clear c20
                try clear hx2921_0
                try clear hx2923_0
                try clear p2
                try clear p2921
                try clear p2923
                try clear p6
                try clear q2
                try clear q2921
                try clear q2923
                obtain ⟨x7_3, x8_3, x9_3, rfl, rfl, rfl, HA, HK3, BK2920, HB⟩ := hrel
                cases gk with
                | zero => exact absurd HA.out (by simp [codewrightlaw46_SemiringSums.l1])
                | succ k3 =>
                  have H := HA.out
                  clear HA
                  simp only [codewrightlaw46_SemiringSums.l1] at H
                  by_cases c21 : x9_3 < (l0.length : Int)
                  · rw [if_pos c21] at H
                    have c21b0 : decide (x9_3 < (l0.length : Int)) = true := decide_eq_true c21
                    clear c21
                    by_cases c22 : 0 ≤ x9_3
                    · rw [if_pos c22] at H
                      have c22b0 : decide (0 ≤ x9_3) = true := decide_eq_true c22
                      clear c22
                      replace H := Option.bind_eq_some_iff.mp H
                      obtain ⟨t2928, A230, H⟩ := H
                      replace H : ((codewrightref46_MaxMul.f x8_3 (rd l0 x9_3)).bind fun t2930 => (codewrightlaw46_SemiringSums.l1 k3 l0 (mx x7_3 t2928) t2930 (wrap64 (x9_3 + 1)))) = some r := H
                      have A23 := Aside0.mk A230
                      clear A230
                      obtain ⟨ji24, hji24⟩ : ∃ j_ : Int, (mx x7_3 t2928) = j_ := ⟨_, rfl⟩
                      replace H : ((codewrightref46_MaxMul.f x8_3 (rd l0 x9_3)).bind fun t2930 => (codewrightlaw46_SemiringSums.l1 k3 l0 ji24 t2930 (wrap64 (x9_3 + 1)))) = some r := by first | (rw [hji24] at H; exact H) | (simp only [hji24] at H ⊢; exact H)
                      (try rw [hji24] at A23)
                      have hji24_ : (if x7_3 < t2928 then t2928 else x7_3) = ji24 := hji24
                      replace H := Option.bind_eq_some_iff.mp H
                      obtain ⟨t2930, A250, H⟩ := H
                      replace H : (codewrightlaw46_SemiringSums.l1 k3 l0 ji24 t2930 (wrap64 (x9_3 + 1))) = some r := H
                      have A25 := Aside0.mk A250
                      clear A250
                      have H' := Aside0.mk H
                      clear H
                      have p2927 : 0 ≤ (x9_3 : Int) := of_decide_eq_true (by first | (with_reducible assumption) | assumption)
                      have q2927 : x9_3 < (l0.length : Int) := of_decide_eq_true (by first | (with_reducible assumption) | assumption)
                      obtain ⟨ad2927, e2927, hx2927_0⟩ := Kd.at_int HR0.out x9_3 p2927 q2927
                      cases e2927
                      replace hx2927_0 := (HB.out.cell (World.block_lt_of_cell? w _ hx2927_0)).trans hx2927_0
                      replace p2927 := eq_true p2927
                      replace q2927 := eq_true q2927
                      go_wp2_with (first | ((with_reducible refine gate_callee (f := 43) rfl ?_); refine goesL_ (some 53) rfl rfl Try.func43 (by kernel_rfl) rfl #[.int .i64 (rd l0 x9_3)] rfl (by (try simp only [List.map_toArray, List.map_cons, List.map_nil]); first | done | rfl | (simp only [List.length_drop, List.length_take]; rfl)) ?_; (with_reducible refine (codewrightref46_Max.calls (rd l0 x9_3) t2928 _ A23.out).mono ?_); rintro e w26 ⟨rfl, hb⟩; refine ⟨_, rfl, ?_⟩; have n0_ := Aside0.mk (blk_below (g := gb2920) (o := .cells #[] 27 (0, 0)) (by (with_reducible repeat (first | refine blk_drewN ?_ _ | refine blk_drew ?_ | refine blk_alloc ?_ _)); exact BK2920.out) hb); have n1_ := Aside0.mk (below_step (by repeat (first | (with_reducible first | exact HB.out | apply below_alloc | apply pw_below_drewN | apply below_drew1 | refine below_set ?_ GE2920.out) | exact HB.out)) hb); clear BK2920; clear HB; have BK2920 := n0_; have HB := n1_; clear n0_ n1_; (try clear hb); (try clear hb2); (try clear hk); (try clear hi); have p2929 : 0 ≤ (x9_3 : Int) := of_decide_eq_true (by first | (with_reducible assumption) | assumption); have q2929 : x9_3 < (l0.length : Int) := of_decide_eq_true (by first | (with_reducible assumption) | assumption); obtain ⟨ad2929, e2929, hx2929_0⟩ := Kd.at_int HR0.out x9_3 p2929 q2929; obtain rfl : ad2927 = ad2929 := (by injection e2929); replace hx2929_0 := (HB.out.cell (World.block_lt_of_cell? w _ hx2929_0)).trans hx2929_0; replace p2929 := eq_true p2929; replace q2929 := eq_true q2929) | ((with_reducible refine gate_callee (f := 45) rfl ?_); refine goesL_ (some 60) rfl rfl Try.func45 (by kernel_rfl) rfl #[.int .i64 x8_3, .int .i64 (rd l0 x9_3)] rfl (by (try simp only [List.map_toArray, List.map_cons, List.map_nil]); first | done | rfl | (simp only [List.length_drop, List.length_take]; rfl)) ?_; (with_reducible refine (codewrightref46_MaxMul.calls x8_3 (rd l0 x9_3) t2930 _ A25.out).mono ?_); rintro e w27 ⟨rfl, hb⟩; refine ⟨_, rfl, ?_⟩; have n0_ := Aside0.mk (blk_below (g := gb2920) (o := .cells #[] 27 (0, 0)) (by (with_reducible repeat (first | refine blk_drewN ?_ _ | refine blk_drew ?_ | refine blk_alloc ?_ _)); exact BK2920.out) hb); have n1_ := Aside0.mk (below_step (by repeat (first | (with_reducible first | exact HB.out | apply below_alloc | apply pw_below_drewN | apply below_drew1 | refine below_set ?_ GE2920.out) | exact HB.out)) hb); clear BK2920; clear HB; have BK2920 := n0_; have HB := n1_; clear n0_ n1_; (try clear hb); (try clear hb2); (try clear hk); (try clear hi)))
                      go_roundg k3
                      case measure => have := HK1.out; have := HJ9.out; have := HK3.out; omega
                      case rel => exact ⟨(ji24), (t2930), (wrap64 (x9_3 + 1)), (by first | rfl | (simp; done) | (simp only [← hji24] <;> (first | rfl | simp)) | (simp [*]; done)), (by first | rfl | (simp; done) | (simp [*]; done)), (by first | rfl | (simp; done) | (simp [*]; done)), H', ⟨by have := HK1.out; have := HJ9.out; have := HK3.out; omega⟩, ⟨by (with_reducible repeat (first | refine blk_drewN ?_ _ | refine blk_drew ?_ | refine blk_alloc ?_ _)); exact BK2920.out⟩, ⟨by repeat (first | (with_reducible first | exact HB.out | apply below_alloc | apply pw_below_drewN | apply below_drew1 | refine below_set ?_ GE2920.out) | exact HB.out)⟩⟩
                    · rw [if_neg c22] at H
                      exact absurd H (by simp)
                  · rw [if_neg c21] at H
                    have c21b0 : decide (x9_3 < (l0.length : Int)) = false := decide_eq_false c21
                    clear c21
                    replace H := Option.bind_eq_some_iff.mp H
                    obtain ⟨t2931, A280, H⟩ := H
                    replace H : (if t2931 = x7_3 then ((semiring_MaxPlus_120.f k3 l0).bind fun t2932 => (some (t2932 == x8_3))) else (none)) = some r := H
                    have A28 := Aside0.mk A280
                    clear A280
                    by_cases c29 : t2931 = x7_3
                    · rw [if_pos c29] at H
                      have c29b0 : (t2931 == x7_3) = true := beq_iff_eq.mpr c29
                      have c29b1 : (t2931 != x7_3) = false := bne_eq_false_iff_eq.mpr c29
                      clear c29
                      replace H := Option.bind_eq_some_iff.mp H
                      obtain ⟨t2932, A300, H⟩ := H
                      replace H : (some (t2932 == x8_3)) = some r := H
                      have A30 := Aside0.mk A300
                      clear A300
                      obtain rfl := Option.some.inj H
                      go_wp2_with (first | ((with_reducible refine gate_callee (f := 119) rfl ?_); refine goesL_ (some 63) rfl rfl Try.func119 (by kernel_rfl) rfl #[.agg #[], .slice A0 l0.length c0] rfl (by (try simp only [List.map_toArray, List.map_cons, List.map_nil]); first | done | rfl | (simp only [List.length_drop, List.length_take]; rfl)) ?_; (with_reducible refine (semiring_MaxPlus_119.calls k3  _ _ l0 t2931 _ ?side1 ?side2 A28.out).mono ?_); (case side1 => repeat (first | exact (Kd.C_below HR0.out HB.out) | (with_reducible refine Kd.C_alloc ?_ _) | (with_reducible refine Kd.C_drewN ?_ _) | (with_reducible refine Kd.C_drew ?_))); (case side2 => exact HC0.out); rintro e w31 ⟨rfl, hb⟩; refine ⟨_, rfl, ?_⟩; have n0_ := Aside0.mk (blk_below (g := gb2920) (o := .cells #[] 27 (0, 0)) (by (with_reducible repeat (first | refine blk_drewN ?_ _ | refine blk_drew ?_ | refine blk_alloc ?_ _)); exact BK2920.out) hb); have n1_ := Aside0.mk (below_step (by repeat (first | (with_reducible first | exact HB.out | apply below_alloc | apply pw_below_drewN | apply below_drew1 | refine below_set ?_ GE2920.out) | exact HB.out)) hb); clear BK2920; clear HB; have BK2920 := n0_; have HB := n1_; clear n0_ n1_; (try clear hb); (try clear hb2); (try clear hk); (try clear hi)) | (go_at_call 120; (with_reducible refine (semiring_MaxPlus_120.calls k3  _ _ l0 t2932 _ ?side1 ?side2 A30.out).mono ?_); (case side1 => repeat (first | exact (Kd.C_below HR0.out HB.out) | (with_reducible refine Kd.C_alloc ?_ _) | (with_reducible refine Kd.C_drewN ?_ _) | (with_reducible refine Kd.C_drew ?_))); (case side2 => exact HC0.out); rintro e w32 ⟨rfl, hb⟩; have n0_ := Aside0.mk (blk_below (g := gb2920) (o := .cells #[] 27 (0, 0)) (by (with_reducible repeat (first | refine blk_drewN ?_ _ | refine blk_drew ?_ | refine blk_alloc ?_ _)); exact BK2920.out) hb); have n1_ := Aside0.mk (below_step (by repeat (first | (with_reducible first | exact HB.out | apply below_alloc | apply pw_below_drewN | apply below_drew1 | refine below_set ?_ GE2920.out) | exact HB.out)) hb); clear BK2920; clear HB; have BK2920 := n0_; have HB := n1_; clear n0_ n1_; (try clear hb); (try clear hb2); (try clear hk); (try clear hi)))
                      go_ret
                      exact ⟨by first | rfl | (simp [errW_none, errW_some] <;> rfl) | (simp [*, errW_none, errW_some] <;> rfl), by repeat (first | (with_reducible first | exact HB.out | apply below_alloc | apply pw_below_drewN | apply below_drew1 | refine below_set ?_ GE2920.out) | exact HB.out)⟩
                    · rw [if_neg c29] at H
                      exact absurd H (by simp)

/-- THE ONE PURE STATEMENT of codewrightlaw46_SemiringSums: yours. -/
def codewrightlaw46_SemiringSums.Pure : Prop := ∀ (l0 : List Int), l0.length ≤ maxLen → l0.length * 8 ≤ 140737488351232 → (∀ x ∈ l0, (Lit.int .i64 x).wf = true) → ∃ k, codewrightlaw46_SemiringSums.f k l0 = some true
theorem codewrightlaw46_SemiringSums.walk (P : codewrightlaw46_SemiringSums.Pure) (a0 : Option Addr) (len0 cap0 : Nat) (z0 : List Int) (w : World) (w0 : (a0 = none ∧ len0 = 0 ∧ cap0 = 0 ∧ z0 = []) ∨ ∃ x, a0 = some x ∧ len0 ≤ cap0 ∧ cap0 ≤ maxLen ∧ z0.length = cap0 ∧ (∀ i, i < z0.length → w.cell? (x.add i) = some (.int .i64 (z0.getD i 0))) ∧ ∀ n ∈ z0, (Lit.int .i64 n).wf = true) (y0 : len0 * 8 ≤ 140737488351232) :
    Calls Try.prog 23 #[.slice a0 len0 cap0] w fun e w' => e = .returned (.bool true) ∧ Below w.heap.size w w' := by
  obtain ⟨l0, rfl, hr0, hm0, hw0, hc0⟩ := ReadsInt.ofRowC w0
  obtain ⟨k, h⟩ := P l0 hm0 y0 hw0
  refine (codewrightlaw46_SemiringSums.calls k _ _ l0 true w (Kd.C_of_reads (d := (0 : Int)) (h1 := fun _ => rfl) hr0) hc0 h).mono ?_
  rintro e w' ⟨rfl, hd⟩
  exact ⟨rfl, hd⟩

end Go.Proofs.Ytecfdemglbfnoaa.PT
