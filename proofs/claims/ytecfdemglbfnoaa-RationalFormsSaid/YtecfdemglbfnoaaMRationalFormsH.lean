/- Walks and plain facts for the law RationalForms, several texts in one: each theorem says what it shows; no condition beyond those that it names. -/
import Derived.Deep.Slices
import Derived.Deep.Fields
import Derived.SizedLaws
import Derived.Test.YtecfdemglbfnoaaMRationalFormsG
section
namespace Go.Proofs.Ytecfdemglbfnoaa.PT
open Go.RowKit Go.Proofs.YtecfdemglbfnoaaW.PrintWords Go.Proofs.YtecfdemglbfnoaaW.PrintLast Go.Proofs.YtecfdemglbfnoaaW.PrintMore
attribute [local go_sem] max2_int min2_int max_two min_two max_three min_three max_four min_four   -- for this text's walks alone
set_option linter.unusedVariables false
set_option linter.unusedSimpArgs false
def codewrightref02_Neg.f (k : Nat) (a0_0 : Bool) (l0_1 : List Int) (l0_2 : List Int) : Option (Bool × List Int × List Int) := (codewrightref02_Trim.f k a0_0 l0_1 l0_2).bind fun bt1298 => ((codewrightref02_Make.f k (!bt1298.1) bt1298.2.1 bt1298.2.2).bind fun bt1305 => (some (bt1305.1, bt1305.2.1, bt1305.2.2)))
set_option maxHeartbeats 8000000 in
set_option maxRecDepth 100000 in
theorem codewrightref02_Neg.calls (k : Nat) (a0_0 : Bool) (P0_1_ : Nat → Prop) (A0_1 : Option Addr) (c0_1 : Nat) (l0_1 : List Int) (P0_2_ : Nat → Prop) (A0_2 : Option Addr) (c0_2 : Nat) (l0_2 : List Int) (r1 : Bool) (r2 : List Int) (r3 : List Int) (w : World) (hs0_1 : Kd.V (Kd.int .u32) 48 w w.heap.size (fun k_ => P0_1_ k_) (.slice A0_1 l0_1.length c0_1) l0_1) (hs0_2 : Kd.V (Kd.int .u32) 48 w w.heap.size (fun k_ => P0_2_ k_) (.slice A0_2 l0_2.length c0_2) l0_2) (h : codewrightref02_Neg.f k a0_0 l0_1 l0_2 = some (r1, r2, r3)) :
 Calls Try.prog 93 #[.agg #[.bool a0_0, .slice A0_1 l0_1.length c0_1, .slice A0_2 l0_2.length c0_2]] w fun e w' => ∃ v1_ v2_ : Value, e = .returned (.agg #[.bool r1, v1_, v2_]) ∧ Kd.V (Kd.int .u32) 48 w' w.heap.size (fun k_ => ((P0_1_ k_ ∨ P0_2_ k_) ∨ w.heap.size ≤ k_)) v1_ r2 ∧ Kd.V (Kd.int .u32) 48 w' w.heap.size (fun k_ => ((P0_1_ k_ ∨ P0_2_ k_) ∨ w.heap.size ≤ k_)) v2_ r3 ∧ Below w.heap.size w w' := by
 have hu67 := Try.underlying67
 have HO0_1 := Aside0.mk (show Kd.V (Kd.int .u32) 48 w w.heap.size (fun k_ => ((P0_1_ k_ ∨ P0_2_ k_) ∨ w.heap.size ≤ k_)) (.slice A0_1 l0_1.length c0_1) l0_1 from Kd.V_mono hs0_1 (fun k_ hk => .inl (.inl hk)))
 have HO0_2 := Aside0.mk (show Kd.V (Kd.int .u32) 48 w w.heap.size (fun k_ => ((P0_1_ k_ ∨ P0_2_ k_) ∨ w.heap.size ≤ k_)) (.slice A0_2 l0_2.length c0_2) l0_2 from Kd.V_mono hs0_2 (fun k_ hk => .inl (.inr hk)))
 have HB := Aside0.mk (Below.refl w.heap.size w)
 have H : ((codewrightref02_Trim.f k a0_0 l0_1 l0_2).bind fun bt1298 => ((codewrightref02_Make.f k (!bt1298.1) bt1298.2.1 bt1298.2.2).bind fun bt1305 => (some (bt1305.1, bt1305.2.1, bt1305.2.2)))) = some (r1, r2, r3) := h
 clear h
 replace H := Option.bind_eq_some_iff.mp H
 obtain ⟨⟨t1298, t1299, t1302⟩, A20, H⟩ := H
 replace H : ((codewrightref02_Make.f k (!t1298) t1299 t1302).bind fun bt1305 => (some (bt1305.1, bt1305.2.1, bt1305.2.2))) = some (r1, r2, r3) := H
 have A2 := Aside0.mk A20
 clear A20
 replace H := Option.bind_eq_some_iff.mp H
 obtain ⟨⟨t1305, t1306, t1309⟩, A30, H⟩ := H
 replace H : (some (t1305, t1306, t1309)) = some (r1, r2, r3) := H
 have A3 := Aside0.mk A30
 clear A30
 simp only [Option.some.injEq, Prod.mk.injEq] at H
 obtain ⟨rfl, rfl, rfl⟩ := H
 go_enter Try.func93, Try.ntmps93
 go_wp2_with (first | ((with_reducible refine gate_dst (N := 1) rfl ?_); refine box_event ?hg (N := 1) ?hd (cs := #[.bool a0_0, .slice A0_1 l0_1.length c0_1, .slice A0_2 l0_2.length c0_2]) (t := 67) ?hr ?_; (case hd => rfl); (case hg => rfl); (case hr => first | (go_simp; done) | (go_simp; rfl)); intro gb1296 hg w4 hbox hb; replace HO0_1 := Aside0.mk (Kd.V_below (Kd.V_elderB (vu HO0_1.out) gb1296 (Nat.le_of_eq hg.symm)) hb); replace HO0_2 := Aside0.mk (Kd.V_below (Kd.V_elderB (vu HO0_2.out) gb1296 (Nat.le_of_eq hg.symm)) hb); have BK1296 := Aside0.mk (hbox); have GW1296 := Aside0.mk ((by rw [hg]; exact (below_size (bu HB.out)) : w.heap.size ≤ gb1296)); have GE1296 := Aside0.mk ((by rw [hg]; exact (below_size (bu HB.out)) : w.heap.size ≤ gb1296)); replace HB := Aside0.mk (below_step (bu HB.out) hb); clear hb hbox hg) | ((with_reducible refine gate_dst (N := 2) rfl ?_); refine box_event ?hg (N := 2) ?hd (cs := #[.bool false, .slice none 0 0, .slice none 0 0]) (t := 67) ?hr ?_; (case hd => rfl); (case hg => rfl); (case hr => first | (go_simp; done) | (go_simp; rfl)); intro gb1297 hg w5 hbox hb; replace HO0_1 := Aside0.mk (Kd.V_below (Kd.V_elderB (vu HO0_1.out) gb1297 (Nat.le_of_eq hg.symm)) hb); replace HO0_2 := Aside0.mk (Kd.V_below (Kd.V_elderB (vu HO0_2.out) gb1297 (Nat.le_of_eq hg.symm)) hb); have BK1297 := Aside0.mk (hbox); have GW1297 := Aside0.mk ((by rw [hg]; exact (below_size (bu1 HB.out GE1296.out)) : w.heap.size ≤ gb1297)); have GE1297 := Aside0.mk ((by rw [hg]; exact (below_size (bu1 HB.out GE1296.out)) : w.heap.size ≤ gb1297)); replace HB := Aside0.mk (below_step (bu1 HB.out GE1296.out) hb); have NB1296_1297 := Aside0.mk ((by rw [hg]; exact Nat.ne_of_lt (blk_lt (g := gb1296) (o := .cells #[.bool a0_0, .slice A0_1 l0_1.length c0_1, .slice A0_2 l0_2.length c0_2] 67 (0, 0)) (ku BK1296.out)) : gb1296 ≠ gb1297)); have NB1297_1296 := Aside0.mk ((by rw [hg]; exact Nat.ne_of_gt (blk_lt (g := gb1296) (o := .cells #[.bool a0_0, .slice A0_1 l0_1.length c0_1, .slice A0_2 l0_2.length c0_2] 67 (0, 0)) (ku BK1296.out)) : gb1297 ≠ gb1296)); replace BK1296 := Aside0.mk (blk_below (g := gb1296) (o := .cells #[.bool a0_0, .slice A0_1 l0_1.length c0_1, .slice A0_2 l0_2.length c0_2] 67 (0, 0)) (ku BK1296.out) hb); clear hb hbox hg; have hnb6 := NB1296_1297.out; have hnc6 := NB1297_1296.out; have hcz7_0 : w5.cell? ⟨gb1296, 0, none⟩ = some (.bool a0_0) := (blk_cell BK1296.out 0).trans rfl; have hcz7_1 : w5.cell? ⟨gb1296, 1, none⟩ = some (.slice A0_1 l0_1.length c0_1) := (blk_cell BK1296.out 1).trans rfl; have hcz7_2 : w5.cell? ⟨gb1296, 2, none⟩ = some (.slice A0_2 l0_2.length c0_2) := (blk_cell BK1296.out 2).trans rfl; have hfz7_0 := blk_frozen BK1296.out 0; have hfz7_1 := blk_frozen BK1296.out 1; have hfz7_2 := blk_frozen BK1296.out 2) | ((with_reducible refine gate_callee (f := 88) rfl ?_); refine goesL_ (some 4) rfl rfl Try.func88 (by kernel_rfl) rfl #[.agg #[.bool a0_0, .slice A0_1 l0_1.length c0_1, .slice A0_2 l0_2.length c0_2]] rfl lu ?_; (with_reducible refine (codewrightref02_Trim.calls k a0_0 (fun k_ => ((((P0_1_ k_ ∨ P0_2_ k_) ∨ w.heap.size ≤ k_) ∧ k_ ≠ gb1296) ∧ k_ ≠ gb1297)) _ _ l0_1 (fun k_ => ((((P0_1_ k_ ∨ P0_2_ k_) ∨ w.heap.size ≤ k_) ∧ k_ ≠ gb1296) ∧ k_ ≠ gb1297)) _ _ l0_2 t1298 t1299 t1302 _ ?side1 ?side2 A2.out).mono ?_); (case side1 => exact HO0_1.out); (case side2 => exact HO0_2.out); rintro e w8 ⟨v1300, v1303, rfl, ho0, ho1, hb⟩; refine ⟨_, rfl, ?_⟩; replace HO0_1 := Aside0.mk (Kd.V_below (vu HO0_1.out) hb); replace HO0_2 := Aside0.mk (Kd.V_below (vu HO0_2.out) hb); have HO1301 := Aside0.mk (Kd.V_lower (Kd.V_mono (ok' := fun k_ => ((P0_1_ k_ ∨ P0_2_ k_) ∨ w.heap.size ≤ k_) ∧ k_ ≠ gb1296 ∧ k_ ≠ gb1297) ho0 (fun k_ hk_ => ⟨Or.elim hk_ (fun hs_ => Or.elim hs_ (fun hs_ => hs_.1.1) (fun hs_ => hs_.1.1)) (fun hn_ => (.inr (Nat.le_trans (below_size (bu2 HB.out GE1296.out GE1297.out)) hn_))), Or.elim hk_ (fun hs_ => Or.elim hs_ (fun hs_ => hs_.1.2) (fun hs_ => hs_.1.2)) (fun hn_ => (Kd.freshB (g := gb1296) (o := .cells #[.bool a0_0, .slice A0_1 l0_1.length c0_1, .slice A0_2 l0_2.length c0_2] 67 (0, 0)) (ku BK1296.out) k_ hn_)), Or.elim hk_ (fun hs_ => Or.elim hs_ (fun hs_ => hs_.2) (fun hs_ => hs_.2)) (fun hn_ => (Kd.freshB (g := gb1297) (o := .cells #[.bool false, .slice none 0 0, .slice none 0 0] 67 (0, 0)) (ku BK1297.out) k_ hn_))⟩)) (below_size (bu2 HB.out GE1296.out GE1297.out))); have HO1304 := Aside0.mk (Kd.V_lower (Kd.V_mono (ok' := fun k_ => ((P0_1_ k_ ∨ P0_2_ k_) ∨ w.heap.size ≤ k_) ∧ k_ ≠ gb1296 ∧ k_ ≠ gb1297) ho1 (fun k_ hk_ => ⟨Or.elim hk_ (fun hs_ => Or.elim hs_ (fun hs_ => hs_.1.1) (fun hs_ => hs_.1.1)) (fun hn_ => (.inr (Nat.le_trans (below_size (bu2 HB.out GE1296.out GE1297.out)) hn_))), Or.elim hk_ (fun hs_ => Or.elim hs_ (fun hs_ => hs_.1.2) (fun hs_ => hs_.1.2)) (fun hn_ => (Kd.freshB (g := gb1296) (o := .cells #[.bool a0_0, .slice A0_1 l0_1.length c0_1, .slice A0_2 l0_2.length c0_2] 67 (0, 0)) (ku BK1296.out) k_ hn_)), Or.elim hk_ (fun hs_ => Or.elim hs_ (fun hs_ => hs_.2) (fun hs_ => hs_.2)) (fun hn_ => (Kd.freshB (g := gb1297) (o := .cells #[.bool false, .slice none 0 0, .slice none 0 0] 67 (0, 0)) (ku BK1297.out) k_ hn_))⟩)) (below_size (bu2 HB.out GE1296.out GE1297.out))); replace BK1296 := Aside0.mk (blk_below (g := gb1296) (o := .cells #[.bool a0_0, .slice A0_1 l0_1.length c0_1, .slice A0_2 l0_2.length c0_2] 67 (0, 0)) (ku BK1296.out) hb); replace BK1297 := Aside0.mk (blk_below (g := gb1297) (o := .cells #[.bool false, .slice none 0 0, .slice none 0 0] 67 (0, 0)) (ku BK1297.out) hb); replace HB := Aside0.mk (below_step (bu2 HB.out GE1296.out GE1297.out) hb); (try clear hb); (try clear hb2); (try clear hk); (try clear hi); (try clear ho0); (try clear ho1); have hcz9_0 : w8.cell? ⟨gb1296, 0, none⟩ = some (.bool a0_0) := (blk_cell BK1296.out 0).trans rfl; have hcz9_1 : w8.cell? ⟨gb1296, 1, none⟩ = some (.slice A0_1 l0_1.length c0_1) := (blk_cell BK1296.out 1).trans rfl; have hcz9_2 : w8.cell? ⟨gb1296, 2, none⟩ = some (.slice A0_2 l0_2.length c0_2) := (blk_cell BK1296.out 2).trans rfl; have hfz9_0 := blk_frozen BK1296.out 0; have hfz9_1 := blk_frozen BK1296.out 1; have hfz9_2 := blk_frozen BK1296.out 2; obtain ⟨Ao10, co10, eo10⟩ := Kd.V_slice HO1301.out; subst eo10; obtain ⟨Ao11, co11, eo11⟩ := Kd.V_slice HO1304.out; subst eo11) | ((with_reducible refine gate_store (t := 67) (p := 1) rfl ?_); refine store_event (t := 67) (p := 1) (v := ?vo_w12) (w1 := (((w8.setCell ⟨gb1296, 0, none⟩ (.bool t1298)).setCell ⟨gb1296, 1, none⟩ (.slice Ao10 t1299.length co10)).setCell ⟨gb1296, 2, none⟩ (.slice Ao11 t1302.length co11))) ?hg ?ho ?hn ?hr ?_; (case ho => rfl); (case hg => rfl); (case hn => rfl); (case hr => first | (go_simp; done) | (go_simp; rfl)); intro w12 hw; have n0_ : Aside0 (Kd.V (Kd.int .u32) 48 w12 w.heap.size (fun k_ => ((P0_1_ k_ ∨ P0_2_ k_) ∨ w.heap.size ≤ k_) ∧ k_ ≠ gb1296 ∧ k_ ≠ gb1297) (.slice A0_1 l0_1.length c0_1) l0_1) := ⟨(by rw [hw]; exact (by (with_reducible repeat (first | apply Kd.V_alloc | apply Kd.V_drewN | apply Kd.V_drew)); exact Kd.V_mono (Kd.V_far (p := ⟨gb1296, 2, none⟩) (Kd.V_far (p := ⟨gb1296, 1, none⟩) (Kd.V_far (p := ⟨gb1296, 0, none⟩) (Kd.V_mono HO0_1.out (fun k_ hk => (⟨hk, hk.1.2⟩ : _ ∧ k_ ≠ gb1296))) (fun _ hk => hk.2) (.bool t1298)) (fun _ hk => hk.2) (.slice Ao10 t1299.length co10)) (fun _ hk => hk.2) (.slice Ao11 t1302.length co11)) (fun _ hk => ⟨hk.1.1.1, ⟨hk.1.1.2, hk.1.2⟩⟩)))⟩; have n1_ : Aside0 (Kd.V (Kd.int .u32) 48 w12 w.heap.size (fun k_ => ((P0_1_ k_ ∨ P0_2_ k_) ∨ w.heap.size ≤ k_) ∧ k_ ≠ gb1296 ∧ k_ ≠ gb1297) (.slice A0_2 l0_2.length c0_2) l0_2) := ⟨(by rw [hw]; exact (by (with_reducible repeat (first | apply Kd.V_alloc | apply Kd.V_drewN | apply Kd.V_drew)); exact Kd.V_mono (Kd.V_far (p := ⟨gb1296, 2, none⟩) (Kd.V_far (p := ⟨gb1296, 1, none⟩) (Kd.V_far (p := ⟨gb1296, 0, none⟩) (Kd.V_mono HO0_2.out (fun k_ hk => (⟨hk, hk.1.2⟩ : _ ∧ k_ ≠ gb1296))) (fun _ hk => hk.2) (.bool t1298)) (fun _ hk => hk.2) (.slice Ao10 t1299.length co10)) (fun _ hk => hk.2) (.slice Ao11 t1302.length co11)) (fun _ hk => ⟨hk.1.1.1, ⟨hk.1.1.2, hk.1.2⟩⟩)))⟩; have n2_ : Aside0 (Kd.V (Kd.int .u32) 48 w12 w.heap.size (fun k_ => ((P0_1_ k_ ∨ P0_2_ k_) ∨ w.heap.size ≤ k_) ∧ k_ ≠ gb1296 ∧ k_ ≠ gb1297) (.slice Ao10 t1299.length co10) t1299) := ⟨(by rw [hw]; exact (by (with_reducible repeat (first | apply Kd.V_alloc | apply Kd.V_drewN | apply Kd.V_drew)); exact Kd.V_mono (Kd.V_far (p := ⟨gb1296, 2, none⟩) (Kd.V_far (p := ⟨gb1296, 1, none⟩) (Kd.V_far (p := ⟨gb1296, 0, none⟩) (Kd.V_mono HO1301.out (fun k_ hk => (⟨hk, hk.2.1⟩ : _ ∧ k_ ≠ gb1296))) (fun _ hk => hk.2) (.bool t1298)) (fun _ hk => hk.2) (.slice Ao10 t1299.length co10)) (fun _ hk => hk.2) (.slice Ao11 t1302.length co11)) (fun _ hk => ⟨hk.1.1, ⟨hk.1.2.1, hk.1.2.2⟩⟩)))⟩; have n3_ : Aside0 (Kd.V (Kd.int .u32) 48 w12 w.heap.size (fun k_ => ((P0_1_ k_ ∨ P0_2_ k_) ∨ w.heap.size ≤ k_) ∧ k_ ≠ gb1296 ∧ k_ ≠ gb1297) (.slice Ao11 t1302.length co11) t1302) := ⟨(by rw [hw]; exact (by (with_reducible repeat (first | apply Kd.V_alloc | apply Kd.V_drewN | apply Kd.V_drew)); exact Kd.V_mono (Kd.V_far (p := ⟨gb1296, 2, none⟩) (Kd.V_far (p := ⟨gb1296, 1, none⟩) (Kd.V_far (p := ⟨gb1296, 0, none⟩) (Kd.V_mono HO1304.out (fun k_ hk => (⟨hk, hk.2.1⟩ : _ ∧ k_ ≠ gb1296))) (fun _ hk => hk.2) (.bool t1298)) (fun _ hk => hk.2) (.slice Ao10 t1299.length co10)) (fun _ hk => hk.2) (.slice Ao11 t1302.length co11)) (fun _ hk => ⟨hk.1.1, ⟨hk.1.2.1, hk.1.2.2⟩⟩)))⟩; have n4_ : Aside0 (w12.heap[gb1296]? = some (.cells #[.bool t1298, .slice Ao10 t1299.length co10, .slice Ao11 t1302.length co11] 67 (0, 0))) := ⟨(by rw [hw]; exact (by (with_reducible repeat (first | refine blk_drewN ?_ _ | refine blk_drew ?_ | refine blk_alloc ?_ _)); refine blk_put (cs := #[.bool t1298, .slice Ao10 t1299.length co10, .slice A0_2 l0_2.length c0_2]) ?_ 2 _ rfl; (with_reducible repeat (first | refine blk_drewN ?_ _ | refine blk_drew ?_ | refine blk_alloc ?_ _)); refine blk_put (cs := #[.bool t1298, .slice A0_1 l0_1.length c0_1, .slice A0_2 l0_2.length c0_2]) ?_ 1 _ rfl; (with_reducible repeat (first | refine blk_drewN ?_ _ | refine blk_drew ?_ | refine blk_alloc ?_ _)); refine blk_put (cs := #[.bool a0_0, .slice A0_1 l0_1.length c0_1, .slice A0_2 l0_2.length c0_2]) ?_ 0 _ rfl; (with_reducible repeat (first | refine blk_drewN ?_ _ | refine blk_drew ?_ | refine blk_alloc ?_ _)); exact BK1296.out))⟩; have n5_ : Aside0 (w12.heap[gb1297]? = some (.cells #[.bool false, .slice none 0 0, .slice none 0 0] 67 (0, 0))) := ⟨(by rw [hw]; exact (by (with_reducible repeat (first | refine blk_drewN ?_ _ | refine blk_drew ?_ | refine blk_alloc ?_ _)); refine blk_far ?_ NB1297_1296.out _; (with_reducible repeat (first | refine blk_drewN ?_ _ | refine blk_drew ?_ | refine blk_alloc ?_ _)); refine blk_far ?_ NB1297_1296.out _; (with_reducible repeat (first | refine blk_drewN ?_ _ | refine blk_drew ?_ | refine blk_alloc ?_ _)); refine blk_far ?_ NB1297_1296.out _; (with_reducible repeat (first | refine blk_drewN ?_ _ | refine blk_drew ?_ | refine blk_alloc ?_ _)); exact BK1297.out))⟩; have n6_ : Aside0 (Below w.heap.size w w12) := ⟨(by rw [hw]; exact (bu2 HB.out GE1296.out GE1297.out))⟩; clear hw HO0_1 HO0_2 HO1301 HO1304 BK1296 BK1297 HB; have HO0_1 := n0_; have HO0_2 := n1_; have HO1301 := n2_; have HO1304 := n3_; have BK1296 := n4_; have BK1297 := n5_; have HB := n6_; clear n0_ n1_ n2_ n3_ n4_ n5_ n6_; have hcz13_0 : w12.cell? ⟨gb1296, 0, none⟩ = some (.bool t1298) := (blk_cell BK1296.out 0).trans rfl; have hcz13_1 : w12.cell? ⟨gb1296, 1, none⟩ = some (.slice Ao10 t1299.length co10) := (blk_cell BK1296.out 1).trans rfl; have hcz13_2 : w12.cell? ⟨gb1296, 2, none⟩ = some (.slice Ao11 t1302.length co11) := (blk_cell BK1296.out 2).trans rfl; have hfz13_0 := blk_frozen BK1296.out 0; have hfz13_1 := blk_frozen BK1296.out 1; have hfz13_2 := blk_frozen BK1296.out 2) | ((with_reducible refine gate_callee (f := 80) rfl ?_); refine goesL_ (some 12) rfl rfl Try.func80 (by kernel_rfl) rfl #[.bool (!t1298), .slice Ao10 t1299.length co10, .slice Ao11 t1302.length co11] rfl lu ?_; (with_reducible refine (codewrightref02_Make.calls k (!t1298) (fun k_ => (((P0_1_ k_ ∨ P0_2_ k_) ∨ w.heap.size ≤ k_) ∧ (k_ ≠ gb1296 ∧ k_ ≠ gb1297))) _ _ t1299 (fun k_ => (((P0_1_ k_ ∨ P0_2_ k_) ∨ w.heap.size ≤ k_) ∧ (k_ ≠ gb1296 ∧ k_ ≠ gb1297))) _ _ t1302 t1305 t1306 t1309 _ ?side1 ?side2 A3.out).mono ?_); (case side1 => exact HO1301.out); (case side2 => exact HO1304.out); rintro e w14 ⟨v1307, v1310, rfl, ho0, ho1, hb⟩; refine ⟨_, rfl, ?_⟩; replace HO0_1 := Aside0.mk (Kd.V_below (vu HO0_1.out) hb); replace HO0_2 := Aside0.mk (Kd.V_below (vu HO0_2.out) hb); replace HO1301 := Aside0.mk (Kd.V_below (vu HO1301.out) hb); replace HO1304 := Aside0.mk (Kd.V_below (vu HO1304.out) hb); have HO1308 := Aside0.mk (Kd.V_lower (Kd.V_mono (ok' := fun k_ => ((P0_1_ k_ ∨ P0_2_ k_) ∨ w.heap.size ≤ k_) ∧ k_ ≠ gb1296 ∧ k_ ≠ gb1297) ho0 (fun k_ hk_ => ⟨Or.elim hk_ (fun hs_ => Or.elim hs_ (fun hs_ => hs_.1) (fun hs_ => hs_.1)) (fun hn_ => (.inr (Nat.le_trans (below_size (bu2 HB.out GE1296.out GE1297.out)) hn_))), Or.elim hk_ (fun hs_ => Or.elim hs_ (fun hs_ => hs_.2.1) (fun hs_ => hs_.2.1)) (fun hn_ => (Kd.freshB (g := gb1296) (o := .cells #[.bool t1298, .slice Ao10 t1299.length co10, .slice Ao11 t1302.length co11] 67 (0, 0)) (ku BK1296.out) k_ hn_)), Or.elim hk_ (fun hs_ => Or.elim hs_ (fun hs_ => hs_.2.2) (fun hs_ => hs_.2.2)) (fun hn_ => (Kd.freshB (g := gb1297) (o := .cells #[.bool false, .slice none 0 0, .slice none 0 0] 67 (0, 0)) (ku BK1297.out) k_ hn_))⟩)) (below_size (bu2 HB.out GE1296.out GE1297.out))); have HO1311 := Aside0.mk (Kd.V_lower (Kd.V_mono (ok' := fun k_ => ((P0_1_ k_ ∨ P0_2_ k_) ∨ w.heap.size ≤ k_) ∧ k_ ≠ gb1296 ∧ k_ ≠ gb1297) ho1 (fun k_ hk_ => ⟨Or.elim hk_ (fun hs_ => Or.elim hs_ (fun hs_ => hs_.1) (fun hs_ => hs_.1)) (fun hn_ => (.inr (Nat.le_trans (below_size (bu2 HB.out GE1296.out GE1297.out)) hn_))), Or.elim hk_ (fun hs_ => Or.elim hs_ (fun hs_ => hs_.2.1) (fun hs_ => hs_.2.1)) (fun hn_ => (Kd.freshB (g := gb1296) (o := .cells #[.bool t1298, .slice Ao10 t1299.length co10, .slice Ao11 t1302.length co11] 67 (0, 0)) (ku BK1296.out) k_ hn_)), Or.elim hk_ (fun hs_ => Or.elim hs_ (fun hs_ => hs_.2.2) (fun hs_ => hs_.2.2)) (fun hn_ => (Kd.freshB (g := gb1297) (o := .cells #[.bool false, .slice none 0 0, .slice none 0 0] 67 (0, 0)) (ku BK1297.out) k_ hn_))⟩)) (below_size (bu2 HB.out GE1296.out GE1297.out))); replace BK1296 := Aside0.mk (blk_below (g := gb1296) (o := .cells #[.bool t1298, .slice Ao10 t1299.length co10, .slice Ao11 t1302.length co11] 67 (0, 0)) (ku BK1296.out) hb); replace BK1297 := Aside0.mk (blk_below (g := gb1297) (o := .cells #[.bool false, .slice none 0 0, .slice none 0 0] 67 (0, 0)) (ku BK1297.out) hb); replace HB := Aside0.mk (below_step (bu2 HB.out GE1296.out GE1297.out) hb); (try clear hb); (try clear hb2); (try clear hk); (try clear hi); (try clear ho0); (try clear ho1); have hcz15_0 : w14.cell? ⟨gb1297, 0, none⟩ = some (.bool false) := (blk_cell BK1297.out 0).trans rfl; have hcz15_1 : w14.cell? ⟨gb1297, 1, none⟩ = some (.slice none 0 0) := (blk_cell BK1297.out 1).trans rfl; have hcz15_2 : w14.cell? ⟨gb1297, 2, none⟩ = some (.slice none 0 0) := (blk_cell BK1297.out 2).trans rfl; have hfz15_0 := blk_frozen BK1297.out 0; have hfz15_1 := blk_frozen BK1297.out 1; have hfz15_2 := blk_frozen BK1297.out 2; obtain ⟨Ao16, co16, eo16⟩ := Kd.V_slice HO1308.out; subst eo16; obtain ⟨Ao17, co17, eo17⟩ := Kd.V_slice HO1311.out; subst eo17))
 refine bodyPost_ret (results_cell_row rfl _ _ gb1297 67 #[.bool t1305, .slice Ao16 t1306.length co16, .slice Ao17 t1309.length co17] (0, 0) _ rfl (by (with_reducible repeat (first | refine blk_drewN ?_ _ | refine blk_drew ?_ | refine blk_alloc ?_ _)); refine blk_put (cs := #[.bool t1305, .slice Ao16 t1306.length co16, .slice none 0 0]) ?_ 2 _ rfl; (with_reducible repeat (first | refine blk_drewN ?_ _ | refine blk_drew ?_ | refine blk_alloc ?_ _)); refine blk_put (cs := #[.bool t1305, .slice none 0 0, .slice none 0 0]) ?_ 1 _ rfl; (with_reducible repeat (first | refine blk_drewN ?_ _ | refine blk_drew ?_ | refine blk_alloc ?_ _)); refine blk_put (cs := #[.bool false, .slice none 0 0, .slice none 0 0]) ?_ 0 _ rfl; (with_reducible repeat (first | refine blk_drewN ?_ _ | refine blk_drew ?_ | refine blk_alloc ?_ _)); exact BK1297.out) Try.underlying67 rfl (by kernel_rfl)) rfl ?_
 exact ⟨_, _, by first | rfl | (simp [errW_none, errW_some] <;> rfl) | (simp [*, errW_none, errW_some] <;> rfl), by (with_reducible repeat (first | apply Kd.V_alloc | apply Kd.V_drewN | apply Kd.V_drew)); exact Kd.V_mono (Kd.V_far (p := ⟨gb1297, 2, none⟩) (Kd.V_far (p := ⟨gb1297, 1, none⟩) (Kd.V_far (p := ⟨gb1297, 0, none⟩) (Kd.V_mono HO1308.out (fun k_ hk => (⟨hk, hk.2.2⟩ : _ ∧ k_ ≠ gb1297))) (fun _ hk => hk.2) (.bool t1305)) (fun _ hk => hk.2) (.slice Ao16 t1306.length co16)) (fun _ hk => hk.2) (.slice Ao17 t1309.length co17)) (fun _ hk => hk.1.1), by (with_reducible repeat (first | apply Kd.V_alloc | apply Kd.V_drewN | apply Kd.V_drew)); exact Kd.V_mono (Kd.V_far (p := ⟨gb1297, 2, none⟩) (Kd.V_far (p := ⟨gb1297, 1, none⟩) (Kd.V_far (p := ⟨gb1297, 0, none⟩) (Kd.V_mono HO1311.out (fun k_ hk => (⟨hk, hk.2.2⟩ : _ ∧ k_ ≠ gb1297))) (fun _ hk => hk.2) (.bool t1305)) (fun _ hk => hk.2) (.slice Ao16 t1306.length co16)) (fun _ hk => hk.2) (.slice Ao17 t1309.length co17)) (fun _ hk => hk.1.1), by repeat (first | (with_reducible first | exact HB.out | apply below_alloc | apply pw_below_drewN | apply below_drew1 | refine below_set ?_ GE1296.out | refine below_set ?_ GE1297.out) | exact HB.out)⟩
end Go.Proofs.Ytecfdemglbfnoaa.PT
end
section
namespace Go.Proofs.Ytecfdemglbfnoaa.PT
open Go.RowKit Go.Proofs.YtecfdemglbfnoaaW.PrintWords Go.Proofs.YtecfdemglbfnoaaW.PrintLast Go.Proofs.YtecfdemglbfnoaaW.PrintMore
attribute [local go_sem] max2_int min2_int max_two min_two max_three min_three max_four min_four   -- for this text's walks alone
set_option linter.unusedVariables false
set_option linter.unusedSimpArgs false
def codewrightlaw02_RationalForms.f (k : Nat) (a0_0 : Bool) (l0_1 : List Int) (l0_2 : List Int) : Option (Bool) := (codewrightlaw02_long.f k 40 (([(⟨a0_0, l0_1, l0_2⟩ : S67)] : List (S67)))).bind fun t1316 => (if t1316 = true then (some true) else ((rational_Trim.f k a0_0 l0_1 l0_2).bind fun bt1317 => ((codewrightref02_Trim.f k a0_0 l0_1 l0_2).bind fun bt1324 => ((codewrightlaw02_same.f k bt1317.1 bt1317.2.1 bt1317.2.2 bt1324.1 bt1324.2.1 bt1324.2.2).bind fun t1331 => (if t1331 = true then ((rational_Is.f k a0_0 l0_1 l0_2).bind fun t1332 => ((codewrightref02_Is.f k a0_0 l0_1 l0_2).bind fun t1333 => (if (t1332 == t1333) = true then ((rational_Sign.f k a0_0 l0_1 l0_2).bind fun t1334 => ((codewrightref02_Sign.f k a0_0 l0_1 l0_2).bind fun t1335 => (if t1334 = t1335 then ((rational_Neg.f k a0_0 l0_1 l0_2).bind fun bt1336 => ((codewrightref02_Neg.f k a0_0 l0_1 l0_2).bind fun bt1343 => ((codewrightlaw02_same.f k bt1336.1 bt1336.2.1 bt1336.2.2 bt1343.1 bt1343.2.1 bt1343.2.2).bind fun t1350 => (some t1350)))) else (none)))) else (none)))) else (none))))))
def codewrightlaw02_RationalForms.T3 : Bool × List (List Nat × List Nat) := (true, [([], []), ([0], [0]), ([], []), ([2, 1], [2]), ([1, 3, 3], [1, 3]), ([4, 4], [4]), ([5], [5]), ([6, 5, 5], [5, 6]), ([5], [5]), ([8, 7, 5], [5, 8]), ([7, 9, 5], [5, 7, 9]), ([5, 10], [5, 10]), ([11, 9], [11]), ([12], [12]), ([13, 12, 12], [12, 13]), ([12], [12]), ([15, 14, 12], [12, 15]), ([14, 16, 12], [12, 14, 16]), ([12, 17], [12, 17]), ([18, 16], [18]), ([19], [19]), ([20, 19, 19], [19, 20]), ([19], [19]), ([22, 21, 19], [19, 22]), ([21, 23, 23, 19], [19, 21, 23]), ([19, 24], [19, 24]), ([25, 24, 0, 1, 2, 3, 4, 5, 6, 7, 8, 9, 10, 11, 12, 13, 14, 15, 16, 17, 18, 19, 20, 21, 22, 23, 24, 25], [25])])
def codewrightlaw02_RationalForms.B3 : List Nat := [0, 1, 0, 7, 15, 31, 63, 127, 63, 511, 1023, 2047, 4095, 8191, 16383, 8191, 65535, 131071, 262143, 524287, 1048575, 2097151, 1048575, 8388607, 16777215, 33554431, 67108863]
theorem codewrightlaw02_RationalForms.tab3 : rtab .any (opsOf Try.f12 3) = codewrightlaw02_RationalForms.T3 := by kernel_rfl
theorem codewrightlaw02_RationalForms.bits3 : waitsOk codewrightlaw02_RationalForms.T3.2 codewrightlaw02_RationalForms.B3 = true := by kernel_rfl
set_option maxHeartbeats 8000000 in
set_option maxRecDepth 100000 in
theorem codewrightlaw02_RationalForms.calls (k : Nat) (a0_0 : Bool) (P0_1_ : Nat → Prop) (A0_1 : Option Addr) (c0_1 : Nat) (l0_1 : List Int) (P0_2_ : Nat → Prop) (A0_2 : Option Addr) (c0_2 : Nat) (l0_2 : List Int) (r : Bool) (w : World) (hs0_1 : Kd.V (Kd.int .u32) 48 w w.heap.size (fun k_ => P0_1_ k_) (.slice A0_1 l0_1.length c0_1) l0_1) (hs0_2 : Kd.V (Kd.int .u32) 48 w w.heap.size (fun k_ => P0_2_ k_) (.slice A0_2 l0_2.length c0_2) l0_2) (h : codewrightlaw02_RationalForms.f k a0_0 l0_1 l0_2 = some r) :
 Calls Try.prog 12 #[.agg #[.bool a0_0, .slice A0_1 l0_1.length c0_1, .slice A0_2 l0_2.length c0_2]] w fun e w' => e = .returned (.bool r) ∧ Below w.heap.size w w' := by
 have hu67 := Try.underlying67
 have HO0_1 := Aside0.mk (show Kd.V (Kd.int .u32) 48 w w.heap.size (fun k_ => ((P0_1_ k_ ∨ P0_2_ k_) ∨ w.heap.size ≤ k_)) (.slice A0_1 l0_1.length c0_1) l0_1 from Kd.V_mono hs0_1 (fun k_ hk => .inl (.inl hk)))
 have HO0_2 := Aside0.mk (show Kd.V (Kd.int .u32) 48 w w.heap.size (fun k_ => ((P0_1_ k_ ∨ P0_2_ k_) ∨ w.heap.size ≤ k_)) (.slice A0_2 l0_2.length c0_2) l0_2 from Kd.V_mono hs0_2 (fun k_ hk => .inl (.inr hk)))
 have HB := Aside0.mk (Below.refl w.heap.size w)
 have H : ((codewrightlaw02_long.f k 40 (([(⟨a0_0, l0_1, l0_2⟩ : S67)] : List (S67)))).bind fun t1316 => (if t1316 = true then (some true) else ((rational_Trim.f k a0_0 l0_1 l0_2).bind fun bt1317 => ((codewrightref02_Trim.f k a0_0 l0_1 l0_2).bind fun bt1324 => ((codewrightlaw02_same.f k bt1317.1 bt1317.2.1 bt1317.2.2 bt1324.1 bt1324.2.1 bt1324.2.2).bind fun t1331 => (if t1331 = true then ((rational_Is.f k a0_0 l0_1 l0_2).bind fun t1332 => ((codewrightref02_Is.f k a0_0 l0_1 l0_2).bind fun t1333 => (if (t1332 == t1333) = true then ((rational_Sign.f k a0_0 l0_1 l0_2).bind fun t1334 => ((codewrightref02_Sign.f k a0_0 l0_1 l0_2).bind fun t1335 => (if t1334 = t1335 then ((rational_Neg.f k a0_0 l0_1 l0_2).bind fun bt1336 => ((codewrightref02_Neg.f k a0_0 l0_1 l0_2).bind fun bt1343 => ((codewrightlaw02_same.f k bt1336.1 bt1336.2.1 bt1336.2.2 bt1343.1 bt1343.2.1 bt1343.2.2).bind fun t1350 => (some t1350)))) else (none)))) else (none)))) else (none))))))) = some r := h
 clear h
 obtain ⟨y1313, hy1313⟩ : ∃ y_ : List (S67), y_ = (([(⟨a0_0, l0_1, l0_2⟩ : S67)] : List (S67))) := ⟨_, rfl⟩
 replace H : ((codewrightlaw02_long.f k 40 y1313).bind fun t1316 => (if t1316 = true then (some true) else ((rational_Trim.f k a0_0 l0_1 l0_2).bind fun bt1317 => ((codewrightref02_Trim.f k a0_0 l0_1 l0_2).bind fun bt1324 => ((codewrightlaw02_same.f k bt1317.1 bt1317.2.1 bt1317.2.2 bt1324.1 bt1324.2.1 bt1324.2.2).bind fun t1331 => (if t1331 = true then ((rational_Is.f k a0_0 l0_1 l0_2).bind fun t1332 => ((codewrightref02_Is.f k a0_0 l0_1 l0_2).bind fun t1333 => (if (t1332 == t1333) = true then ((rational_Sign.f k a0_0 l0_1 l0_2).bind fun t1334 => ((codewrightref02_Sign.f k a0_0 l0_1 l0_2).bind fun t1335 => (if t1334 = t1335 then ((rational_Neg.f k a0_0 l0_1 l0_2).bind fun bt1336 => ((codewrightref02_Neg.f k a0_0 l0_1 l0_2).bind fun bt1343 => ((codewrightlaw02_same.f k bt1336.1 bt1336.2.1 bt1336.2.2 bt1343.1 bt1343.2.1 bt1343.2.2).bind fun t1350 => (some t1350)))) else (none)))) else (none)))) else (none))))))) = some r := by first | (rw [hy1313]; with_reducible exact H) | (have H2_ := (Option.bind_some _ _).symm.trans H; rw [hy1313]; with_reducible exact H2_) | (have H2_ := (Option.bind_some _ _).symm.trans H; with_reducible exact H2_) | with_reducible exact H | (rw [hy1313]; exact H) | exact H
 have Ny1313 := Aside0.mk hy1313
 clear hy1313
 replace H := Option.bind_eq_some_iff.mp H
 obtain ⟨t1316, A20, H⟩ := H
 replace H : (if t1316 = true then (some true) else ((rational_Trim.f k a0_0 l0_1 l0_2).bind fun bt1317 => ((codewrightref02_Trim.f k a0_0 l0_1 l0_2).bind fun bt1324 => ((codewrightlaw02_same.f k bt1317.1 bt1317.2.1 bt1317.2.2 bt1324.1 bt1324.2.1 bt1324.2.2).bind fun t1331 => (if t1331 = true then ((rational_Is.f k a0_0 l0_1 l0_2).bind fun t1332 => ((codewrightref02_Is.f k a0_0 l0_1 l0_2).bind fun t1333 => (if (t1332 == t1333) = true then ((rational_Sign.f k a0_0 l0_1 l0_2).bind fun t1334 => ((codewrightref02_Sign.f k a0_0 l0_1 l0_2).bind fun t1335 => (if t1334 = t1335 then ((rational_Neg.f k a0_0 l0_1 l0_2).bind fun bt1336 => ((codewrightref02_Neg.f k a0_0 l0_1 l0_2).bind fun bt1343 => ((codewrightlaw02_same.f k bt1336.1 bt1336.2.1 bt1336.2.2 bt1343.1 bt1343.2.1 bt1343.2.2).bind fun t1350 => (some t1350)))) else (none)))) else (none)))) else (none)))))) = some r := H
 have A2 := Aside0.mk A20
 clear A20
 by_cases c3 : t1316 = true
 ·
  subst c3
  have H1 : (some true) = some r := by rw [if_pos rfl] at H; exact H
  clear H
  have H := H1
  clear H1
  obtain rfl := Option.some.inj H
  go_enter Try.func12, Try.ntmps12
  go_wp2_with (first | ((with_reducible refine gate_dst (N := 1) rfl ?_); refine box_event ?hg (N := 1) ?hd (cs := #[.bool a0_0, .slice A0_1 l0_1.length c0_1, .slice A0_2 l0_2.length c0_2]) (t := 67) ?hr ?_; (case hd => rfl); (case hg => rfl); (case hr => first | (go_simp; done) | (go_simp; rfl)); intro gb1312 hg w4 hbox hb; replace HO0_1 := Aside0.mk (Kd.V_below (Kd.V_elderB (vu HO0_1.out) gb1312 (Nat.le_of_eq hg.symm)) hb); replace HO0_2 := Aside0.mk (Kd.V_below (Kd.V_elderB (vu HO0_2.out) gb1312 (Nat.le_of_eq hg.symm)) hb); have BK1312 := Aside0.mk (hbox); have GW1312 := Aside0.mk ((by rw [hg]; exact (below_size (bu HB.out)) : w.heap.size ≤ gb1312)); have GE1312 := Aside0.mk ((by rw [hg]; exact (below_size (bu HB.out)) : w.heap.size ≤ gb1312)); replace HB := Aside0.mk (below_step (bu HB.out) hb); clear hb hbox hg; have hcz5_0 : w4.cell? ⟨gb1312, 0, none⟩ = some (.bool a0_0) := (blk_cell BK1312.out 0).trans rfl; have hcz5_1 : w4.cell? ⟨gb1312, 1, none⟩ = some (.slice A0_1 l0_1.length c0_1) := (blk_cell BK1312.out 1).trans rfl; have hcz5_2 : w4.cell? ⟨gb1312, 2, none⟩ = some (.slice A0_2 l0_2.length c0_2) := (blk_cell BK1312.out 2).trans rfl; have hfz5_0 := blk_frozen BK1312.out 0; have hfz5_1 := blk_frozen BK1312.out 1; have hfz5_2 := blk_frozen BK1312.out 2) | ((with_reducible refine gate_dst (N := 4) rfl ?_); refine Kd.N_lit k67 _ 67 ?hg (N' := 4) ?hd (xs := ([(⟨a0_0, l0_1, l0_2⟩ : S67)] : List (S67))) (inner := [.bool a0_0, .slice A0_1 l0_1.length c0_1, .slice A0_2 l0_2.length c0_2]) (ok := (fun k_ => ((P0_1_ k_ ∨ P0_2_ k_) ∨ w.heap.size ≤ k_) ∧ k_ ≠ gb1312)) (okp := (fun k_ => ((P0_1_ k_ ∨ P0_2_ k_) ∨ w.heap.size ≤ k_) ∧ k_ ≠ gb1312)) ?hr ?hp (fun _ hk => hk) ((show ∀ k_, w4.heap.size ≤ k_ → (fun k_ => ((P0_1_ k_ ∨ P0_2_ k_) ∨ w.heap.size ≤ k_) ∧ k_ ≠ gb1312) k_ from fun k_ hk => ⟨(.inr (Nat.le_trans (below_size (bu1 HB.out GE1312.out)) hk)), Kd.freshB (g := gb1312) (o := .cells #[.bool a0_0, .slice A0_1 l0_1.length c0_1, .slice A0_2 l0_2.length c0_2] 67 (0, 0)) (ku BK1312.out) k_ hk⟩) _ (Nat.le_refl _)) (Below.refl _ _) (Nat.le_refl _) (by simp) ?_; (case hd => rfl); (case hg => rfl); (case hr => first | (go_simp; done) | (go_simp; rfl)); (case hp => exact (Reps.c3 (show Kd.FK k67 _ _ (⟨a0_0, l0_1, l0_2⟩ : S67) [.bool a0_0, .slice A0_1 l0_1.length c0_1, .slice A0_2 l0_2.length c0_2] from (k67_mkF _ _ (⟨a0_0, l0_1, l0_2⟩ : S67) (Kd.V_reads' (Kd.V_mono (ok' := (fun k_ => ((P0_1_ k_ ∨ P0_2_ k_) ∨ w.heap.size ≤ k_) ∧ k_ ≠ gb1312)) (HO0_1.out) (fun k_ hk => ⟨hk.1, hk.2⟩))).2.1 (Kd.V_F (Kd.V_mono (ok' := (fun k_ => ((P0_1_ k_ ∨ P0_2_ k_) ∨ w.heap.size ≤ k_) ∧ k_ ≠ gb1312)) (HO0_1.out) (fun k_ hk => ⟨hk.1, hk.2⟩))) (Kd.V_reads' (Kd.V_mono (ok' := (fun k_ => ((P0_1_ k_ ∨ P0_2_ k_) ∨ w.heap.size ≤ k_) ∧ k_ ≠ gb1312)) (HO0_2.out) (fun k_ hk => ⟨hk.1, hk.2⟩))).2.1 (Kd.V_F (Kd.V_mono (ok' := (fun k_ => ((P0_1_ k_ ∨ P0_2_ k_) ∨ w.heap.size ≤ k_) ∧ k_ ≠ gb1312)) (HO0_2.out) (fun k_ hk => ⟨hk.1, hk.2⟩))))) (Reps.none _ _))); intro v1314 w6 ho7 hb hg_ hnew_; clear hg_ hnew_; (first | rw [← Ny1313.out] at ho7 | (simp only [Int.reduceToNat] at ho7; rw [← Ny1313.out] at ho7)); replace HO0_1 := Aside0.mk (Kd.V_elder' (vu HO0_1.out) (Kd.N_base ho7) hb); replace HO0_2 := Aside0.mk (Kd.V_elder' (vu HO0_2.out) (Kd.N_base ho7) hb); have HO1315 := Aside0.mk (Kd.N_lower ho7 (below_size (bu1 HB.out GE1312.out))); replace BK1312 := Aside0.mk (blk_below (g := gb1312) (o := .cells #[.bool a0_0, .slice A0_1 l0_1.length c0_1, .slice A0_2 l0_2.length c0_2] 67 (0, 0)) (ku BK1312.out) hb); replace HB := Aside0.mk (below_step (bu1 HB.out GE1312.out) hb); clear hb ho7; obtain ⟨Ao8, co8, eo8⟩ := Kd.N_slice HO1315.out; subst eo8) | ((with_reducible refine gate_callee (f := 86) rfl ?_); refine goesL_ (some 5) rfl rfl Try.func86 (by kernel_rfl) rfl #[.int .i64 40, .slice Ao8 y1313.length co8] rfl lu ?_; (with_reducible refine (codewrightlaw02_long.calls k 40 _ _ y1313 true _ ?side1 ?side2 A2.out).mono ?_); (case side1 => repeat (first | exact (Kd.N_reads' HO1315.out).2.2 | (with_reducible refine Kd.C_alloc ?_ _) | (with_reducible refine Kd.C_drewN ?_ _) | (with_reducible refine Kd.C_drew ?_))); (case side2 => exact (Kd.N_reads' HO1315.out).2.1); rintro e w' ⟨rfl, ⟨nd, rfl⟩⟩; refine ⟨_, rfl, ?_⟩))
  go_ret
  exact ⟨by first | rfl | (simp [errW_none, errW_some] <;> rfl) | (simp [*, errW_none, errW_some] <;> rfl), by repeat (first | (with_reducible first | exact HB.out | apply below_alloc | apply pw_below_drewN | apply below_drew1 | refine below_set ?_ GE1312.out) | exact HB.out)⟩
 ·
  replace c3 := Bool.eq_false_iff.mpr c3
  subst c3
  have H1 : ((rational_Trim.f k a0_0 l0_1 l0_2).bind fun bt1317 => ((codewrightref02_Trim.f k a0_0 l0_1 l0_2).bind fun bt1324 => ((codewrightlaw02_same.f k bt1317.1 bt1317.2.1 bt1317.2.2 bt1324.1 bt1324.2.1 bt1324.2.2).bind fun t1331 => (if t1331 = true then ((rational_Is.f k a0_0 l0_1 l0_2).bind fun t1332 => ((codewrightref02_Is.f k a0_0 l0_1 l0_2).bind fun t1333 => (if (t1332 == t1333) = true then ((rational_Sign.f k a0_0 l0_1 l0_2).bind fun t1334 => ((codewrightref02_Sign.f k a0_0 l0_1 l0_2).bind fun t1335 => (if t1334 = t1335 then ((rational_Neg.f k a0_0 l0_1 l0_2).bind fun bt1336 => ((codewrightref02_Neg.f k a0_0 l0_1 l0_2).bind fun bt1343 => ((codewrightlaw02_same.f k bt1336.1 bt1336.2.1 bt1336.2.2 bt1343.1 bt1343.2.1 bt1343.2.2).bind fun t1350 => (some t1350)))) else (none)))) else (none)))) else (none))))) = some r := by rw [if_neg (show ¬ (false = true) by decide)] at H; exact H
  clear H
  have H := H1
  clear H1
  replace H := Option.bind_eq_some_iff.mp H
  obtain ⟨⟨t1317, t1318, t1321⟩, A90, H⟩ := H
  replace H : ((codewrightref02_Trim.f k a0_0 l0_1 l0_2).bind fun bt1324 => ((codewrightlaw02_same.f k t1317 t1318 t1321 bt1324.1 bt1324.2.1 bt1324.2.2).bind fun t1331 => (if t1331 = true then ((rational_Is.f k a0_0 l0_1 l0_2).bind fun t1332 => ((codewrightref02_Is.f k a0_0 l0_1 l0_2).bind fun t1333 => (if (t1332 == t1333) = true then ((rational_Sign.f k a0_0 l0_1 l0_2).bind fun t1334 => ((codewrightref02_Sign.f k a0_0 l0_1 l0_2).bind fun t1335 => (if t1334 = t1335 then ((rational_Neg.f k a0_0 l0_1 l0_2).bind fun bt1336 => ((codewrightref02_Neg.f k a0_0 l0_1 l0_2).bind fun bt1343 => ((codewrightlaw02_same.f k bt1336.1 bt1336.2.1 bt1336.2.2 bt1343.1 bt1343.2.1 bt1343.2.2).bind fun t1350 => (some t1350)))) else (none)))) else (none)))) else (none)))) = some r := H
  have A9 := Aside0.mk A90
  clear A90
  replace H := Option.bind_eq_some_iff.mp H
  obtain ⟨⟨t1324, t1325, t1328⟩, A100, H⟩ := H
  replace H : ((codewrightlaw02_same.f k t1317 t1318 t1321 t1324 t1325 t1328).bind fun t1331 => (if t1331 = true then ((rational_Is.f k a0_0 l0_1 l0_2).bind fun t1332 => ((codewrightref02_Is.f k a0_0 l0_1 l0_2).bind fun t1333 => (if (t1332 == t1333) = true then ((rational_Sign.f k a0_0 l0_1 l0_2).bind fun t1334 => ((codewrightref02_Sign.f k a0_0 l0_1 l0_2).bind fun t1335 => (if t1334 = t1335 then ((rational_Neg.f k a0_0 l0_1 l0_2).bind fun bt1336 => ((codewrightref02_Neg.f k a0_0 l0_1 l0_2).bind fun bt1343 => ((codewrightlaw02_same.f k bt1336.1 bt1336.2.1 bt1336.2.2 bt1343.1 bt1343.2.1 bt1343.2.2).bind fun t1350 => (some t1350)))) else (none)))) else (none)))) else (none))) = some r := H
  have A10 := Aside0.mk A100
  clear A100
  replace H := Option.bind_eq_some_iff.mp H
  obtain ⟨t1331, A110, H⟩ := H
  replace H : (if t1331 = true then ((rational_Is.f k a0_0 l0_1 l0_2).bind fun t1332 => ((codewrightref02_Is.f k a0_0 l0_1 l0_2).bind fun t1333 => (if (t1332 == t1333) = true then ((rational_Sign.f k a0_0 l0_1 l0_2).bind fun t1334 => ((codewrightref02_Sign.f k a0_0 l0_1 l0_2).bind fun t1335 => (if t1334 = t1335 then ((rational_Neg.f k a0_0 l0_1 l0_2).bind fun bt1336 => ((codewrightref02_Neg.f k a0_0 l0_1 l0_2).bind fun bt1343 => ((codewrightlaw02_same.f k bt1336.1 bt1336.2.1 bt1336.2.2 bt1343.1 bt1343.2.1 bt1343.2.2).bind fun t1350 => (some t1350)))) else (none)))) else (none)))) else (none)) = some r := H
  have A11 := Aside0.mk A110
  clear A110
  by_cases c12 : t1331 = true
  ·
   subst c12
   have H1 : ((rational_Is.f k a0_0 l0_1 l0_2).bind fun t1332 => ((codewrightref02_Is.f k a0_0 l0_1 l0_2).bind fun t1333 => (if (t1332 == t1333) = true then ((rational_Sign.f k a0_0 l0_1 l0_2).bind fun t1334 => ((codewrightref02_Sign.f k a0_0 l0_1 l0_2).bind fun t1335 => (if t1334 = t1335 then ((rational_Neg.f k a0_0 l0_1 l0_2).bind fun bt1336 => ((codewrightref02_Neg.f k a0_0 l0_1 l0_2).bind fun bt1343 => ((codewrightlaw02_same.f k bt1336.1 bt1336.2.1 bt1336.2.2 bt1343.1 bt1343.2.1 bt1343.2.2).bind fun t1350 => (some t1350)))) else (none)))) else (none)))) = some r := by rw [if_pos rfl] at H; exact H
   clear H
   have H := H1
   clear H1
   replace H := Option.bind_eq_some_iff.mp H
   obtain ⟨t1332, A130, H⟩ := H
   replace H : ((codewrightref02_Is.f k a0_0 l0_1 l0_2).bind fun t1333 => (if (t1332 == t1333) = true then ((rational_Sign.f k a0_0 l0_1 l0_2).bind fun t1334 => ((codewrightref02_Sign.f k a0_0 l0_1 l0_2).bind fun t1335 => (if t1334 = t1335 then ((rational_Neg.f k a0_0 l0_1 l0_2).bind fun bt1336 => ((codewrightref02_Neg.f k a0_0 l0_1 l0_2).bind fun bt1343 => ((codewrightlaw02_same.f k bt1336.1 bt1336.2.1 bt1336.2.2 bt1343.1 bt1343.2.1 bt1343.2.2).bind fun t1350 => (some t1350)))) else (none)))) else (none))) = some r := H
   have A13 := Aside0.mk A130
   clear A130
   replace H := Option.bind_eq_some_iff.mp H
   obtain ⟨t1333, A140, H⟩ := H
   replace H : (if (t1332 == t1333) = true then ((rational_Sign.f k a0_0 l0_1 l0_2).bind fun t1334 => ((codewrightref02_Sign.f k a0_0 l0_1 l0_2).bind fun t1335 => (if t1334 = t1335 then ((rational_Neg.f k a0_0 l0_1 l0_2).bind fun bt1336 => ((codewrightref02_Neg.f k a0_0 l0_1 l0_2).bind fun bt1343 => ((codewrightlaw02_same.f k bt1336.1 bt1336.2.1 bt1336.2.2 bt1343.1 bt1343.2.1 bt1343.2.2).bind fun t1350 => (some t1350)))) else (none)))) else (none)) = some r := H
   have A14 := Aside0.mk A140
   clear A140
   by_cases c15 : (t1332 == t1333) = true
   ·
    rw [if_pos c15] at H
    have c15b0 : (t1332 == t1333) = true := c15
    (try (have c15b1 : decide (t1332 = t1333) = true := by simpa using c15))
    (try (have c15b2 : (t1332 == t1333) = true := by simpa using c15))
    clear c15
    replace H := Option.bind_eq_some_iff.mp H
    obtain ⟨t1334, A160, H⟩ := H
    replace H : ((codewrightref02_Sign.f k a0_0 l0_1 l0_2).bind fun t1335 => (if t1334 = t1335 then ((rational_Neg.f k a0_0 l0_1 l0_2).bind fun bt1336 => ((codewrightref02_Neg.f k a0_0 l0_1 l0_2).bind fun bt1343 => ((codewrightlaw02_same.f k bt1336.1 bt1336.2.1 bt1336.2.2 bt1343.1 bt1343.2.1 bt1343.2.2).bind fun t1350 => (some t1350)))) else (none))) = some r := H
    have A16 := Aside0.mk A160
    clear A160
    replace H := Option.bind_eq_some_iff.mp H
    obtain ⟨t1335, A170, H⟩ := H
    replace H : (if t1334 = t1335 then ((rational_Neg.f k a0_0 l0_1 l0_2).bind fun bt1336 => ((codewrightref02_Neg.f k a0_0 l0_1 l0_2).bind fun bt1343 => ((codewrightlaw02_same.f k bt1336.1 bt1336.2.1 bt1336.2.2 bt1343.1 bt1343.2.1 bt1343.2.2).bind fun t1350 => (some t1350)))) else (none)) = some r := H
    have A17 := Aside0.mk A170
    clear A170
    by_cases c18 : t1334 = t1335
    ·
     rw [if_pos c18] at H
     have c18b0 : (t1334 == t1335) = true := beq_iff_eq.mpr c18
     have c18b1 : (t1334 != t1335) = false := bne_eq_false_iff_eq.mpr c18
     clear c18
     replace H := Option.bind_eq_some_iff.mp H
     obtain ⟨⟨t1336, t1337, t1340⟩, A190, H⟩ := H
     replace H : ((codewrightref02_Neg.f k a0_0 l0_1 l0_2).bind fun bt1343 => ((codewrightlaw02_same.f k t1336 t1337 t1340 bt1343.1 bt1343.2.1 bt1343.2.2).bind fun t1350 => (some t1350))) = some r := H
     have A19 := Aside0.mk A190
     clear A190
     replace H := Option.bind_eq_some_iff.mp H
     obtain ⟨⟨t1343, t1344, t1347⟩, A200, H⟩ := H
     replace H : ((codewrightlaw02_same.f k t1336 t1337 t1340 t1343 t1344 t1347).bind fun t1350 => (some t1350)) = some r := H
     have A20 := Aside0.mk A200
     clear A200
     replace H := Option.bind_eq_some_iff.mp H
     obtain ⟨t1350, A210, H⟩ := H
     replace H : (some t1350) = some r := H
     have A21 := Aside0.mk A210
     clear A210
     obtain rfl := Option.some.inj H
     go_enter Try.func12, Try.ntmps12
     try go_wp2_with (first | ((with_reducible refine gate_dst (N := 1) rfl ?_); refine box_event ?hg (N := 1) ?hd (cs := #[.bool a0_0, .slice A0_1 l0_1.length c0_1, .slice A0_2 l0_2.length c0_2]) (t := 67) ?hr ?_; (case hd => rfl); (case hg => rfl); (case hr => first | (go_simp; done) | (go_simp; rfl)); intro gb1312 hg w22 hbox hb; replace HO0_1 := Aside0.mk (Kd.V_below (Kd.V_elderB (vu HO0_1.out) gb1312 (Nat.le_of_eq hg.symm)) hb); replace HO0_2 := Aside0.mk (Kd.V_below (Kd.V_elderB (vu HO0_2.out) gb1312 (Nat.le_of_eq hg.symm)) hb); have BK1312 := Aside0.mk (hbox); have GW1312 := Aside0.mk ((by rw [hg]; exact (below_size (bu HB.out)) : w.heap.size ≤ gb1312)); have GE1312 := Aside0.mk ((by rw [hg]; exact (below_size (bu HB.out)) : w.heap.size ≤ gb1312)); replace HB := Aside0.mk (below_step (bu HB.out) hb); clear hb hbox hg; have hcz23_0 : w22.cell? ⟨gb1312, 0, none⟩ = some (.bool a0_0) := (blk_cell BK1312.out 0).trans rfl; have hcz23_1 : w22.cell? ⟨gb1312, 1, none⟩ = some (.slice A0_1 l0_1.length c0_1) := (blk_cell BK1312.out 1).trans rfl; have hcz23_2 : w22.cell? ⟨gb1312, 2, none⟩ = some (.slice A0_2 l0_2.length c0_2) := (blk_cell BK1312.out 2).trans rfl; have hfz23_0 := blk_frozen BK1312.out 0; have hfz23_1 := blk_frozen BK1312.out 1; have hfz23_2 := blk_frozen BK1312.out 2) | ((with_reducible refine gate_dst (N := 4) rfl ?_); refine Kd.N_lit k67 _ 67 ?hg (N' := 4) ?hd (xs := ([(⟨a0_0, l0_1, l0_2⟩ : S67)] : List (S67))) (inner := [.bool a0_0, .slice A0_1 l0_1.length c0_1, .slice A0_2 l0_2.length c0_2]) (ok := (fun k_ => ((P0_1_ k_ ∨ P0_2_ k_) ∨ w.heap.size ≤ k_) ∧ k_ ≠ gb1312)) (okp := (fun k_ => ((P0_1_ k_ ∨ P0_2_ k_) ∨ w.heap.size ≤ k_) ∧ k_ ≠ gb1312)) ?hr ?hp (fun _ hk => hk) ((show ∀ k_, w22.heap.size ≤ k_ → (fun k_ => ((P0_1_ k_ ∨ P0_2_ k_) ∨ w.heap.size ≤ k_) ∧ k_ ≠ gb1312) k_ from fun k_ hk => ⟨(.inr (Nat.le_trans (below_size (bu1 HB.out GE1312.out)) hk)), Kd.freshB (g := gb1312) (o := .cells #[.bool a0_0, .slice A0_1 l0_1.length c0_1, .slice A0_2 l0_2.length c0_2] 67 (0, 0)) (ku BK1312.out) k_ hk⟩) _ (Nat.le_refl _)) (Below.refl _ _) (Nat.le_refl _) (by simp) ?_; (case hd => rfl); (case hg => rfl); (case hr => first | (go_simp; done) | (go_simp; rfl)); (case hp => exact (Reps.c3 (show Kd.FK k67 _ _ (⟨a0_0, l0_1, l0_2⟩ : S67) [.bool a0_0, .slice A0_1 l0_1.length c0_1, .slice A0_2 l0_2.length c0_2] from (k67_mkF _ _ (⟨a0_0, l0_1, l0_2⟩ : S67) (Kd.V_reads' (Kd.V_mono (ok' := (fun k_ => ((P0_1_ k_ ∨ P0_2_ k_) ∨ w.heap.size ≤ k_) ∧ k_ ≠ gb1312)) (HO0_1.out) (fun k_ hk => ⟨hk.1, hk.2⟩))).2.1 (Kd.V_F (Kd.V_mono (ok' := (fun k_ => ((P0_1_ k_ ∨ P0_2_ k_) ∨ w.heap.size ≤ k_) ∧ k_ ≠ gb1312)) (HO0_1.out) (fun k_ hk => ⟨hk.1, hk.2⟩))) (Kd.V_reads' (Kd.V_mono (ok' := (fun k_ => ((P0_1_ k_ ∨ P0_2_ k_) ∨ w.heap.size ≤ k_) ∧ k_ ≠ gb1312)) (HO0_2.out) (fun k_ hk => ⟨hk.1, hk.2⟩))).2.1 (Kd.V_F (Kd.V_mono (ok' := (fun k_ => ((P0_1_ k_ ∨ P0_2_ k_) ∨ w.heap.size ≤ k_) ∧ k_ ≠ gb1312)) (HO0_2.out) (fun k_ hk => ⟨hk.1, hk.2⟩))))) (Reps.none _ _))); intro v1314 w24 ho25 hb hg_ hnew_; clear hg_ hnew_; (first | rw [← Ny1313.out] at ho25 | (simp only [Int.reduceToNat] at ho25; rw [← Ny1313.out] at ho25)); replace HO0_1 := Aside0.mk (Kd.V_elder' (vu HO0_1.out) (Kd.N_base ho25) hb); replace HO0_2 := Aside0.mk (Kd.V_elder' (vu HO0_2.out) (Kd.N_base ho25) hb); have HO1315 := Aside0.mk (Kd.N_lower ho25 (below_size (bu1 HB.out GE1312.out))); replace BK1312 := Aside0.mk (blk_below (g := gb1312) (o := .cells #[.bool a0_0, .slice A0_1 l0_1.length c0_1, .slice A0_2 l0_2.length c0_2] 67 (0, 0)) (ku BK1312.out) hb); replace HB := Aside0.mk (below_step (bu1 HB.out GE1312.out) hb); clear hb ho25; obtain ⟨Ao26, co26, eo26⟩ := Kd.N_slice HO1315.out; subst eo26) | ((with_reducible refine gate_callee (f := 86) rfl ?_); refine goesL_ (some 5) rfl rfl Try.func86 (by kernel_rfl) rfl #[.int .i64 40, .slice Ao26 y1313.length co26] rfl lu ?_; (with_reducible refine (codewrightlaw02_long.calls k 40 _ _ y1313 false _ ?side1 ?side2 A2.out).mono ?_); (case side1 => repeat (first | exact (Kd.N_reads' HO1315.out).2.2 | (with_reducible refine Kd.C_alloc ?_ _) | (with_reducible refine Kd.C_drewN ?_ _) | (with_reducible refine Kd.C_drew ?_))); (case side2 => exact (Kd.N_reads' HO1315.out).2.1); rintro e w' ⟨rfl, ⟨nd, rfl⟩⟩; refine ⟨_, rfl, ?_⟩))
     (try (rw [drewN_self w24]; generalize hq_ : World.drewN w24 _ = w24; have n0_ : Aside0 (Kd.V (Kd.int .u32) 48 w24 w.heap.size (fun k_ => ((P0_1_ k_ ∨ P0_2_ k_) ∨ w.heap.size ≤ k_) ∧ some k_ ≠ (.slice Ao26 y1313.length co26 : Value).ownBlock ∧ k_ ≠ gb1312) (.slice A0_1 l0_1.length c0_1) l0_1) := ⟨by rw [← hq_]; exact (by (with_reducible repeat (first | apply Kd.V_alloc | apply Kd.V_drewN | apply Kd.V_drew)); exact Kd.V_mono HO0_1.out (fun _ hk => ⟨hk.1.1, ⟨hk.2, hk.1.2⟩⟩))⟩; have n1_ : Aside0 (Kd.V (Kd.int .u32) 48 w24 w.heap.size (fun k_ => ((P0_1_ k_ ∨ P0_2_ k_) ∨ w.heap.size ≤ k_) ∧ some k_ ≠ (.slice Ao26 y1313.length co26 : Value).ownBlock ∧ k_ ≠ gb1312) (.slice A0_2 l0_2.length c0_2) l0_2) := ⟨by rw [← hq_]; exact (by (with_reducible repeat (first | apply Kd.V_alloc | apply Kd.V_drewN | apply Kd.V_drew)); exact Kd.V_mono HO0_2.out (fun _ hk => ⟨hk.1.1, ⟨hk.2, hk.1.2⟩⟩))⟩; have n2_ : Aside0 (Kd.N k67 67 w24 w.heap.size (fun k_ => ((P0_1_ k_ ∨ P0_2_ k_) ∨ w.heap.size ≤ k_) ∧ k_ ≠ gb1312) (.slice Ao26 y1313.length co26) y1313) := ⟨by rw [← hq_]; exact (nu HO1315.out)⟩; have n3_ : Aside0 (w24.heap[gb1312]? = some (.cells #[.bool a0_0, .slice A0_1 l0_1.length c0_1, .slice A0_2 l0_2.length c0_2] 67 (0, 0))) := ⟨by rw [← hq_]; exact (ku BK1312.out)⟩; have n4_ : Aside0 (Below w.heap.size w w24) := ⟨by rw [← hq_]; exact (bu1 HB.out GE1312.out)⟩; clear HO0_1 HO0_2 HO1315 BK1312 HB hq_; have HO0_1 := n0_; have HO0_2 := n1_; have HO1315 := n2_; have BK1312 := n3_; have HB := n4_; clear n0_ n1_ n2_ n3_ n4_))
     replace HO0_1 := Aside0.mk (Kd.V_drew HO0_1.out)
     replace HO0_2 := Aside0.mk (Kd.V_drew HO0_2.out)
     replace HO1315 := Aside0.mk (Kd.N_drew HO1315.out)
     replace BK1312 := Aside0.mk (blk_drew BK1312.out)
     replace HB := Aside0.mk (below_drew1 HB.out)
     refine start_ (n := 27) (S := fun w' => w'.cell? ⟨gb1312, 0, none⟩ = some (.bool a0_0) ∧ w'.cell? ⟨gb1312, 1, none⟩ = some (.slice A0_1 l0_1.length c0_1) ∧ w'.cell? ⟨gb1312, 2, none⟩ = some (.slice A0_2 l0_2.length c0_2)) (ds := []) #[false, false, false, false, false, false, false, false, false, false, false, false, false, false, false, false, false, false, false, false, false, false, false, false, false, false, false] (by kernel_rfl) rfl rfl ⟨(blk_cell BK1312.out 0).trans rfl, (blk_cell BK1312.out 1).trans rfl, (blk_cell BK1312.out 2).trans rfl⟩ (fun hHeld => ?_); refine with_tabW codewrightlaw02_RationalForms.tab3 codewrightlaw02_RationalForms.bits3 (fun HT_ HW_ => ?_)
     generalize w24.drew = w27 at HO0_1 HO0_2 HO1315 BK1312 HB hHeld ⊢
     refine take_ (i := 0) (N := some 6) (v := ?_) (a' := ?_) #[true, false, false, false, false, false, false, false, false, false, false, false, false, false, false, false, false, false, false, false, false, false, false, false, false, false, false] rfl rfl (take_ofW HT_.out HW_.out (by kernel_rfl)) (fun _ _ _ h => h) (Or.inl ⟨by rfl, ?_⟩) hHeld ?_ ?_
     rotate_left
     ·
      rintro w' ⟨s0, s1, s2⟩
      go_simp
      with_reducible rfl
     rotate_left
     ·
      simp only [Act.put, List.setIfInBounds_toArray, List.set_cons_zero, List.set_cons_succ, i64_w, i32_w]
      rfl
     refine take_ (i := 2) (N := some 8) (v := ?_) (a' := ?_) #[true, false, true, false, false, false, false, false, false, false, false, false, false, false, false, false, false, false, false, false, false, false, false, false, false, false, false] rfl rfl (take_ofW HT_.out HW_.out (by kernel_rfl)) (fun _ _ _ h => h) (Or.inl ⟨by rfl, ?_⟩) hHeld ?_ ?_
     rotate_left
     ·
      rintro w' ⟨s0, s1, s2⟩
      go_simp
      with_reducible rfl
     rotate_left
     ·
      simp only [Act.put, List.setIfInBounds_toArray, List.set_cons_zero, List.set_cons_succ, i64_w, i32_w]
      rfl
     refine one_ (i := 1) (N := some 7) #[true, true, true, false, false, false, false, false, false, false, false, false, false, false, false, false, false, false, false, false, false, false, false, false, false, false, false] rfl rfl (one_of HT_.out (by kernel_rfl)) (by decide) (fun K hK => ?_)
     refine goes_ Try.func87 (by kernel_rfl) rfl #[.agg #[.bool a0_0, .slice A0_1 l0_1.length c0_1, .slice A0_2 l0_2.length c0_2]] (by rfl) rfl rfl lu ?_
     with_reducible refine (rational_Trim.calls k a0_0 (fun k_ => ((((P0_1_ k_ ∨ P0_2_ k_) ∨ w.heap.size ≤ k_) ∧ k_ ≠ gb1312) ∧ some k_ ≠ (.slice Ao26 y1313.length co26 : Value).ownBlock)) _ _ l0_1 (fun k_ => ((((P0_1_ k_ ∨ P0_2_ k_) ∨ w.heap.size ≤ k_) ∧ k_ ≠ gb1312) ∧ some k_ ≠ (.slice Ao26 y1313.length co26 : Value).ownBlock)) _ _ l0_2 t1317 t1318 t1321 _ ?side1 ?side2 A9.out).mono ?_
     (case side1 => first | exact HO0_1.out | exact Kd.V_mono HO0_1.out (fun _ hk => ⟨⟨hk.1, hk.2.2⟩, hk.2.1⟩))
     (case side2 => first | exact HO0_2.out | exact Kd.V_mono HO0_2.out (fun _ hk => ⟨⟨hk.1, hk.2.2⟩, hk.2.1⟩))
     rintro e w28 ⟨v1319, v1322, rfl, ho0, ho1, hb⟩
     refine ⟨_, rfl, ?_⟩
     replace HO0_1 := Aside0.mk (Kd.V_below (vu HO0_1.out) hb)
     replace HO0_2 := Aside0.mk (Kd.V_below (vu HO0_2.out) hb)
     have HO1320 := Aside0.mk (Kd.V_lower (Kd.V_mono (ok' := fun k_ => ((P0_1_ k_ ∨ P0_2_ k_) ∨ w.heap.size ≤ k_) ∧ some k_ ≠ (.slice Ao26 y1313.length co26 : Value).ownBlock ∧ k_ ≠ gb1312) ho0 (fun k_ hk_ => ⟨Or.elim hk_ (fun hs_ => Or.elim hs_ (fun hs_ => hs_.1.1) (fun hs_ => hs_.1.1)) (fun hn_ => (.inr (Nat.le_trans (below_size (bu1 HB.out GE1312.out)) hn_))), Or.elim hk_ (fun hs_ => Or.elim hs_ (fun hs_ => hs_.2) (fun hs_ => hs_.2)) (fun hn_ => (Kd.fresh' (Kd.N_lt (nu HO1315.out)) k_ hn_)), Or.elim hk_ (fun hs_ => Or.elim hs_ (fun hs_ => hs_.1.2) (fun hs_ => hs_.1.2)) (fun hn_ => (Kd.freshB (g := gb1312) (o := .cells #[.bool a0_0, .slice A0_1 l0_1.length c0_1, .slice A0_2 l0_2.length c0_2] 67 (0, 0)) (ku BK1312.out) k_ hn_))⟩)) (below_size (bu1 HB.out GE1312.out)))
     have HO1323 := Aside0.mk (Kd.V_lower (Kd.V_mono (ok' := fun k_ => ((P0_1_ k_ ∨ P0_2_ k_) ∨ w.heap.size ≤ k_) ∧ some k_ ≠ (.slice Ao26 y1313.length co26 : Value).ownBlock ∧ k_ ≠ gb1312) ho1 (fun k_ hk_ => ⟨Or.elim hk_ (fun hs_ => Or.elim hs_ (fun hs_ => hs_.1.1) (fun hs_ => hs_.1.1)) (fun hn_ => (.inr (Nat.le_trans (below_size (bu1 HB.out GE1312.out)) hn_))), Or.elim hk_ (fun hs_ => Or.elim hs_ (fun hs_ => hs_.2) (fun hs_ => hs_.2)) (fun hn_ => (Kd.fresh' (Kd.N_lt (nu HO1315.out)) k_ hn_)), Or.elim hk_ (fun hs_ => Or.elim hs_ (fun hs_ => hs_.1.2) (fun hs_ => hs_.1.2)) (fun hn_ => (Kd.freshB (g := gb1312) (o := .cells #[.bool a0_0, .slice A0_1 l0_1.length c0_1, .slice A0_2 l0_2.length c0_2] 67 (0, 0)) (ku BK1312.out) k_ hn_))⟩)) (below_size (bu1 HB.out GE1312.out)))
     replace HO1315 := Aside0.mk (Kd.N_below (nu HO1315.out) hb)
     replace BK1312 := Aside0.mk (blk_below (g := gb1312) (o := .cells #[.bool a0_0, .slice A0_1 l0_1.length c0_1, .slice A0_2 l0_2.length c0_2] 67 (0, 0)) (ku BK1312.out) hb)
     replace HB := Aside0.mk (below_step (bu1 HB.out GE1312.out) hb)
     (try clear hb)
     (try clear hb2)
     (try clear hk)
     (try clear hi)
     (try clear ho0)
     (try clear ho1)
     refine hK.out _ _ ⟨(blk_cell BK1312.out 0).trans rfl, (blk_cell BK1312.out 1).trans rfl, (blk_cell BK1312.out 2).trans rfl⟩ (fun hHeld => ?_)
     clear hK K
     refine norm_ (a' := ?_) ?_ ?_
     rotate_left
     ·
      show Act.put _ (some 7) _ = _
      simp only [Act.put, List.setIfInBounds_toArray, List.set_cons_zero, List.set_cons_succ, i64_w, i32_w]
      rfl
     refine one_ (i := 3) (N := some 9) #[true, true, true, true, false, false, false, false, false, false, false, false, false, false, false, false, false, false, false, false, false, false, false, false, false, false, false] rfl rfl (one_of HT_.out (by kernel_rfl)) (by decide) (fun K hK => ?_)
     refine goes_ Try.func88 (by kernel_rfl) rfl #[.agg #[.bool a0_0, .slice A0_1 l0_1.length c0_1, .slice A0_2 l0_2.length c0_2]] (by rfl) rfl rfl lu ?_
     with_reducible refine (codewrightref02_Trim.calls k a0_0 (fun k_ => ((((P0_1_ k_ ∨ P0_2_ k_) ∨ w.heap.size ≤ k_) ∧ k_ ≠ gb1312) ∧ some k_ ≠ (.slice Ao26 y1313.length co26 : Value).ownBlock)) _ _ l0_1 (fun k_ => ((((P0_1_ k_ ∨ P0_2_ k_) ∨ w.heap.size ≤ k_) ∧ k_ ≠ gb1312) ∧ some k_ ≠ (.slice Ao26 y1313.length co26 : Value).ownBlock)) _ _ l0_2 t1324 t1325 t1328 _ ?side1 ?side2 A10.out).mono ?_
     (case side1 => first | exact HO0_1.out | exact Kd.V_mono HO0_1.out (fun _ hk => ⟨⟨hk.1, hk.2.2⟩, hk.2.1⟩))
     (case side2 => first | exact HO0_2.out | exact Kd.V_mono HO0_2.out (fun _ hk => ⟨⟨hk.1, hk.2.2⟩, hk.2.1⟩))
     rintro e w29 ⟨v1326, v1329, rfl, ho0, ho1, hb⟩
     refine ⟨_, rfl, ?_⟩
     replace HO0_1 := Aside0.mk (Kd.V_below (vu HO0_1.out) hb)
     replace HO0_2 := Aside0.mk (Kd.V_below (vu HO0_2.out) hb)
     replace HO1320 := Aside0.mk (Kd.V_below (vu HO1320.out) hb)
     replace HO1323 := Aside0.mk (Kd.V_below (vu HO1323.out) hb)
     have HO1327 := Aside0.mk (Kd.V_lower (Kd.V_mono (ok' := fun k_ => ((P0_1_ k_ ∨ P0_2_ k_) ∨ w.heap.size ≤ k_) ∧ some k_ ≠ (.slice Ao26 y1313.length co26 : Value).ownBlock ∧ k_ ≠ gb1312) ho0 (fun k_ hk_ => ⟨Or.elim hk_ (fun hs_ => Or.elim hs_ (fun hs_ => hs_.1.1) (fun hs_ => hs_.1.1)) (fun hn_ => (.inr (Nat.le_trans (below_size (bu1 HB.out GE1312.out)) hn_))), Or.elim hk_ (fun hs_ => Or.elim hs_ (fun hs_ => hs_.2) (fun hs_ => hs_.2)) (fun hn_ => (Kd.fresh' (Kd.N_lt (nu HO1315.out)) k_ hn_)), Or.elim hk_ (fun hs_ => Or.elim hs_ (fun hs_ => hs_.1.2) (fun hs_ => hs_.1.2)) (fun hn_ => (Kd.freshB (g := gb1312) (o := .cells #[.bool a0_0, .slice A0_1 l0_1.length c0_1, .slice A0_2 l0_2.length c0_2] 67 (0, 0)) (ku BK1312.out) k_ hn_))⟩)) (below_size (bu1 HB.out GE1312.out)))
     have HO1330 := Aside0.mk (Kd.V_lower (Kd.V_mono (ok' := fun k_ => ((P0_1_ k_ ∨ P0_2_ k_) ∨ w.heap.size ≤ k_) ∧ some k_ ≠ (.slice Ao26 y1313.length co26 : Value).ownBlock ∧ k_ ≠ gb1312) ho1 (fun k_ hk_ => ⟨Or.elim hk_ (fun hs_ => Or.elim hs_ (fun hs_ => hs_.1.1) (fun hs_ => hs_.1.1)) (fun hn_ => (.inr (Nat.le_trans (below_size (bu1 HB.out GE1312.out)) hn_))), Or.elim hk_ (fun hs_ => Or.elim hs_ (fun hs_ => hs_.2) (fun hs_ => hs_.2)) (fun hn_ => (Kd.fresh' (Kd.N_lt (nu HO1315.out)) k_ hn_)), Or.elim hk_ (fun hs_ => Or.elim hs_ (fun hs_ => hs_.1.2) (fun hs_ => hs_.1.2)) (fun hn_ => (Kd.freshB (g := gb1312) (o := .cells #[.bool a0_0, .slice A0_1 l0_1.length c0_1, .slice A0_2 l0_2.length c0_2] 67 (0, 0)) (ku BK1312.out) k_ hn_))⟩)) (below_size (bu1 HB.out GE1312.out)))
     replace HO1315 := Aside0.mk (Kd.N_below (nu HO1315.out) hb)
     replace BK1312 := Aside0.mk (blk_below (g := gb1312) (o := .cells #[.bool a0_0, .slice A0_1 l0_1.length c0_1, .slice A0_2 l0_2.length c0_2] 67 (0, 0)) (ku BK1312.out) hb)
     replace HB := Aside0.mk (below_step (bu1 HB.out GE1312.out) hb)
     (try clear hb)
     (try clear hb2)
     (try clear hk)
     (try clear hi)
     (try clear ho0)
     (try clear ho1)
     obtain ⟨Ao30, co30, eo30⟩ := Kd.V_slice HO1320.out
     (first | subst eo30 | (injection eo30 with f1_ f2_ f3_; have f4_ := f1_.symm; have f5_ := f3_.symm; clear f1_ f2_ f3_; subst f4_; subst f5_))
     obtain ⟨Ao31, co31, eo31⟩ := Kd.V_slice HO1323.out
     (first | subst eo31 | (injection eo31 with f1_ f2_ f3_; have f4_ := f1_.symm; have f5_ := f3_.symm; clear f1_ f2_ f3_; subst f4_; subst f5_))
     obtain ⟨Ao32, co32, eo32⟩ := Kd.V_slice HO1327.out
     (first | subst eo32 | (injection eo32 with f1_ f2_ f3_; have f4_ := f1_.symm; have f5_ := f3_.symm; clear f1_ f2_ f3_; subst f4_; subst f5_))
     obtain ⟨Ao33, co33, eo33⟩ := Kd.V_slice HO1330.out
     (first | subst eo33 | (injection eo33 with f1_ f2_ f3_; have f4_ := f1_.symm; have f5_ := f3_.symm; clear f1_ f2_ f3_; subst f4_; subst f5_))
     refine hK.out _ _ ⟨(blk_cell BK1312.out 0).trans rfl, (blk_cell BK1312.out 1).trans rfl, (blk_cell BK1312.out 2).trans rfl⟩ (fun hHeld => ?_)
     clear hK K
     refine norm_ (a' := ?_) ?_ ?_
     rotate_left
     ·
      show Act.put _ (some 9) _ = _
      simp only [Act.put, List.setIfInBounds_toArray, List.set_cons_zero, List.set_cons_succ, i64_w, i32_w]
      rfl
     refine one_ (i := 4) (N := some 10) #[true, true, true, true, true, false, false, false, false, false, false, false, false, false, false, false, false, false, false, false, false, false, false, false, false, false, false] rfl rfl (one_of HT_.out (by kernel_rfl)) (by decide) (fun K hK => ?_)
     refine goes_ Try.func83 (by kernel_rfl) rfl #[.agg #[.bool t1317, .slice Ao30 t1318.length co30, .slice Ao31 t1321.length co31], .agg #[.bool t1324, .slice Ao32 t1325.length co32, .slice Ao33 t1328.length co33]] (by rfl) rfl rfl lu ?_
     with_reducible refine (codewrightlaw02_same.calls k t1317 _ _ t1318 _ _ t1321 t1324 _ _ t1325 _ _ t1328 true _ ?side1 ?side2 ?side3 ?side4 ?side5 ?side6 ?side7 ?side8 A11.out).mono ?_
     (case side1 => repeat (first | exact (Kd.V_reads' HO1320.out).2.2 | (with_reducible refine Kd.C_alloc ?_ _) | (with_reducible refine Kd.C_drewN ?_ _) | (with_reducible refine Kd.C_drew ?_)))
     (case side2 => exact (Kd.V_reads' HO1320.out).2.1)
     (case side3 => repeat (first | exact (Kd.V_reads' HO1323.out).2.2 | (with_reducible refine Kd.C_alloc ?_ _) | (with_reducible refine Kd.C_drewN ?_ _) | (with_reducible refine Kd.C_drew ?_)))
     (case side4 => exact (Kd.V_reads' HO1323.out).2.1)
     (case side5 => repeat (first | exact (Kd.V_reads' HO1327.out).2.2 | (with_reducible refine Kd.C_alloc ?_ _) | (with_reducible refine Kd.C_drewN ?_ _) | (with_reducible refine Kd.C_drew ?_)))
     (case side6 => exact (Kd.V_reads' HO1327.out).2.1)
     (case side7 => repeat (first | exact (Kd.V_reads' HO1330.out).2.2 | (with_reducible refine Kd.C_alloc ?_ _) | (with_reducible refine Kd.C_drewN ?_ _) | (with_reducible refine Kd.C_drew ?_)))
     (case side8 => exact (Kd.V_reads' HO1330.out).2.1)
     rintro e w34 ⟨rfl, hb⟩
     refine ⟨_, rfl, ?_⟩
     replace HO0_1 := Aside0.mk (Kd.V_below (vu HO0_1.out) hb)
     replace HO0_2 := Aside0.mk (Kd.V_below (vu HO0_2.out) hb)
     replace HO1315 := Aside0.mk (Kd.N_below (nu HO1315.out) hb)
     replace HO1320 := Aside0.mk (Kd.V_below (vu HO1320.out) hb)
     replace HO1323 := Aside0.mk (Kd.V_below (vu HO1323.out) hb)
     replace HO1327 := Aside0.mk (Kd.V_below (vu HO1327.out) hb)
     replace HO1330 := Aside0.mk (Kd.V_below (vu HO1330.out) hb)
     replace BK1312 := Aside0.mk (blk_below (g := gb1312) (o := .cells #[.bool a0_0, .slice A0_1 l0_1.length c0_1, .slice A0_2 l0_2.length c0_2] 67 (0, 0)) (ku BK1312.out) hb)
     replace HB := Aside0.mk (below_step (bu1 HB.out GE1312.out) hb)
     (try clear hb)
     (try clear hb2)
     (try clear hk)
     (try clear hi)
     refine hK.out _ _ ⟨(blk_cell BK1312.out 0).trans rfl, (blk_cell BK1312.out 1).trans rfl, (blk_cell BK1312.out 2).trans rfl⟩ (fun hHeld => ?_)
     clear hK K
     refine norm_ (a' := ?_) ?_ ?_
     rotate_left
     ·
      show Act.put _ (some 10) _ = _
      simp only [Act.put, List.setIfInBounds_toArray, List.set_cons_zero, List.set_cons_succ, i64_w, i32_w]
      rfl
     refine pure_ (i := 5) (N := some 11) (v := ?_) (a' := ?_) #[true, true, true, true, true, true, false, false, false, false, false, false, false, false, false, false, false, false, false, false, false, false, false, false, false, false, false] rfl rfl (any_of HT_.out (by kernel_rfl)) (fun _ _ _ h => h) (Or.inl ⟨by rfl, ?_⟩) ?_ ?_
     rotate_left
     ·
      intro w'
      go_simp
      with_reducible rfl
     rotate_left
     ·
      simp only [Act.put, List.setIfInBounds_toArray, List.set_cons_zero, List.set_cons_succ, i64_w, i32_w]
      rfl
     refine take_ (i := 6) (N := some 12) (v := ?_) (a' := ?_) #[true, true, true, true, true, true, true, false, false, false, false, false, false, false, false, false, false, false, false, false, false, false, false, false, false, false, false] rfl rfl (take_ofW HT_.out HW_.out (by kernel_rfl)) (fun _ _ _ h => h) (Or.inl ⟨by rfl, ?_⟩) hHeld ?_ ?_
     rotate_left
     ·
      rintro w' ⟨s0, s1, s2⟩
      go_simp
      with_reducible rfl
     rotate_left
     ·
      simp only [Act.put, List.setIfInBounds_toArray, List.set_cons_zero, List.set_cons_succ, i64_w, i32_w]
      rfl
     refine take_ (i := 8) (N := some 14) (v := ?_) (a' := ?_) #[true, true, true, true, true, true, true, false, true, false, false, false, false, false, false, false, false, false, false, false, false, false, false, false, false, false, false] rfl rfl (take_ofW HT_.out HW_.out (by kernel_rfl)) (fun _ _ _ h => h) (Or.inl ⟨by rfl, ?_⟩) hHeld ?_ ?_
     rotate_left
     ·
      rintro w' ⟨s0, s1, s2⟩
      go_simp
      with_reducible rfl
     rotate_left
     ·
      simp only [Act.put, List.setIfInBounds_toArray, List.set_cons_zero, List.set_cons_succ, i64_w, i32_w]
      rfl
     refine one_ (i := 7) (N := some 13) #[true, true, true, true, true, true, true, true, true, false, false, false, false, false, false, false, false, false, false, false, false, false, false, false, false, false, false] rfl rfl (one_of HT_.out (by kernel_rfl)) (by decide) (fun K hK => ?_)
     refine goes_ Try.func89 (by kernel_rfl) rfl #[.agg #[.bool a0_0, .slice A0_1 l0_1.length c0_1, .slice A0_2 l0_2.length c0_2]] (by rfl) rfl rfl lu ?_
     with_reducible refine (rational_Is.calls k a0_0 _ _ l0_1 _ _ l0_2 t1332 _ ?side1 ?side2 ?side3 ?side4 A13.out).mono ?_
     (case side1 => repeat (first | exact (Kd.V_reads' HO0_1.out).2.2 | (with_reducible refine Kd.C_alloc ?_ _) | (with_reducible refine Kd.C_drewN ?_ _) | (with_reducible refine Kd.C_drew ?_)))
     (case side2 => exact (Kd.V_reads' HO0_1.out).2.1)
     (case side3 => repeat (first | exact (Kd.V_reads' HO0_2.out).2.2 | (with_reducible refine Kd.C_alloc ?_ _) | (with_reducible refine Kd.C_drewN ?_ _) | (with_reducible refine Kd.C_drew ?_)))
     (case side4 => exact (Kd.V_reads' HO0_2.out).2.1)
     rintro e w35 ⟨rfl, hb⟩
     refine ⟨_, rfl, ?_⟩
     replace HO0_1 := Aside0.mk (Kd.V_below (vu HO0_1.out) hb)
     replace HO0_2 := Aside0.mk (Kd.V_below (vu HO0_2.out) hb)
     replace HO1315 := Aside0.mk (Kd.N_below (nu HO1315.out) hb)
     replace HO1320 := Aside0.mk (Kd.V_below (vu HO1320.out) hb)
     replace HO1323 := Aside0.mk (Kd.V_below (vu HO1323.out) hb)
     replace HO1327 := Aside0.mk (Kd.V_below (vu HO1327.out) hb)
     replace HO1330 := Aside0.mk (Kd.V_below (vu HO1330.out) hb)
     replace BK1312 := Aside0.mk (blk_below (g := gb1312) (o := .cells #[.bool a0_0, .slice A0_1 l0_1.length c0_1, .slice A0_2 l0_2.length c0_2] 67 (0, 0)) (ku BK1312.out) hb)
     replace HB := Aside0.mk (below_step (bu1 HB.out GE1312.out) hb)
     (try clear hb)
     (try clear hb2)
     (try clear hk)
     (try clear hi)
     refine hK.out _ _ ⟨(blk_cell BK1312.out 0).trans rfl, (blk_cell BK1312.out 1).trans rfl, (blk_cell BK1312.out 2).trans rfl⟩ (fun hHeld => ?_)
     clear hK K
     refine norm_ (a' := ?_) ?_ ?_
     rotate_left
     ·
      show Act.put _ (some 13) _ = _
      simp only [Act.put, List.setIfInBounds_toArray, List.set_cons_zero, List.set_cons_succ, i64_w, i32_w]
      rfl
     refine one_ (i := 9) (N := some 15) #[true, true, true, true, true, true, true, true, true, true, false, false, false, false, false, false, false, false, false, false, false, false, false, false, false, false, false] rfl rfl (one_of HT_.out (by kernel_rfl)) (by decide) (fun K hK => ?_)
     refine goes_ Try.func90 (by kernel_rfl) rfl #[.agg #[.bool a0_0, .slice A0_1 l0_1.length c0_1, .slice A0_2 l0_2.length c0_2]] (by rfl) rfl rfl lu ?_
     with_reducible refine (codewrightref02_Is.calls k a0_0 _ _ l0_1 _ _ l0_2 t1333 _ ?side1 ?side2 ?side3 ?side4 A14.out).mono ?_
     (case side1 => repeat (first | exact (Kd.V_reads' HO0_1.out).2.2 | (with_reducible refine Kd.C_alloc ?_ _) | (with_reducible refine Kd.C_drewN ?_ _) | (with_reducible refine Kd.C_drew ?_)))
     (case side2 => exact (Kd.V_reads' HO0_1.out).2.1)
     (case side3 => repeat (first | exact (Kd.V_reads' HO0_2.out).2.2 | (with_reducible refine Kd.C_alloc ?_ _) | (with_reducible refine Kd.C_drewN ?_ _) | (with_reducible refine Kd.C_drew ?_)))
     (case side4 => exact (Kd.V_reads' HO0_2.out).2.1)
     rintro e w36 ⟨rfl, hb⟩
     refine ⟨_, rfl, ?_⟩
     replace HO0_1 := Aside0.mk (Kd.V_below (vu HO0_1.out) hb)
     replace HO0_2 := Aside0.mk (Kd.V_below (vu HO0_2.out) hb)
     replace HO1315 := Aside0.mk (Kd.N_below (nu HO1315.out) hb)
     replace HO1320 := Aside0.mk (Kd.V_below (vu HO1320.out) hb)
     replace HO1323 := Aside0.mk (Kd.V_below (vu HO1323.out) hb)
     replace HO1327 := Aside0.mk (Kd.V_below (vu HO1327.out) hb)
     replace HO1330 := Aside0.mk (Kd.V_below (vu HO1330.out) hb)
     replace BK1312 := Aside0.mk (blk_below (g := gb1312) (o := .cells #[.bool a0_0, .slice A0_1 l0_1.length c0_1, .slice A0_2 l0_2.length c0_2] 67 (0, 0)) (ku BK1312.out) hb)
     replace HB := Aside0.mk (below_step (bu1 HB.out GE1312.out) hb)
     (try clear hb)
     (try clear hb2)
     (try clear hk)
     (try clear hi)
     refine hK.out _ _ ⟨(blk_cell BK1312.out 0).trans rfl, (blk_cell BK1312.out 1).trans rfl, (blk_cell BK1312.out 2).trans rfl⟩ (fun hHeld => ?_)
     clear hK K
     refine norm_ (a' := ?_) ?_ ?_
     rotate_left
     ·
      show Act.put _ (some 15) _ = _
      simp only [Act.put, List.setIfInBounds_toArray, List.set_cons_zero, List.set_cons_succ, i64_w, i32_w]
      rfl
     refine pure_ (i := 10) (N := some 16) (v := ?_) (a' := ?_) #[true, true, true, true, true, true, true, true, true, true, true, false, false, false, false, false, false, false, false, false, false, false, false, false, false, false, false] rfl rfl (any_of HT_.out (by kernel_rfl)) (fun _ _ _ h => h) (Or.inl ⟨by rfl, ?_⟩) ?_ ?_
     rotate_left
     ·
      intro w'
      go_simp
      with_reducible rfl
     rotate_left
     ·
      simp only [Act.put, List.setIfInBounds_toArray, List.set_cons_zero, List.set_cons_succ, i64_w, i32_w]
      rfl
     refine pure_ (i := 11) (N := some 17) (v := ?_) (a' := ?_) #[true, true, true, true, true, true, true, true, true, true, true, true, false, false, false, false, false, false, false, false, false, false, false, false, false, false, false] rfl rfl (any_of HT_.out (by kernel_rfl)) (fun _ _ _ h => h) (Or.inl ⟨by rfl, ?_⟩) ?_ ?_
     rotate_left
     ·
      intro w'
      go_simp
      with_reducible rfl
     rotate_left
     ·
      simp only [Act.put, List.setIfInBounds_toArray, List.set_cons_zero, List.set_cons_succ, i64_w, i32_w]
      rfl
     refine pure_ (i := 12) (N := some 18) (v := ?_) (a' := ?_) #[true, true, true, true, true, true, true, true, true, true, true, true, true, false, false, false, false, false, false, false, false, false, false, false, false, false, false] rfl rfl (any_of HT_.out (by kernel_rfl)) (fun _ _ _ h => h) (Or.inl ⟨by rfl, ?_⟩) ?_ ?_
     rotate_left
     ·
      intro w'
      go_simp
      with_reducible rfl
     rotate_left
     ·
      simp only [Act.put, List.setIfInBounds_toArray, List.set_cons_zero, List.set_cons_succ, i64_w, i32_w]
      rfl
     refine take_ (i := 13) (N := some 19) (v := ?_) (a' := ?_) #[true, true, true, true, true, true, true, true, true, true, true, true, true, true, false, false, false, false, false, false, false, false, false, false, false, false, false] rfl rfl (take_ofW HT_.out HW_.out (by kernel_rfl)) (fun _ _ _ h => h) (Or.inl ⟨by rfl, ?_⟩) hHeld ?_ ?_
     rotate_left
     ·
      rintro w' ⟨s0, s1, s2⟩
      go_simp
      with_reducible rfl
     rotate_left
     ·
      simp only [Act.put, List.setIfInBounds_toArray, List.set_cons_zero, List.set_cons_succ, i64_w, i32_w]
      rfl
     refine take_ (i := 15) (N := some 21) (v := ?_) (a' := ?_) #[true, true, true, true, true, true, true, true, true, true, true, true, true, true, false, true, false, false, false, false, false, false, false, false, false, false, false] rfl rfl (take_ofW HT_.out HW_.out (by kernel_rfl)) (fun _ _ _ h => h) (Or.inl ⟨by rfl, ?_⟩) hHeld ?_ ?_
     rotate_left
     ·
      rintro w' ⟨s0, s1, s2⟩
      go_simp
      with_reducible rfl
     rotate_left
     ·
      simp only [Act.put, List.setIfInBounds_toArray, List.set_cons_zero, List.set_cons_succ, i64_w, i32_w]
      rfl
     refine one_ (i := 14) (N := some 20) #[true, true, true, true, true, true, true, true, true, true, true, true, true, true, true, true, false, false, false, false, false, false, false, false, false, false, false] rfl rfl (one_of HT_.out (by kernel_rfl)) (by decide) (fun K hK => ?_)
     refine goes_ Try.func91 (by kernel_rfl) rfl #[.agg #[.bool a0_0, .slice A0_1 l0_1.length c0_1, .slice A0_2 l0_2.length c0_2]] (by rfl) rfl rfl lu ?_
     with_reducible refine (rational_Sign.calls k a0_0 _ _ l0_1 _ _ l0_2 t1334 _ ?side1 ?side2 ?side3 ?side4 A16.out).mono ?_
     (case side1 => repeat (first | exact (Kd.V_reads' HO0_1.out).2.2 | (with_reducible refine Kd.C_alloc ?_ _) | (with_reducible refine Kd.C_drewN ?_ _) | (with_reducible refine Kd.C_drew ?_)))
     (case side2 => exact (Kd.V_reads' HO0_1.out).2.1)
     (case side3 => repeat (first | exact (Kd.V_reads' HO0_2.out).2.2 | (with_reducible refine Kd.C_alloc ?_ _) | (with_reducible refine Kd.C_drewN ?_ _) | (with_reducible refine Kd.C_drew ?_)))
     (case side4 => exact (Kd.V_reads' HO0_2.out).2.1)
     rintro e w37 ⟨rfl, hb⟩
     refine ⟨_, rfl, ?_⟩
     replace HO0_1 := Aside0.mk (Kd.V_below (vu HO0_1.out) hb)
     replace HO0_2 := Aside0.mk (Kd.V_below (vu HO0_2.out) hb)
     replace HO1315 := Aside0.mk (Kd.N_below (nu HO1315.out) hb)
     replace HO1320 := Aside0.mk (Kd.V_below (vu HO1320.out) hb)
     replace HO1323 := Aside0.mk (Kd.V_below (vu HO1323.out) hb)
     replace HO1327 := Aside0.mk (Kd.V_below (vu HO1327.out) hb)
     replace HO1330 := Aside0.mk (Kd.V_below (vu HO1330.out) hb)
     replace BK1312 := Aside0.mk (blk_below (g := gb1312) (o := .cells #[.bool a0_0, .slice A0_1 l0_1.length c0_1, .slice A0_2 l0_2.length c0_2] 67 (0, 0)) (ku BK1312.out) hb)
     replace HB := Aside0.mk (below_step (bu1 HB.out GE1312.out) hb)
     (try clear hb)
     (try clear hb2)
     (try clear hk)
     (try clear hi)
     refine hK.out _ _ ⟨(blk_cell BK1312.out 0).trans rfl, (blk_cell BK1312.out 1).trans rfl, (blk_cell BK1312.out 2).trans rfl⟩ (fun hHeld => ?_)
     clear hK K
     refine norm_ (a' := ?_) ?_ ?_
     rotate_left
     ·
      show Act.put _ (some 20) _ = _
      simp only [Act.put, List.setIfInBounds_toArray, List.set_cons_zero, List.set_cons_succ, i64_w, i32_w]
      rfl
     refine one_ (i := 16) (N := some 22) #[true, true, true, true, true, true, true, true, true, true, true, true, true, true, true, true, true, false, false, false, false, false, false, false, false, false, false] rfl rfl (one_of HT_.out (by kernel_rfl)) (by decide) (fun K hK => ?_)
     refine goes_ Try.func81 (by kernel_rfl) rfl #[.agg #[.bool a0_0, .slice A0_1 l0_1.length c0_1, .slice A0_2 l0_2.length c0_2]] (by rfl) rfl rfl lu ?_
     with_reducible refine (codewrightref02_Sign.calls k a0_0 _ _ l0_1 _ _ l0_2 t1335 _ ?side1 ?side2 ?side3 ?side4 A17.out).mono ?_
     (case side1 => repeat (first | exact (Kd.V_reads' HO0_1.out).2.2 | (with_reducible refine Kd.C_alloc ?_ _) | (with_reducible refine Kd.C_drewN ?_ _) | (with_reducible refine Kd.C_drew ?_)))
     (case side2 => exact (Kd.V_reads' HO0_1.out).2.1)
     (case side3 => repeat (first | exact (Kd.V_reads' HO0_2.out).2.2 | (with_reducible refine Kd.C_alloc ?_ _) | (with_reducible refine Kd.C_drewN ?_ _) | (with_reducible refine Kd.C_drew ?_)))
     (case side4 => exact (Kd.V_reads' HO0_2.out).2.1)
     rintro e w38 ⟨rfl, hb⟩
     refine ⟨_, rfl, ?_⟩
     replace HO0_1 := Aside0.mk (Kd.V_below (vu HO0_1.out) hb)
     replace HO0_2 := Aside0.mk (Kd.V_below (vu HO0_2.out) hb)
     replace HO1315 := Aside0.mk (Kd.N_below (nu HO1315.out) hb)
     replace HO1320 := Aside0.mk (Kd.V_below (vu HO1320.out) hb)
     replace HO1323 := Aside0.mk (Kd.V_below (vu HO1323.out) hb)
     replace HO1327 := Aside0.mk (Kd.V_below (vu HO1327.out) hb)
     replace HO1330 := Aside0.mk (Kd.V_below (vu HO1330.out) hb)
     replace BK1312 := Aside0.mk (blk_below (g := gb1312) (o := .cells #[.bool a0_0, .slice A0_1 l0_1.length c0_1, .slice A0_2 l0_2.length c0_2] 67 (0, 0)) (ku BK1312.out) hb)
     replace HB := Aside0.mk (below_step (bu1 HB.out GE1312.out) hb)
     (try clear hb)
     (try clear hb2)
     (try clear hk)
     (try clear hi)
     refine hK.out _ _ ⟨(blk_cell BK1312.out 0).trans rfl, (blk_cell BK1312.out 1).trans rfl, (blk_cell BK1312.out 2).trans rfl⟩ (fun hHeld => ?_)
     clear hK K
     refine norm_ (a' := ?_) ?_ ?_
     rotate_left
     ·
      show Act.put _ (some 22) _ = _
      simp only [Act.put, List.setIfInBounds_toArray, List.set_cons_zero, List.set_cons_succ, i64_w, i32_w]
      rfl
     refine pure_ (i := 17) (N := some 23) (v := ?_) (a' := ?_) #[true, true, true, true, true, true, true, true, true, true, true, true, true, true, true, true, true, true, false, false, false, false, false, false, false, false, false] rfl rfl (any_of HT_.out (by kernel_rfl)) (fun _ _ _ h => h) (Or.inl ⟨by rfl, ?_⟩) ?_ ?_
     rotate_left
     ·
      intro w'
      go_simp
      with_reducible rfl
     rotate_left
     ·
      simp only [Act.put, List.setIfInBounds_toArray, List.set_cons_zero, List.set_cons_succ, i64_w, i32_w]
      rfl
     refine pure_ (i := 18) (N := some 24) (v := ?_) (a' := ?_) #[true, true, true, true, true, true, true, true, true, true, true, true, true, true, true, true, true, true, true, false, false, false, false, false, false, false, false] rfl rfl (any_of HT_.out (by kernel_rfl)) (fun _ _ _ h => h) (Or.inl ⟨by rfl, ?_⟩) ?_ ?_
     rotate_left
     ·
      intro w'
      go_simp
      with_reducible rfl
     rotate_left
     ·
      simp only [Act.put, List.setIfInBounds_toArray, List.set_cons_zero, List.set_cons_succ, i64_w, i32_w]
      rfl
     refine pure_ (i := 19) (N := some 25) (v := ?_) (a' := ?_) #[true, true, true, true, true, true, true, true, true, true, true, true, true, true, true, true, true, true, true, true, false, false, false, false, false, false, false] rfl rfl (any_of HT_.out (by kernel_rfl)) (fun _ _ _ h => h) (Or.inl ⟨by rfl, ?_⟩) ?_ ?_
     rotate_left
     ·
      intro w'
      go_simp
      with_reducible rfl
     rotate_left
     ·
      simp only [Act.put, List.setIfInBounds_toArray, List.set_cons_zero, List.set_cons_succ, i64_w, i32_w]
      rfl
     refine take_ (i := 20) (N := some 26) (v := ?_) (a' := ?_) #[true, true, true, true, true, true, true, true, true, true, true, true, true, true, true, true, true, true, true, true, true, false, false, false, false, false, false] rfl rfl (take_ofW HT_.out HW_.out (by kernel_rfl)) (fun _ _ _ h => h) (Or.inl ⟨by rfl, ?_⟩) hHeld ?_ ?_
     rotate_left
     ·
      rintro w' ⟨s0, s1, s2⟩
      go_simp
      with_reducible rfl
     rotate_left
     ·
      simp only [Act.put, List.setIfInBounds_toArray, List.set_cons_zero, List.set_cons_succ, i64_w, i32_w]
      rfl
     refine take_ (i := 22) (N := some 28) (v := ?_) (a' := ?_) #[true, true, true, true, true, true, true, true, true, true, true, true, true, true, true, true, true, true, true, true, true, false, true, false, false, false, false] rfl rfl (take_ofW HT_.out HW_.out (by kernel_rfl)) (fun _ _ _ h => h) (Or.inl ⟨by rfl, ?_⟩) hHeld ?_ ?_
     rotate_left
     ·
      rintro w' ⟨s0, s1, s2⟩
      go_simp
      with_reducible rfl
     rotate_left
     ·
      simp only [Act.put, List.setIfInBounds_toArray, List.set_cons_zero, List.set_cons_succ, i64_w, i32_w]
      rfl
     refine one_ (i := 21) (N := some 27) #[true, true, true, true, true, true, true, true, true, true, true, true, true, true, true, true, true, true, true, true, true, true, true, false, false, false, false] rfl rfl (one_of HT_.out (by kernel_rfl)) (by decide) (fun K hK => ?_)
     refine goes_ Try.func92 (by kernel_rfl) rfl #[.agg #[.bool a0_0, .slice A0_1 l0_1.length c0_1, .slice A0_2 l0_2.length c0_2]] (by rfl) rfl rfl lu ?_
     with_reducible refine (rational_Neg.calls k a0_0 (fun k_ => ((((P0_1_ k_ ∨ P0_2_ k_) ∨ w.heap.size ≤ k_) ∧ k_ ≠ gb1312) ∧ some k_ ≠ (.slice Ao26 y1313.length co26 : Value).ownBlock)) _ _ l0_1 (fun k_ => ((((P0_1_ k_ ∨ P0_2_ k_) ∨ w.heap.size ≤ k_) ∧ k_ ≠ gb1312) ∧ some k_ ≠ (.slice Ao26 y1313.length co26 : Value).ownBlock)) _ _ l0_2 t1336 t1337 t1340 _ ?side1 ?side2 A19.out).mono ?_
     (case side1 => first | exact HO0_1.out | exact Kd.V_mono HO0_1.out (fun _ hk => ⟨⟨hk.1, hk.2.2⟩, hk.2.1⟩))
     (case side2 => first | exact HO0_2.out | exact Kd.V_mono HO0_2.out (fun _ hk => ⟨⟨hk.1, hk.2.2⟩, hk.2.1⟩))
     rintro e w39 ⟨v1338, v1341, rfl, ho0, ho1, hb⟩
     refine ⟨_, rfl, ?_⟩
     replace HO0_1 := Aside0.mk (Kd.V_below (vu HO0_1.out) hb)
     replace HO0_2 := Aside0.mk (Kd.V_below (vu HO0_2.out) hb)
     replace HO1320 := Aside0.mk (Kd.V_below (vu HO1320.out) hb)
     replace HO1323 := Aside0.mk (Kd.V_below (vu HO1323.out) hb)
     replace HO1327 := Aside0.mk (Kd.V_below (vu HO1327.out) hb)
     replace HO1330 := Aside0.mk (Kd.V_below (vu HO1330.out) hb)
     have HO1339 := Aside0.mk (Kd.V_lower (Kd.V_mono (ok' := fun k_ => ((P0_1_ k_ ∨ P0_2_ k_) ∨ w.heap.size ≤ k_) ∧ some k_ ≠ (.slice Ao26 y1313.length co26 : Value).ownBlock ∧ k_ ≠ gb1312) ho0 (fun k_ hk_ => ⟨Or.elim hk_ (fun hs_ => Or.elim hs_ (fun hs_ => hs_.1.1) (fun hs_ => hs_.1.1)) (fun hn_ => (.inr (Nat.le_trans (below_size (bu1 HB.out GE1312.out)) hn_))), Or.elim hk_ (fun hs_ => Or.elim hs_ (fun hs_ => hs_.2) (fun hs_ => hs_.2)) (fun hn_ => (Kd.fresh' (Kd.N_lt (nu HO1315.out)) k_ hn_)), Or.elim hk_ (fun hs_ => Or.elim hs_ (fun hs_ => hs_.1.2) (fun hs_ => hs_.1.2)) (fun hn_ => (Kd.freshB (g := gb1312) (o := .cells #[.bool a0_0, .slice A0_1 l0_1.length c0_1, .slice A0_2 l0_2.length c0_2] 67 (0, 0)) (ku BK1312.out) k_ hn_))⟩)) (below_size (bu1 HB.out GE1312.out)))
     have HO1342 := Aside0.mk (Kd.V_lower (Kd.V_mono (ok' := fun k_ => ((P0_1_ k_ ∨ P0_2_ k_) ∨ w.heap.size ≤ k_) ∧ some k_ ≠ (.slice Ao26 y1313.length co26 : Value).ownBlock ∧ k_ ≠ gb1312) ho1 (fun k_ hk_ => ⟨Or.elim hk_ (fun hs_ => Or.elim hs_ (fun hs_ => hs_.1.1) (fun hs_ => hs_.1.1)) (fun hn_ => (.inr (Nat.le_trans (below_size (bu1 HB.out GE1312.out)) hn_))), Or.elim hk_ (fun hs_ => Or.elim hs_ (fun hs_ => hs_.2) (fun hs_ => hs_.2)) (fun hn_ => (Kd.fresh' (Kd.N_lt (nu HO1315.out)) k_ hn_)), Or.elim hk_ (fun hs_ => Or.elim hs_ (fun hs_ => hs_.1.2) (fun hs_ => hs_.1.2)) (fun hn_ => (Kd.freshB (g := gb1312) (o := .cells #[.bool a0_0, .slice A0_1 l0_1.length c0_1, .slice A0_2 l0_2.length c0_2] 67 (0, 0)) (ku BK1312.out) k_ hn_))⟩)) (below_size (bu1 HB.out GE1312.out)))
     replace HO1315 := Aside0.mk (Kd.N_below (nu HO1315.out) hb)
     replace BK1312 := Aside0.mk (blk_below (g := gb1312) (o := .cells #[.bool a0_0, .slice A0_1 l0_1.length c0_1, .slice A0_2 l0_2.length c0_2] 67 (0, 0)) (ku BK1312.out) hb)
     replace HB := Aside0.mk (below_step (bu1 HB.out GE1312.out) hb)
     (try clear hb)
     (try clear hb2)
     (try clear hk)
     (try clear hi)
     (try clear ho0)
     (try clear ho1)
     refine hK.out _ _ ⟨(blk_cell BK1312.out 0).trans rfl, (blk_cell BK1312.out 1).trans rfl, (blk_cell BK1312.out 2).trans rfl⟩ (fun hHeld => ?_)
     clear hK K
     refine norm_ (a' := ?_) ?_ ?_
     rotate_left
     ·
      show Act.put _ (some 27) _ = _
      simp only [Act.put, List.setIfInBounds_toArray, List.set_cons_zero, List.set_cons_succ, i64_w, i32_w]
      rfl
     refine one_ (i := 23) (N := some 29) #[true, true, true, true, true, true, true, true, true, true, true, true, true, true, true, true, true, true, true, true, true, true, true, true, false, false, false] rfl rfl (one_of HT_.out (by kernel_rfl)) (by decide) (fun K hK => ?_)
     refine goes_ Try.func93 (by kernel_rfl) rfl #[.agg #[.bool a0_0, .slice A0_1 l0_1.length c0_1, .slice A0_2 l0_2.length c0_2]] (by rfl) rfl rfl lu ?_
     with_reducible refine (codewrightref02_Neg.calls k a0_0 (fun k_ => ((((P0_1_ k_ ∨ P0_2_ k_) ∨ w.heap.size ≤ k_) ∧ k_ ≠ gb1312) ∧ some k_ ≠ (.slice Ao26 y1313.length co26 : Value).ownBlock)) _ _ l0_1 (fun k_ => ((((P0_1_ k_ ∨ P0_2_ k_) ∨ w.heap.size ≤ k_) ∧ k_ ≠ gb1312) ∧ some k_ ≠ (.slice Ao26 y1313.length co26 : Value).ownBlock)) _ _ l0_2 t1343 t1344 t1347 _ ?side1 ?side2 A20.out).mono ?_
     (case side1 => first | exact HO0_1.out | exact Kd.V_mono HO0_1.out (fun _ hk => ⟨⟨hk.1, hk.2.2⟩, hk.2.1⟩))
     (case side2 => first | exact HO0_2.out | exact Kd.V_mono HO0_2.out (fun _ hk => ⟨⟨hk.1, hk.2.2⟩, hk.2.1⟩))
     rintro e w40 ⟨v1345, v1348, rfl, ho0, ho1, hb⟩
     refine ⟨_, rfl, ?_⟩
     replace HO0_1 := Aside0.mk (Kd.V_below (vu HO0_1.out) hb)
     replace HO0_2 := Aside0.mk (Kd.V_below (vu HO0_2.out) hb)
     replace HO1320 := Aside0.mk (Kd.V_below (vu HO1320.out) hb)
     replace HO1323 := Aside0.mk (Kd.V_below (vu HO1323.out) hb)
     replace HO1327 := Aside0.mk (Kd.V_below (vu HO1327.out) hb)
     replace HO1330 := Aside0.mk (Kd.V_below (vu HO1330.out) hb)
     replace HO1339 := Aside0.mk (Kd.V_below (vu HO1339.out) hb)
     replace HO1342 := Aside0.mk (Kd.V_below (vu HO1342.out) hb)
     have HO1346 := Aside0.mk (Kd.V_lower (Kd.V_mono (ok' := fun k_ => ((P0_1_ k_ ∨ P0_2_ k_) ∨ w.heap.size ≤ k_) ∧ some k_ ≠ (.slice Ao26 y1313.length co26 : Value).ownBlock ∧ k_ ≠ gb1312) ho0 (fun k_ hk_ => ⟨Or.elim hk_ (fun hs_ => Or.elim hs_ (fun hs_ => hs_.1.1) (fun hs_ => hs_.1.1)) (fun hn_ => (.inr (Nat.le_trans (below_size (bu1 HB.out GE1312.out)) hn_))), Or.elim hk_ (fun hs_ => Or.elim hs_ (fun hs_ => hs_.2) (fun hs_ => hs_.2)) (fun hn_ => (Kd.fresh' (Kd.N_lt (nu HO1315.out)) k_ hn_)), Or.elim hk_ (fun hs_ => Or.elim hs_ (fun hs_ => hs_.1.2) (fun hs_ => hs_.1.2)) (fun hn_ => (Kd.freshB (g := gb1312) (o := .cells #[.bool a0_0, .slice A0_1 l0_1.length c0_1, .slice A0_2 l0_2.length c0_2] 67 (0, 0)) (ku BK1312.out) k_ hn_))⟩)) (below_size (bu1 HB.out GE1312.out)))
     have HO1349 := Aside0.mk (Kd.V_lower (Kd.V_mono (ok' := fun k_ => ((P0_1_ k_ ∨ P0_2_ k_) ∨ w.heap.size ≤ k_) ∧ some k_ ≠ (.slice Ao26 y1313.length co26 : Value).ownBlock ∧ k_ ≠ gb1312) ho1 (fun k_ hk_ => ⟨Or.elim hk_ (fun hs_ => Or.elim hs_ (fun hs_ => hs_.1.1) (fun hs_ => hs_.1.1)) (fun hn_ => (.inr (Nat.le_trans (below_size (bu1 HB.out GE1312.out)) hn_))), Or.elim hk_ (fun hs_ => Or.elim hs_ (fun hs_ => hs_.2) (fun hs_ => hs_.2)) (fun hn_ => (Kd.fresh' (Kd.N_lt (nu HO1315.out)) k_ hn_)), Or.elim hk_ (fun hs_ => Or.elim hs_ (fun hs_ => hs_.1.2) (fun hs_ => hs_.1.2)) (fun hn_ => (Kd.freshB (g := gb1312) (o := .cells #[.bool a0_0, .slice A0_1 l0_1.length c0_1, .slice A0_2 l0_2.length c0_2] 67 (0, 0)) (ku BK1312.out) k_ hn_))⟩)) (below_size (bu1 HB.out GE1312.out)))
     replace HO1315 := Aside0.mk (Kd.N_below (nu HO1315.out) hb)
     replace BK1312 := Aside0.mk (blk_below (g := gb1312) (o := .cells #[.bool a0_0, .slice A0_1 l0_1.length c0_1, .slice A0_2 l0_2.length c0_2] 67 (0, 0)) (ku BK1312.out) hb)
     replace HB := Aside0.mk (below_step (bu1 HB.out GE1312.out) hb)
     (try clear hb)
     (try clear hb2)
     (try clear hk)
     (try clear hi)
     (try clear ho0)
     (try clear ho1)
     obtain ⟨Ao41, co41, eo41⟩ := Kd.V_slice HO1339.out
     (first | subst eo41 | (injection eo41 with f1_ f2_ f3_; have f4_ := f1_.symm; have f5_ := f3_.symm; clear f1_ f2_ f3_; subst f4_; subst f5_))
     obtain ⟨Ao42, co42, eo42⟩ := Kd.V_slice HO1342.out
     (first | subst eo42 | (injection eo42 with f1_ f2_ f3_; have f4_ := f1_.symm; have f5_ := f3_.symm; clear f1_ f2_ f3_; subst f4_; subst f5_))
     obtain ⟨Ao43, co43, eo43⟩ := Kd.V_slice HO1346.out
     (first | subst eo43 | (injection eo43 with f1_ f2_ f3_; have f4_ := f1_.symm; have f5_ := f3_.symm; clear f1_ f2_ f3_; subst f4_; subst f5_))
     obtain ⟨Ao44, co44, eo44⟩ := Kd.V_slice HO1349.out
     (first | subst eo44 | (injection eo44 with f1_ f2_ f3_; have f4_ := f1_.symm; have f5_ := f3_.symm; clear f1_ f2_ f3_; subst f4_; subst f5_))
     refine hK.out _ _ ⟨(blk_cell BK1312.out 0).trans rfl, (blk_cell BK1312.out 1).trans rfl, (blk_cell BK1312.out 2).trans rfl⟩ (fun hHeld => ?_)
     clear hK K
     refine norm_ (a' := ?_) ?_ ?_
     rotate_left
     ·
      show Act.put _ (some 29) _ = _
      simp only [Act.put, List.setIfInBounds_toArray, List.set_cons_zero, List.set_cons_succ, i64_w, i32_w]
      rfl
     refine one_ (i := 24) (N := some 30) #[true, true, true, true, true, true, true, true, true, true, true, true, true, true, true, true, true, true, true, true, true, true, true, true, true, false, false] rfl rfl (one_of HT_.out (by kernel_rfl)) (by decide) (fun K hK => ?_)
     refine goes_ Try.func83 (by kernel_rfl) rfl #[.agg #[.bool t1336, .slice Ao41 t1337.length co41, .slice Ao42 t1340.length co42], .agg #[.bool t1343, .slice Ao43 t1344.length co43, .slice Ao44 t1347.length co44]] (by rfl) rfl rfl lu ?_
     with_reducible refine (codewrightlaw02_same.calls k t1336 _ _ t1337 _ _ t1340 t1343 _ _ t1344 _ _ t1347 t1350 _ ?side1 ?side2 ?side3 ?side4 ?side5 ?side6 ?side7 ?side8 A21.out).mono ?_
     (case side1 => repeat (first | exact (Kd.V_reads' HO1339.out).2.2 | (with_reducible refine Kd.C_alloc ?_ _) | (with_reducible refine Kd.C_drewN ?_ _) | (with_reducible refine Kd.C_drew ?_)))
     (case side2 => exact (Kd.V_reads' HO1339.out).2.1)
     (case side3 => repeat (first | exact (Kd.V_reads' HO1342.out).2.2 | (with_reducible refine Kd.C_alloc ?_ _) | (with_reducible refine Kd.C_drewN ?_ _) | (with_reducible refine Kd.C_drew ?_)))
     (case side4 => exact (Kd.V_reads' HO1342.out).2.1)
     (case side5 => repeat (first | exact (Kd.V_reads' HO1346.out).2.2 | (with_reducible refine Kd.C_alloc ?_ _) | (with_reducible refine Kd.C_drewN ?_ _) | (with_reducible refine Kd.C_drew ?_)))
     (case side6 => exact (Kd.V_reads' HO1346.out).2.1)
     (case side7 => repeat (first | exact (Kd.V_reads' HO1349.out).2.2 | (with_reducible refine Kd.C_alloc ?_ _) | (with_reducible refine Kd.C_drewN ?_ _) | (with_reducible refine Kd.C_drew ?_)))
     (case side8 => exact (Kd.V_reads' HO1349.out).2.1)
     rintro e w45 ⟨rfl, hb⟩
     refine ⟨_, rfl, ?_⟩
     replace HO0_1 := Aside0.mk (Kd.V_below (vu HO0_1.out) hb)
     replace HO0_2 := Aside0.mk (Kd.V_below (vu HO0_2.out) hb)
     replace HO1315 := Aside0.mk (Kd.N_below (nu HO1315.out) hb)
     replace HO1320 := Aside0.mk (Kd.V_below (vu HO1320.out) hb)
     replace HO1323 := Aside0.mk (Kd.V_below (vu HO1323.out) hb)
     replace HO1327 := Aside0.mk (Kd.V_below (vu HO1327.out) hb)
     replace HO1330 := Aside0.mk (Kd.V_below (vu HO1330.out) hb)
     replace HO1339 := Aside0.mk (Kd.V_below (vu HO1339.out) hb)
     replace HO1342 := Aside0.mk (Kd.V_below (vu HO1342.out) hb)
     replace HO1346 := Aside0.mk (Kd.V_below (vu HO1346.out) hb)
     replace HO1349 := Aside0.mk (Kd.V_below (vu HO1349.out) hb)
     replace BK1312 := Aside0.mk (blk_below (g := gb1312) (o := .cells #[.bool a0_0, .slice A0_1 l0_1.length c0_1, .slice A0_2 l0_2.length c0_2] 67 (0, 0)) (ku BK1312.out) hb)
     replace HB := Aside0.mk (below_step (bu1 HB.out GE1312.out) hb)
     (try clear hb)
     (try clear hb2)
     (try clear hk)
     (try clear hi)
     refine hK.out _ _ ⟨(blk_cell BK1312.out 0).trans rfl, (blk_cell BK1312.out 1).trans rfl, (blk_cell BK1312.out 2).trans rfl⟩ (fun hHeld => ?_)
     clear hK K
     refine norm_ (a' := ?_) ?_ ?_
     rotate_left
     ·
      show Act.put _ (some 30) _ = _
      simp only [Act.put, List.setIfInBounds_toArray, List.set_cons_zero, List.set_cons_succ, i64_w, i32_w]
      rfl
     refine pure_ (i := 25) (N := some 31) (v := ?_) (a' := ?_) #[true, true, true, true, true, true, true, true, true, true, true, true, true, true, true, true, true, true, true, true, true, true, true, true, true, true, false] rfl rfl (any_of HT_.out (by kernel_rfl)) (fun _ _ _ h => h) (Or.inl ⟨by rfl, ?_⟩) ?_ ?_
     rotate_left
     ·
      intro w'
      go_simp
      with_reducible rfl
     rotate_left
     ·
      simp only [Act.put, List.setIfInBounds_toArray, List.set_cons_zero, List.set_cons_succ, i64_w, i32_w]
      rfl
     refine pure_ (i := 26) (N := some 2) (v := ?_) (a' := ?_) #[true, true, true, true, true, true, true, true, true, true, true, true, true, true, true, true, true, true, true, true, true, true, true, true, true, true, true] rfl rfl (any_of HT_.out (by kernel_rfl)) (fun _ _ _ h => h) (Or.inl ⟨by rfl, ?_⟩) ?_ ?_
     rotate_left
     ·
      intro w'
      go_simp
      with_reducible rfl
     rotate_left
     ·
      simp only [Act.put, List.setIfInBounds_toArray, List.set_cons_zero, List.set_cons_succ, i64_w, i32_w]
      rfl
     refine done_ (done_of HT_.out (by kernel_rfl)) ?_
     try go_wp2
     go_ret
     exact ⟨by first | rfl | (simp [errW_none, errW_some] <;> rfl) | (simp [*, errW_none, errW_some] <;> rfl), by repeat (first | (with_reducible first | exact HB.out | apply below_alloc | apply pw_below_drewN | apply below_drew1 | refine below_set ?_ GE1312.out) | exact HB.out)⟩
    ·
     rw [if_neg c18] at H
     exact absurd H (by simp)
   ·
    rw [if_neg c15] at H
    exact absurd H (by simp)
  ·
   replace c12 := Bool.eq_false_iff.mpr c12
   subst c12
   have H1 : (none) = some r := by rw [if_neg (show ¬ (false = true) by decide)] at H; exact H
   clear H
   have H := H1
   clear H1
   exact absurd H (by simp)
end Go.Proofs.Ytecfdemglbfnoaa.PT
end
section
namespace Go.Proofs.Ytecfdemglbfnoaa.Num
open Go.RowKit Go.Proofs.Ytecfdemglbfnoaa.PT Go.Proofs.YtecfdemglbfnoaaW.PrintWords
/-- The canonical data of a fraction. -/
def rep (q : Rat) : Bool × List Int × List Int := (decide (q.num < 0), lb q.num.natAbs, lb q.den)
/-- A number with a sign. -/
def sg (neg : Bool) (n : Nat) : Int := if neg then -(n : Int) else (n : Int)
/-- The value of any data: 0 if the denominator is 0. -/
def rv (neg : Bool) (n d : List Int) : Rat := mkRat (sg neg (valn n)) (valn d)
/-- Numerator and denominator have at most m limbs. -/
def Sz (m : Nat) (q : Rat) : Prop := q.num.natAbs < pw m ∧ q.den < pw m
theorem sg_abs (neg : Bool) (n : Nat) : (sg neg n).natAbs = n := by cases neg <;> simp [sg]
theorem sg_self (z : Int) : sg (decide (z < 0)) z.natAbs = z := by
  by_cases h : z < 0
  · rw [decide_eq_true h]; simp only [sg, if_true]; omega
  · rw [decide_eq_false h]; simp only [sg, Bool.false_eq_true, if_false]; omega
theorem sg_zero (neg : Bool) : sg neg 0 = 0 := by cases neg <;> rfl
theorem sg_ne {neg : Bool} {n : Nat} (h : n ≠ 0) : sg neg n ≠ 0 := by cases neg <;> simp [sg, h]
theorem sg_not (neg : Bool) (n : Nat) : sg (!neg) n = - sg neg n := by cases neg <;> simp [sg]
theorem sg_div (neg : Bool) {m g : Nat} (h : g ∣ m) : sg neg m / (g : Int) = sg neg (m / g) := by
  cases neg
  · simp [sg]
  · simp only [sg, if_true]
    rw [Int.neg_ediv_of_dvd (Int.ofNat_dvd.mpr h)]; rfl
theorem rv_zero_num (neg : Bool) {n d : List Int} (h : valn n = 0) : rv neg n d = 0 := by rw [rv, h, sg_zero]; exact Rat.zero_mkRat _
theorem rv_zero_den (neg : Bool) {n d : List Int} (h : valn d = 0) : rv neg n d = 0 := by rw [rv, h]; exact Rat.mkRat_zero _
theorem rv_rep (q : Rat) : rv (rep q).1 (rep q).2.1 (rep q).2.2 = q := by
  simp only [rep, rv, valn_lb, sg_self]; exact Rat.mkRat_self q
theorem rep_zero : rep 0 = (false, [], [1]) := by
  simp only [rep, Rat.zero_num, Rat.zero_den]
  rw [show lb (0 : Int).natAbs = [] from lb_zero, show lb 1 = [1] from by rw [lb_pos (by decide), show (1 : Nat) / 4294967296 = 0 from rfl, lb_zero]; rfl]
  rfl
theorem rep_inj {p q : Rat} (h : rep p = rep q) : p = q := by rw [← rv_rep p, ← rv_rep q, h]
theorem rep_mkRat (neg : Bool) {n d : Nat} (hn : n ≠ 0) (hd : d ≠ 0) : rep (mkRat (sg neg n) d) = (neg, lb (n / n.gcd d), lb (d / n.gcd d)) := by
  have hg : d.gcd n = n.gcd d := Nat.gcd_comm d n
  have hdv : n.gcd d ∣ n := Nat.gcd_dvd_left n d
  have hq : n / n.gcd d ≠ 0 := Nat.ne_of_gt (Nat.div_pos (Nat.le_of_dvd (Nat.pos_of_ne_zero hn) hdv) (Nat.gcd_pos_of_pos_left _ (Nat.pos_of_ne_zero hn)))
  have hnum : (mkRat (sg neg n) d).num = sg neg (n / n.gcd d) := by
    rw [Rat.num_mkRat, if_neg hd, sg_abs, hg, sg_div neg hdv]
  have hden : (mkRat (sg neg n) d).den = d / n.gcd d := by
    rw [Rat.den_mkRat, if_neg hd, sg_abs, hg]
  have hs : decide (sg neg (n / n.gcd d) < 0) = neg := by
    generalize n / n.gcd d = x at hq
    cases neg
    · exact decide_eq_false (by simp [sg])
    · exact decide_eq_true (by simp only [sg, if_true]; omega)
  simp only [rep, hnum, hden, sg_abs, hs]
theorem mkRat_sz {neg : Bool} {n d m : Nat} (hn : n < pw m) (hd : d < pw m) (hm : 1 ≤ m) : Sz m (mkRat (sg neg n) d) := by
  have h1 : 1 < pw m := Nat.lt_of_lt_of_le (by rw [pw_succ, pw_zero]; decide) (pw_mono hm)
  refine ⟨?_, ?_⟩
  · rw [Rat.num_mkRat]
    split
    · exact pw_pos m
    · rw [sg_abs, sg_div neg (Nat.gcd_dvd_right d n), sg_abs]; exact Nat.lt_of_le_of_lt (Nat.div_le_self _ _) hn
  · rw [Rat.den_mkRat]
    split
    · exact h1
    · exact Nat.lt_of_le_of_lt (Nat.div_le_self _ _) hd
theorem Sz_rv {neg : Bool} {n d : List Int} {m : Nat} (hn : U n) (hd : U d) (ln : n.length ≤ m) (ld : d.length ≤ m) (hm : 1 ≤ m) : Sz m (rv neg n d) :=
  mkRat_sz (Nat.lt_of_lt_of_le (valn_lt hn) (pw_mono ln)) (Nat.lt_of_lt_of_le (valn_lt hd) (pw_mono ld)) hm
theorem Sz_neg {m : Nat} {p : Rat} (hp : Sz m p) : Sz m (-p) := ⟨by rw [Rat.neg_num, Int.natAbs_neg]; exact hp.1, hp.2⟩
end Go.Proofs.Ytecfdemglbfnoaa.Num
end
section
namespace Go.Proofs.Ytecfdemglbfnoaa.Num
open Go.RowKit Go.Proofs.Ytecfdemglbfnoaa.PT Go.Proofs.YtecfdemglbfnoaaW.PrintWords Go.Proofs.YtecfdemglbfnoaaW.PrintLast Go.Proofs.YtecfdemglbfnoaaW.PrintMore
theorem Ev_pos {α : Type} {c : Prop} [Decidable c] {f g : Nat → Option α} {r : α} (h : c) (k : Ev f r) : Ev (fun n => if c then f n else g n) r := Ev.congr (fun _ => if_pos h) k
theorem Ev_neg {α : Type} {c : Prop} [Decidable c] {f g : Nat → Option α} {r : α} (h : ¬ c) (k : Ev g r) : Ev (fun n => if c then f n else g n) r := Ev.congr (fun _ => if_neg h) k
theorem two_pw (n : Nat) : pw n = 2 ^ (32 * n) := by rw [pw_eq, Nat.pow_mul]
/-- The last limb and the number of digits. -/
theorem sz_lb {v M : Nat} (hl : (lb v).length = M + 1) {t : Nat} (et : rd (lb v) (M : Int) = (t : Int)) (h0 : v ≠ 0) : sz v = 32 * M + sz t := by
  have h1 := top_val hl et
  rw [valn_lb] at h1
  have h2 := take_lt' (U_lb v) M
  have ht : t ≠ 0 := by
    intro h
    have h3 := rd_lb_last h0
    rw [hl, Nat.add_sub_cancel, et, h] at h3
    exact h3 rfl
  have e : v / 2 ^ (32 * M) = t := by
    rw [← two_pw, h1, Nat.add_mul_div_left _ _ (pw_pos M), Nat.div_eq_of_lt h2, Nat.zero_add]
  rw [sz_div (n := v) (k := 32 * M) (by rw [e]; exact ht), e]
theorem Bits_f {l : List Int} (ul : U l) (hl : l.length ≤ 100000000) : Ev (fun k => nat_Bits.f k l) ((sz (valn l) : Nat) : Int) := by
  have hs := short_f ul (by omega)
  have hL := lb_len ul
  generalize valn l = v at *
  by_cases h0 : v = 0
  · subst h0
    rw [lb_zero] at hs
    exact Ev.bind hs (Ev.now _)
  · obtain ⟨M, hM⟩ : ∃ M, (lb v).length = M + 1 := ⟨(lb v).length - 1, by
      have : (lb v).length ≠ 0 := fun h => h0 (lb_eq_nil.mp (List.length_eq_zero_iff.mp h))
      omega⟩
    obtain ⟨t, et, ht⟩ := rd_nat (U_lb v) (M : Int)
    have hz := sz_lb hM et h0
    have ht32 : sz t ≤ 32 := sz_le (b := 32) ht
    have c : ¬ (((M + 1 : Nat) : Int) = 0) ∧ (0 : Int) ≤ (M : Int) ∧ (M : Int) < ((M + 1 : Nat) : Int) ∧ M < 9223372036854775807 ∧ (32 : Int) * (M : Int) = ((32 * M : Nat) : Int) := by omega
    have ws : wrap64 (((M + 1 : Nat) : Int) - 1) = (M : Int) ∧ wrap64 ((32 * M : Nat) : Int) = ((32 * M : Nat) : Int) ∧ wrap64 (((32 * M : Nat) : Int) + ((sz t : Nat) : Int)) = ((32 * M + sz t : Nat) : Int) := ⟨dn M c.2.2.2.1, w64 (by omega) (by omega), by rw [w64 (by omega) (by omega)]; rfl⟩
    refine Ev.bind hs (Ev.congr (f := fun _ => some ((sz v : Nat) : Int)) (fun k => ?_) (Ev.now _))
    rw [hM, if_neg c.1, ws.1, if_pos c.2.1, if_pos c.2.2.1, et, Len32_f t ht, Option.bind_some, c.2.2.2.2, ws.2.1, ws.2.2, hz]
theorem mod32 (r : Nat) : r * 4294967296 % 2 ^ 32 = 0 := by rw [show (2 : Nat) ^ 32 = 4294967296 from rfl]; exact Nat.mul_mod_left ..
theorem or_rx {r x : Nat} (hr : r < 4294967296) (hx : x < 4294967296) : Go.bits .or .u64 (IntKind.u64.wrap ((r : Int) * 4294967296)) (IntKind.u64.wrap (x : Int)) = ((r * 4294967296 + x : Nat) : Int) := by
  have e : (r : Int) * 4294967296 = ((r * 4294967296 : Nat) : Int) := by simp
  rw [e, u64 (x := ((r * 4294967296 : Nat) : Int)) (by omega) (by omega), u64 (x := (x : Int)) (by omega) (by omega), or64 32 _ _ (mod32 r) (by omega) hx (by omega)]
theorem digit_l0 {a : List Int} (ua : U a) {b : Nat} (hb : 0 < b) (hb' : b < 4294967296) (hs : a.length ≤ 100000000) : ∀ (j : Nat) (out : List Int) (r : Nat), j ≤ a.length → out.length = a.length → U out → r = valn (a.drop j) % b → valn (out.drop j) = valn (a.drop j) / b →
    Ev (fun k => nat_digit.l0 k a (b : Int) out (r : Int) ((j : Int) - 1)) (lb (valn a / b), ((valn a % b : Nat) : Int)) := by
  intro j
  induction j with
  | zero =>
    intro out r _ hout uo hr hv
    rw [List.drop_zero] at hr hv
    rw [List.drop_zero] at hv
    have hsh := short_f uo (by omega)
    rw [hv] at hsh
    refine Ev_succ ?_
    refine Ev.congr (fun k => ?_) (Ev.bind (f := fun _ x => some (x, ((valn a % b : Nat) : Int))) hsh (Ev.now _))
    simp only [nat_digit.l0]
    have hrb : r < b := by rw [hr]; exact Nat.mod_lt _ hb
    have e : (r : Int) % 4294967296 = (r : Int) := by omega
    rw [if_neg (by omega), e, hr]
  | succ j ih =>
    intro out r hj hout uo hr hv
    obtain ⟨x, ex, hx⟩ := rd_nat ua (j : Int)
    have hrb : r < b := by rw [hr]; exact Nat.mod_lt _ hb
    have hd := valn_drop_rd a j
    rw [ex, Int.toNat_natCast] at hd
    have key : valn (a.drop j) = (r * 4294967296 + x) + b * (4294967296 * (valn (a.drop (j + 1)) / b)) := by
      have h1 := Nat.div_add_mod (valn (a.drop (j + 1))) b
      rw [← hr] at h1
      have h2 : b * (4294967296 * (valn (a.drop (j + 1)) / b)) = 4294967296 * (b * (valn (a.drop (j + 1)) / b)) := by ac_rfl
      rw [hd, h2]
      generalize b * (valn (a.drop (j + 1)) / b) = y at *
      omega
    have hrx : r * 4294967296 + x < b * 4294967296 := by
      have : (r + 1) * 4294967296 ≤ b * 4294967296 := Nat.mul_le_mul_right _ hrb
      omega
    have hq : (r * 4294967296 + x) / b < 4294967296 := (Nat.div_lt_iff_lt_mul hb).mpr (by rw [Nat.mul_comm 4294967296 b]; exact hrx)
    have k1 : valn (a.drop j) % b = (r * 4294967296 + x) % b := by rw [key, Nat.add_mul_mod_self_left]
    have k2 : valn (a.drop j) / b = (r * 4294967296 + x) / b + 4294967296 * (valn (a.drop (j + 1)) / b) := by rw [key, Nat.add_mul_div_left _ _ hb]
    obtain ⟨D, hD⟩ : ∃ D, (r * 4294967296 + x) / b = D := ⟨_, rfl⟩
    rw [hD] at hq k2
    have step := ih (out.set j (D : Int)) ((r * 4294967296 + x) % b) (by omega) (by rw [List.length_set]; exact hout) (U_set uo ⟨Int.natCast_nonneg _, by omega⟩ _) k1.symm (by
      rw [valn_drop_rd, rd_set_eq _ _ _ (by omega), Int.toNat_natCast, List.drop_set_of_lt (by omega), hv, k2])
    have rx64 : r * 4294967296 + x < 18446744073709551616 := by omega
    have et : Go.bits .or .u64 (IntKind.u64.wrap ((r : Int) * 4294967296)) (IntKind.u64.wrap (rd a (j : Int))) = ((r * 4294967296 + x : Nat) : Int) := by rw [ex]; exact or_rx (Nat.lt_trans hrb hb') hx
    have eb : IntKind.u64.wrap (b : Int) = (b : Int) := u64 (by omega) (by omega)
    have eD : IntKind.u64.wrap ((D : Nat) : Int) % 4294967296 = (D : Int) := by rw [u64 (by omega) (by omega)]; omega
    have ej : ((j + 1 : Nat) : Int) - 1 = (j : Int) := by omega
    have c : (j : Int) ≥ 0 ∧ (0 : Int) ≤ (j : Int) ∧ (j : Int) < (a.length : Int) ∧ ¬ ((b : Int) = 0) ∧ (j : Int) < (out.length : Int) := by omega
    have wj : wrap64 ((j : Int) - 1) = (j : Int) - 1 := w64 (by omega) (by omega)
    refine Ev_succ (Ev.congr (fun k => ?_) step)
    rw [nat_digit.l0, ej, if_pos c.1, if_pos c.2.1, if_pos c.2.2.1, eb, if_neg c.2.2.2.1, if_pos c.2.2.2.2, et, tdiv_cast, tmod_cast, hD, eD, wj, Int.toNat_natCast]
theorem digit_f {a : List Int} (ua : U a) {b : Nat} (hb : 0 < b) (hb' : b < 4294967296) (hs : a.length ≤ 100000000) : Ev (fun k => nat_digit.f k a (b : Int)) (lb (valn a / b), ((valn a % b : Nat) : Int)) := by
  have h := digit_l0 ua hb hb' hs a.length (List.replicate a.length 0) 0 (Nat.le_refl _) (by simp) (U_replicate _) (by rw [List.drop_eq_nil_of_le (Nat.le_refl _), valn_nil, Nat.zero_mod]) (by
    rw [show (List.replicate a.length (0 : Int)).drop a.length = [] from List.drop_eq_nil_of_le (by rw [List.length_replicate]; exact Nat.le_refl _), List.drop_eq_nil_of_le (Nat.le_refl _), valn_nil, Nat.zero_div])
  refine Ev.congr (fun k => ?_) h
  have c : (0 : Int) ≤ (a.length : Int) ∧ a.length ≤ 70368744177664 := by omega
  have wj : wrap64 ((a.length : Int) - 1) = (a.length : Int) - 1 := w64 (by omega) (by omega)
  unfold nat_digit.f
  rw [if_pos c.1, Int.toNat_natCast, if_pos c.2, wj]; rfl
theorem DivMod_f {a b : List Int} (ua : U a) (ub : U b) (la : a.length ≤ 1000000) (lb' : b.length ≤ 1000000) (h0 : valn b ≠ 0) :
    Ev (fun k => nat_DivMod.f k a b) (lb (valn a / valn b), lb (valn a % valn b), 0) := by
  have hsa := short_f ua (by omega)
  have hsb := short_f ub (by omega)
  have ha := lb_len ua
  have hb := lb_len ub
  generalize valn a = m at *
  generalize valn b = n at *
  have hn : (lb n).length ≠ 0 := fun h => h0 (lb_eq_nil.mp (List.length_eq_zero_iff.mp h))
  have hc := Cmp_f (U_lb m) (U_lb n) (by omega) (by omega)
  rw [valn_lb, valn_lb] at hc
  refine Ev.bind hsa (Ev.bind hsb ?_)
  have c0 : ¬ (((lb n).length : Int) = 0) := by omega
  by_cases hlt : m < n
  · have h1 : cmpn m n = -1 := by unfold cmpn; rw [if_pos hlt]
    rw [h1] at hc
    have ht := Trim_f (U_lb m) (by omega)
    rw [valn_lb] at ht
    refine Ev_neg c0 (Ev.bind hc (Ev_pos (by decide) (Ev.bind ht ?_)))
    rw [Nat.div_eq_of_lt hlt, Nat.mod_eq_of_lt hlt, lb_zero]; exact Ev.now _
  · have h1 : ¬ cmpn m n < 0 := by unfold cmpn; rw [if_neg hlt]; split <;> omega
    refine Ev_neg c0 (Ev.bind hc (Ev_neg h1 ?_))
    by_cases h2 : (lb n).length = 1
    · obtain ⟨t, et, ht⟩ := rd_nat (U_lb n) ((0 : Nat) : Int)
      have en : n = t := by
        have h3 := top_val (M := 0) h2 et
        rw [valn_lb, List.take_zero, valn_nil, pw_zero] at h3; omega
      have hd := digit_f (U_lb m) (b := t) (by omega) ht (by omega)
      rw [valn_lb, ← en] at hd
      have c2 : ((lb n).length : Int) = 1 ∧ (0 : Int) < ((lb n).length : Int) := by omega
      have et' : rd (lb n) 0 = (n : Int) := by rw [en]; rw [en] at et; exact et
      have hr : m % n < n := Nat.mod_lt _ (Nat.pos_of_ne_zero h0)
      have eo : IntKind.u64.wrap ((m % n : Nat) : Int) = ((m % n : Nat) : Int) := u64 (Int.natCast_nonneg _) (by omega)
      have ho := Of_f (m % n) (by omega)
      refine Ev_pos c2.1 (Ev_pos c2.2 ?_)
      rw [et']
      refine Ev.bind hd ?_
      rw [eo]
      exact Ev.bind ho (Ev.now _)
    · have c2 : ¬ ((lb n).length : Int) = 1 := by omega
      have hle : (lb n).length ≤ (lb m).length := by
        by_cases c : (lb n).length ≤ (lb m).length
        · exact c
        · exact absurd (len_lt_of_lt (by omega)) hlt
      have hl : nat_long.f (lb m) (lb n) = some (padn ((lb m).length + 1 - (lb n).length) (m / n), padn (lb n).length (m % n)) := by
        unfold nat_long.f
        rw [if_pos ⟨by omega, hle, by rw [← rd_getLastD]; exact rd_lb_last h0, U_lb m, U_lb n, by omega⟩, valn_lb, valn_lb]
      have hm := lt_pow_len m
      have hnl := lt_pow_len n
      have hq : m / n < pw ((lb m).length + 1 - (lb n).length) := by
        have h3 := pow_len_le h0
        have h4 : (lb m).length = ((lb n).length - 1) + ((lb m).length + 1 - (lb n).length) := by omega
        rw [h4, pw_add] at hm
        refine (Nat.div_lt_iff_lt_mul (Nat.pos_of_ne_zero h0)).mpr (Nat.lt_of_lt_of_le hm ?_)
        rw [Nat.mul_comm]; exact Nat.mul_le_mul_left _ h3
      have hr : m % n < pw (lb n).length := Nat.lt_trans (Nat.mod_lt _ (Nat.pos_of_ne_zero h0)) hnl
      have t1 := Trim_f (U_padn ((lb m).length + 1 - (lb n).length) (m / n)) (by rw [padn_len]; omega)
      have t2 := Trim_f (U_padn (lb n).length (m % n)) (by rw [padn_len]; omega)
      rw [valn_padn_lt hq] at t1
      rw [valn_padn_lt hr] at t2
      refine Ev_neg c2 ?_
      rw [hl]
      exact Ev.bind (Ev.now _) (Ev.bind t1 (Ev.bind t2 (Ev.now _)))
theorem Gcd_l0 : ∀ (n m : Nat), (lb m).length ≤ 1000000 → (lb n).length ≤ 1000000 → Ev (fun k => nat_Gcd.l0 k (lb m) (lb n)) (lb (Nat.gcd m n)) := by
  intro n
  induction n using Nat.strongRecOn with
  | _ n ih =>
    intro m hm hn
    refine Ev_succ ?_
    simp only [nat_Gcd.l0]
    by_cases h0 : n = 0
    · subst h0
      have ht := Trim_f (U_lb m) (by omega)
      rw [valn_lb] at ht
      have c : ¬ (((lb 0).length : Int) > 0) := by rw [lb_zero]; decide
      rw [Nat.gcd_zero_right]
      exact Ev_neg c (Ev.bind ht (Ev.now _))
    · have hl : (lb n).length ≠ 0 := fun h => h0 (lb_eq_nil.mp (List.length_eq_zero_iff.mp h))
      have c : ((lb n).length : Int) > 0 := by omega
      have hd := DivMod_f (U_lb m) (U_lb n) hm hn (by rw [valn_lb]; exact h0)
      rw [valn_lb, valn_lb] at hd
      have hr : m % n < n := Nat.mod_lt _ (Nat.pos_of_ne_zero h0)
      have hlr : (lb (m % n)).length ≤ 1000000 := Nat.le_trans (lb_len_le (Nat.lt_trans hr (lt_pow_len n))) hn
      refine Ev_pos c (Ev.bind hd ?_)
      rw [Nat.gcd_comm, Nat.gcd_rec, Nat.gcd_comm]
      exact ih (m % n) hr n hn hlr
theorem Gcd_f {a b : List Int} (ua : U a) (ub : U b) (la : a.length ≤ 1000000) (lb' : b.length ≤ 1000000) : Ev (fun k => nat_Gcd.f k a b) (lb (Nat.gcd (valn a) (valn b))) :=
  Ev.bind (short_f ua (by omega)) (Ev.bind (short_f ub (by omega)) (Gcd_l0 _ _ (Nat.le_trans (lb_len ua) la) (Nat.le_trans (lb_len ub) lb')))
end Go.Proofs.Ytecfdemglbfnoaa.Num
end
section
namespace Go.Proofs.Ytecfdemglbfnoaa.Num
open Go.RowKit Go.Proofs.Ytecfdemglbfnoaa.PT Go.Proofs.YtecfdemglbfnoaaW.PrintWords Go.Proofs.YtecfdemglbfnoaaW.PrintLast Go.Proofs.YtecfdemglbfnoaaW.PrintMore
theorem Ev_as {α : Type} {g : Nat → Option α} {a b : α} (h : Ev g a) (e : a = b) : Ev g b := e ▸ h
theorem lb_len_zero {n : Nat} : (lb n).length = 0 ↔ n = 0 := by rw [List.length_eq_zero_iff, lb_eq_nil]
theorem rZero_f {l : List Int} (ul : U l) (hl : l.length < 35184372088832) : Ev (fun k => codewrightref01_Zero.f k l) (decide (valn l = 0)) := by
  refine Ev.bind (rTrim_f ul hl) (Ev_as (Ev.now _) ?_)
  by_cases h : valn l = 0
  · rw [h, lb_zero]; rfl
  · rw [decide_eq_false h]
    have := mt lb_len_zero.mp h
    exact beq_eq_false_iff_ne.mpr (by omega)
theorem snoc_val (z : List Int) (d : Int) : valn (z ++ [d]) = valn z + pw z.length * d.toNat := by
  rw [valn_append, valn_cons, valn_nil]; simp
theorem U_snoc {z : List Int} (uz : U z) {d : Int} (h : 0 ≤ d ∧ d < 4294967296) : U (z ++ [d]) := U_append uz (U_cons h U_nil)
theorem sub_num {x y c : Nat} (hx : x < 4294967296) (hy : y < 4294967296) (hc : c ≤ 1) :
    ∃ d h : Nat, d < 4294967296 ∧ h ≤ 1 ∧ x + 4294967296 * h = d + y + c ∧
      Int.tmod (IntKind.u64.wrap (IntKind.u64.wrap (IntKind.u64.wrap ((x : Int) + 4294967296) - (y : Int)) - (c : Int))) 4294967296 % 4294967296 = (d : Int) ∧
      IntKind.u64.wrap (1 - IntKind.u64.wrap (Int.tdiv (IntKind.u64.wrap (IntKind.u64.wrap (IntKind.u64.wrap ((x : Int) + 4294967296) - (y : Int)) - (c : Int))) 4294967296)) = (h : Int) := by
  have e1 : (x : Int) + 4294967296 = ((x + 4294967296 : Nat) : Int) := by omega
  have e2 : ((x + 4294967296 : Nat) : Int) - (y : Int) = ((x + 4294967296 - y : Nat) : Int) := by omega
  have e3 : ((x + 4294967296 - y : Nat) : Int) - (c : Int) = ((x + 4294967296 - y - c : Nat) : Int) := by omega
  have w1 : IntKind.u64.wrap ((x + 4294967296 : Nat) : Int) = ((x + 4294967296 : Nat) : Int) ∧ IntKind.u64.wrap ((x + 4294967296 - y : Nat) : Int) = ((x + 4294967296 - y : Nat) : Int) ∧ IntKind.u64.wrap ((x + 4294967296 - y - c : Nat) : Int) = ((x + 4294967296 - y - c : Nat) : Int) :=
    ⟨u64 (by omega) (by omega), u64 (by omega) (by omega), u64 (by omega) (by omega)⟩
  rw [e1, w1.1, e2, w1.2.1, e3, w1.2.2, tmod_nat, tdiv_nat]
  obtain ⟨s, hs⟩ : ∃ s, x + 4294967296 - y - c = s := ⟨_, rfl⟩
  rw [hs]
  clear w1 e1 e2 e3
  have b1 : s / 4294967296 ≤ 1 := by omega
  have w2 : IntKind.u64.wrap ((s / 4294967296 : Nat) : Int) = ((s / 4294967296 : Nat) : Int) ∧ IntKind.u64.wrap ((1 - s / 4294967296 : Nat) : Int) = ((1 - s / 4294967296 : Nat) : Int) := ⟨u64 (by omega) (by omega), u64 (by omega) (by omega)⟩
  have e4 : (1 : Int) - ((s / 4294967296 : Nat) : Int) = ((1 - s / 4294967296 : Nat) : Int) := by omega
  refine ⟨s % 4294967296, 1 - s / 4294967296, by omega, by omega, by omega, by omega, ?_⟩
  rw [w2.1, e4, w2.2]
theorem rSub_l0 {a b : List Int} (ua : U a) (ub : U b) (hs : a.length ≤ 100000000) (hle : valn b ≤ valn a) (n : Nat) : ∀ (i : Nat) (z : List Int) (c : Nat), i + n = a.length → z.length = i → U z → c ≤ 1 →
    valn (a.take i) + pw i * c = valn z + valn (b.take i) → Ev (fun k => codewrightref01_Sub.l0 k a b z (c : Int) (i : Int)) (lb (valn a - valn b)) := by
  induction n with
  | zero =>
    intro i z c hi hz uz hc hv
    obtain rfl : i = a.length := by omega
    have hzl := valn_lt uz
    rw [hz] at hzl
    have va := valn_lt ua
    rw [List.take_of_length_le (Nat.le_refl _)] at hv
    have hb : valn (b.take a.length) = valn b := by
      have h1 := valn_splitD b a.length
      rcases Nat.eq_zero_or_pos (valn (b.drop a.length)) with h | h
      · rw [h] at h1; omega
      · exfalso
        have := Nat.mul_le_mul_left (pw a.length) h
        omega
    rw [hb] at hv
    have key : valn z = valn a - valn b := by
      rcases Nat.eq_zero_or_pos c with h | h
      · subst h; omega
      · obtain rfl : c = 1 := by omega
        omega
    have ht := rTrim_f uz (by omega)
    rw [key] at ht
    have c1 : ¬ ((a.length : Int) < (a.length : Int)) := by omega
    refine Ev_succ ?_
    simp only [codewrightref01_Sub.l0]
    exact Ev_neg c1 (Ev.bind ht (Ev.now _))
  | succ n ih =>
    intro i z c hi hz uz hc hv
    obtain ⟨x, ex, hx⟩ := rd_nat ua (i : Int)
    obtain ⟨y, ey, hy⟩ := rd_nat ub (i : Int)
    obtain ⟨d, h, hd, hh, heq, e1, e2⟩ := sub_num hx hy hc
    have step := ih (i + 1) (z ++ [(d : Int)]) h (by omega) (by simp [hz]) (U_snoc uz (by omega)) hh (by
      rw [snoc_val, hz, valn_take_succ, valn_take_succ, ex, ey, Int.toNat_natCast, Int.toNat_natCast, Int.toNat_natCast, pw_succ]
      have h3 : pw i * (x + 4294967296 * h) = pw i * (d + y + c) := by rw [heq]
      rw [Nat.mul_add, Nat.mul_add, Nat.mul_add, ← Nat.mul_assoc] at h3
      omega)
    have c1 : (i : Int) < (a.length : Int) ∧ z.length < 35184372088832 := by omega
    have wi : wrap64 ((i : Int) + 1) = ((i + 1 : Nat) : Int) := up i (by omega)
    refine Ev_succ ?_
    simp only [codewrightref01_Sub.l0, limb_f ua, limb_f ub, Option.bind_some]
    refine Ev_pos c1.1 (Ev_pos c1.2 ?_)
    rw [ex, ey, e1, e2, wi]; exact step
theorem rSub_f {a b : List Int} (ua : U a) (ub : U b) (hs : a.length ≤ 100000000) (hle : valn b ≤ valn a) : Ev (fun k => codewrightref01_Sub.f k a b) (lb (valn a - valn b)) :=
  rSub_l0 ua ub hs hle a.length 0 [] 0 (by omega) rfl U_nil (by omega) (by rw [List.take_zero, List.take_zero, Nat.mul_zero, valn_nil])
theorem sz_half {x : Nat} (h : x ≠ 0) : sz x = sz (x / 2) + 1 := by
  by_cases h1 : x / 2 = 0
  · obtain rfl : x = 1 := by omega
    rfl
  · rw [sz_div (n := x) (k := 1) h1]; exact Nat.add_comm _ _
theorem rBits_l0 (n : Nat) : ∀ (x s : Nat), x < 2 ^ n → n ≤ 32 → s + n ≤ 200000000000 → Ev (fun k => codewrightref01_Bits.l0 k (s : Int) (x : Int)) ((s + sz x : Nat) : Int) := by
  induction n with
  | zero =>
    intro x s hx _ _
    obtain rfl : x = 0 := by omega
    refine Ev_succ ?_
    simp only [codewrightref01_Bits.l0]
    exact Ev_neg (by omega) (Ev.now _)
  | succ n ih =>
    intro x s hx hn hs
    by_cases h0 : x = 0
    · subst h0
      refine Ev_succ ?_
      simp only [codewrightref01_Bits.l0]
      exact Ev_neg (by omega) (Ev.now _)
    · have hp : 2 ^ (n + 1) = 2 ^ n * 2 := Nat.pow_succ ..
      have h32 : 2 ^ (n + 1) ≤ 2 ^ 32 := Nat.pow_le_pow_right (by decide) hn
      have hx32 : x < 4294967296 := Nat.lt_of_lt_of_le hx h32
      have hx2 : x / 2 < 2 ^ n := by
        rw [hp] at hx
        exact (Nat.div_lt_iff_lt_mul (by decide)).mpr hx
      clear hp h32 hx
      have step := ih (x / 2) (s + 1) hx2 (by omega) (by clear hx2; omega)
      clear hx2
      have e : Int.tdiv (x : Int) 2 % 4294967296 = ((x / 2 : Nat) : Int) := by
        rw [show Int.tdiv (x : Int) 2 = ((x / 2 : Nat) : Int) from rfl]; omega
      have hz := sz_half h0
      refine Ev_succ ?_
      simp only [codewrightref01_Bits.l0]
      refine Ev_pos (by omega) ?_
      rw [e, up s (by omega), hz, show s + (sz (x / 2) + 1) = s + 1 + sz (x / 2) from by omega]
      exact step
theorem rBits_f {l : List Int} (ul : U l) (hl : l.length ≤ 100000000) : Ev (fun k => codewrightref01_Bits.f k l) ((sz (valn l) : Nat) : Int) := by
  have hs := rTrim_f ul (by omega)
  have hL := lb_len ul
  generalize valn l = v at *
  by_cases h0 : v = 0
  · subst h0
    rw [lb_zero] at hs
    exact Ev.bind hs (Ev.now _)
  · obtain ⟨M, hM⟩ : ∃ M, (lb v).length = M + 1 := ⟨(lb v).length - 1, by
      have : (lb v).length ≠ 0 := fun h => h0 (lb_len_zero.mp h)
      omega⟩
    obtain ⟨t, et, ht⟩ := rd_nat (U_lb v) (M : Int)
    have hz := sz_lb hM et h0
    have c : ¬ (((M + 1 : Nat) : Int) = 0) ∧ (0 : Int) ≤ (M : Int) ∧ (M : Int) < ((M + 1 : Nat) : Int) ∧ M < 9223372036854775807 ∧ (32 : Int) * (M : Int) = ((32 * M : Nat) : Int) ∧ 32 * M + 32 ≤ 200000000000 := by omega
    have w1 : wrap64 ((32 * M : Nat) : Int) = ((32 * M : Nat) : Int) := w64 (by omega) (by omega)
    have hb := rBits_l0 32 t (32 * M) ht (by omega) c.2.2.2.2.2
    rw [← hz] at hb
    refine Ev.bind hs ?_
    rw [hM, dn M c.2.2.2.1, c.2.2.2.2.1, w1, et]
    exact Ev_neg c.1 (Ev_pos c.2.1 (Ev_pos c.2.2.1 hb))
theorem shl_num {x r c : Nat} (hx : x < 4294967296) (hr : r ≤ 31) (hc : c < 2 ^ r) :
    ∃ d h : Nat, d < 4294967296 ∧ h < 2 ^ r ∧ x * 2 ^ r + c = d + 4294967296 * h ∧
      Int.tmod (IntKind.u64.wrap (shl .u64 (IntKind.u64.wrap (x : Int)) (r : Int) + (c : Int))) 4294967296 % 4294967296 = (d : Int) ∧
      IntKind.u64.wrap (Int.tdiv (IntKind.u64.wrap (shl .u64 (IntKind.u64.wrap (x : Int)) (r : Int) + (c : Int))) 4294967296) = (h : Int) := by
  have hp : 2 ^ r ≤ 2 ^ 31 := Nat.pow_le_pow_right (by decide) hr
  have hxp : x * 2 ^ r + 2 ^ r ≤ 4294967296 * 2 ^ r := by
    have : (x + 1) * 2 ^ r ≤ 4294967296 * 2 ^ r := Nat.mul_le_mul_right _ hx
    rwa [Nat.add_mul, Nat.one_mul] at this
  have e1 : IntKind.u64.wrap (x : Int) = (x : Int) := u64 (by omega) (by omega)
  rw [e1, shl64 x r hx hr]
  clear e1
  obtain ⟨y, hy⟩ : ∃ y, x * 2 ^ r = y := ⟨_, rfl⟩
  obtain ⟨q, hq⟩ : ∃ q, 2 ^ r = q := ⟨_, rfl⟩
  rw [hy, hq] at hxp
  rw [hq] at hp hc
  rw [hy, hq]
  clear hy hq
  have e2 : (y : Int) + (c : Int) = ((y + c : Nat) : Int) := by omega
  have b2 : y + c < 18446744073709551616 := by omega
  obtain ⟨s, hs⟩ : ∃ s, y + c = s := ⟨_, rfl⟩
  rw [hs] at e2 b2
  have e3 : IntKind.u64.wrap (s : Int) = (s : Int) ∧ IntKind.u64.wrap ((s / 4294967296 : Nat) : Int) = ((s / 4294967296 : Nat) : Int) := ⟨u64 (by omega) (by omega), u64 (by omega) (by omega)⟩
  rw [e2, e3.1, tmod_nat, tdiv_nat, e3.2]
  clear e3 e2
  exact ⟨s % 4294967296, s / 4294967296, by omega, by omega, by omega, by omega, rfl⟩
theorem rshift_l0 {a : List Int} (ua : U a) (hs : a.length ≤ 100000000) (m r : Nat) (hm : m ≤ 100000000) (hr : r ≤ 31) (n : Nat) : ∀ (i : Nat) (z : List Int) (c : Nat), i + n = a.length → z.length = m + i → U z → c < 2 ^ r →
    valn z + pw (m + i) * c = valn (a.take i) * (pw m * 2 ^ r) → Ev (fun k => codewrightref01_shift.l0 k a ((32 * m + r : Nat) : Int) z (c : Int) (i : Int)) (lb (valn a * (pw m * 2 ^ r))) := by
  have et : Int.tmod ((32 * m + r : Nat) : Int) 32 = (r : Int) := by
    rw [show Int.tmod ((32 * m + r : Nat) : Int) 32 = (((32 * m + r) % 32 : Nat) : Int) from rfl]; omega
  have hp : 2 ^ r ≤ 2 ^ 31 := Nat.pow_le_pow_right (by decide) hr
  induction n with
  | zero =>
    intro i z c hi hz uz hc hv
    obtain rfl : i = a.length := by omega
    rw [List.take_of_length_le (Nat.le_refl _)] at hv
    have hc4 : c < 4294967296 := by omega
    have ht := rTrim_f (U_snoc uz (d := (c : Int)) (by omega)) (by rw [List.length_append, hz]; simp only [List.length_cons, List.length_nil]; omega)
    rw [snoc_val, hz, Int.toNat_natCast, hv] at ht
    have c1 : ¬ ((a.length : Int) < (a.length : Int)) ∧ z.length < 35184372088832 ∧ (c : Int) % 4294967296 = (c : Int) := by omega
    refine Ev_succ ?_
    simp only [codewrightref01_shift.l0]
    refine Ev_neg c1.1 (Ev_pos c1.2.1 ?_)
    rw [c1.2.2]
    exact Ev.bind ht (Ev.now _)
  | succ n ih =>
    intro i z c hi hz uz hc hv
    obtain ⟨x, ex, hx⟩ := rd_nat ua (i : Int)
    obtain ⟨d, h, hd, hh, heq, e1, e2⟩ := shl_num hx hr hc
    have step := ih (i + 1) (z ++ [(d : Int)]) h (by omega) (by simp [hz]; omega) (U_snoc uz (by omega)) hh (by
      rw [snoc_val, hz, valn_take_succ, ex, Int.toNat_natCast, Int.toNat_natCast, ← Nat.add_assoc, pw_succ, Nat.add_mul, ← hv]
      have h3 : pw (m + i) * (x * 2 ^ r + c) = pw (m + i) * (d + 4294967296 * h) := by rw [heq]
      rw [Nat.mul_add, Nat.mul_add, ← Nat.mul_assoc (pw (m + i)) 4294967296] at h3
      have h4 : pw i * x * (pw m * 2 ^ r) = pw (m + i) * (x * 2 ^ r) := by rw [pw_add]; ac_rfl
      rw [h4]
      omega)
    have c1 : (i : Int) < (a.length : Int) ∧ (0 : Int) ≤ (i : Int) ∧ (0 : Int) ≤ (r : Int) ∧ z.length < 35184372088832 := by
      clear hv hh heq hp hc
      omega
    have wi : wrap64 ((i : Int) + 1) = ((i + 1 : Nat) : Int) := up i (by clear hv hh heq hp hc; omega)
    refine Ev_succ ?_
    simp only [codewrightref01_shift.l0, et]
    refine Ev_pos c1.1 (Ev_pos c1.2.1 (Ev_pos c1.2.2.1 (Ev_pos c1.2.2.2 ?_)))
    rw [ex, e1, e2, wi]; exact step
theorem rshift_f {a : List Int} (ua : U a) (hs : a.length ≤ 100000000) (n : Nat) (hn : n ≤ 3200000000) : Ev (fun k => codewrightref01_shift.f k a (n : Int)) (lb (valn a * 2 ^ n)) := by
  obtain ⟨m, r, hr, e⟩ : ∃ m r, r ≤ 31 ∧ n = 32 * m + r := ⟨n / 32, n % 32, by omega, by omega⟩
  subst e
  have h := rshift_l0 ua hs m r (by omega) hr a.length 0 (List.replicate m 0) 0 (by omega) (by simp) (U_replicate _) (Nat.two_pow_pos r) (by rw [valn_replicate, List.take_zero, valn_nil, Nat.mul_zero, Nat.zero_mul])
  rw [two_pw, ← Nat.pow_add] at h
  have ed : Int.tdiv ((32 * m + r : Nat) : Int) 32 = (m : Int) := by
    rw [show Int.tdiv ((32 * m + r : Nat) : Int) 32 = (((32 * m + r) / 32 : Nat) : Int) from rfl]; omega
  have wm : wrap64 (m : Int) = (m : Int) := w64 (by omega) (by omega)
  have c : (0 : Int) ≤ (m : Int) ∧ m ≤ 70368744177664 := by omega
  refine Ev.congr (fun k => ?_) h
  unfold codewrightref01_shift.f
  rw [ed, wm, if_pos c.1, Int.toNat_natCast, if_pos c.2]; rfl
end Go.Proofs.Ytecfdemglbfnoaa.Num
end
section
namespace Go.Proofs.Ytecfdemglbfnoaa.Num
open Go.RowKit Go.Proofs.Ytecfdemglbfnoaa.PT Go.Proofs.YtecfdemglbfnoaaW.PrintWords Go.Proofs.YtecfdemglbfnoaaW.PrintLast Go.Proofs.YtecfdemglbfnoaaW.PrintMore
theorem pow_lt_pw {n m : Nat} (h : n < 32 * m) : 2 ^ n < pw m := by rw [two_pw]; exact (Nat.pow_lt_pow_iff_right (by decide)).mpr h
theorem sz_le_pw {x m : Nat} (h : x < pw m) : sz x ≤ 32 * m := sz_le (by rw [← two_pw]; exact h)
/-- The loop of the specification's division: the divisor, shifted, is taken off from the greatest shift on. -/
theorem rDiv_l0 {b : List Int} (ub : U b) (hb0 : valn b ≠ 0) (L S : Nat) (hL : L ≤ 1000000) (lb' : b.length ≤ L) (hS : S < pw L) : ∀ (i Q R : Nat), i ≤ 32 * L → S = Q * valn b + R → R < valn b * 2 ^ i →
    Ev (fun k => codewrightref01_DivMod.l0 k b (lb Q) (lb R) ((i : Int) - 1)) (lb (S / valn b), lb (S % valn b)) := by
  have hvb := Nat.pos_of_ne_zero hb0
  intro i
  induction i with
  | zero =>
    intro Q R _ hQ hR
    rw [Nat.pow_zero, Nat.mul_one] at hR
    have hq := quo_of (u := S) (v := valn b) (q := Q) (by omega) (by omega)
    have hr : S % valn b = R := by rw [hq.2]; omega
    have hQS : Q ≤ S := by
      have : Q * 1 ≤ Q * valn b := Nat.mul_le_mul_left _ hvb
      omega
    have hlQ := lb_len_le (Nat.lt_of_le_of_lt hQS hS)
    have ht := rTrim_f (U_lb Q) (by omega)
    rw [valn_lb] at ht
    rw [hq.1, hr]
    refine Ev_succ ?_
    simp only [codewrightref01_DivMod.l0]
    exact Ev_neg (by omega) (Ev.bind ht (Ev.now _))
  | succ i ih =>
    intro Q R hi hQ hR
    have hQS : Q ≤ S := by
      have : Q * 1 ≤ Q * valn b := Nat.mul_le_mul_left _ hvb
      omega
    have hRS : R ≤ S := by omega
    have hlQ := lb_len_le (Nat.lt_of_le_of_lt hQS hS)
    have hlR := lb_len_le (Nat.lt_of_le_of_lt hRS hS)
    have hsh := rshift_f ub (by omega) i (by omega)
    have htb : valn b * 2 ^ i < pw (2 * L + 1) := by
      have h1 : 2 ^ i < pw (L + 1) := pow_lt_pw (by omega)
      have h2 := Nat.lt_of_lt_of_le (valn_lt ub) (pw_mono lb')
      rw [show 2 * L + 1 = L + (L + 1) from by omega, pw_add]
      exact Nat.mul_lt_mul'' h2 h1
    have hlt := lb_len_le htb
    have hc := rCmp_f (U_lb R) (U_lb (valn b * 2 ^ i)) (by omega) (by omega)
    have h1s := rshift_f (a := [1]) (U_cons (by decide) U_nil) (by simp) i (by omega)
    have hone : valn [1] * 2 ^ i = 2 ^ i := by rw [show valn [1] = 1 from rfl, Nat.one_mul]
    rw [hone] at h1s
    have hp2 : R < valn b * 2 ^ i * 2 := by rw [Nat.mul_assoc, ← Nat.pow_succ]; exact hR
    rw [valn_lb, valn_lb] at hc
    have ci : ((i + 1 : Nat) : Int) - 1 = (i : Int) ∧ (i : Int) ≥ 0 := by omega
    have wi : wrap64 ((i : Int) - 1) = (i : Int) - 1 := w64 (by omega) (by omega)
    obtain ⟨T, hT⟩ : ∃ T, valn b * 2 ^ i = T := ⟨_, rfl⟩
    have h1l : (lb (2 ^ i)).length ≤ L + 1 := lb_len_le (pow_lt_pw (by omega))
    refine Ev_succ ?_
    simp only [codewrightref01_DivMod.l0, ci.1]
    refine Ev_pos ci.2 (Ev.bind hsh (Ev.bind hc ?_))
    rw [wi]
    rw [hT] at hp2 ⊢
    by_cases hge : T ≤ R
    · have c1 : cmpn R T ≥ 0 := by unfold cmpn; rw [if_neg (by omega)]; split <;> omega
      have hsub := rSub_f (U_lb R) (U_lb T) (by omega) (by rw [valn_lb, valn_lb]; exact hge)
      have hadd := rAdd_f (U_lb Q) (U_lb (2 ^ i)) (by omega) (by omega)
      rw [valn_lb, valn_lb] at hsub hadd
      refine Ev_pos c1 (Ev.bind hsub (Ev.bind h1s (Ev.bind hadd ?_)))
      refine ih (Q + 2 ^ i) (R - T) (by omega) ?_ (by rw [hT]; omega)
      rw [Nat.add_mul, Nat.mul_comm (2 ^ i), hT]; omega
    · have c1 : ¬ cmpn R T ≥ 0 := by unfold cmpn; rw [if_pos (by omega)]; decide
      refine Ev_neg c1 (ih Q R (by omega) hQ (by rw [hT]; omega))
theorem rDivMod_f {a b : List Int} (ua : U a) (ub : U b) (la : a.length ≤ 1000000) (lb' : b.length ≤ 1000000) (h0 : valn b ≠ 0) :
    Ev (fun k => codewrightref01_DivMod.f k a b) (lb (valn a / valn b), lb (valn a % valn b)) := by
  have ht := rTrim_f ua (by omega)
  have ha := rBits_f ua (by omega)
  have hb := rBits_f ub (by omega)
  have hS := Nat.lt_of_lt_of_le (valn_lt ua) (pw_mono la)
  have hB := Nat.lt_of_lt_of_le (valn_lt ub) (pw_mono lb')
  have sa := sz_le_pw hS
  have sb := sz_le_pw hB
  have s1 := sz_pos h0
  refine Ev.bind ht (Ev.bind ha (Ev.bind hb ?_))
  by_cases c : sz (valn b) ≤ sz (valn a)
  · have e : ((sz (valn a) : Nat) : Int) - ((sz (valn b) : Nat) : Int) = ((sz (valn a) - sz (valn b) + 1 : Nat) : Int) - 1 := by omega
    have w : wrap64 (((sz (valn a) - sz (valn b) + 1 : Nat) : Int) - 1) = ((sz (valn a) - sz (valn b) + 1 : Nat) : Int) - 1 := w64 (by omega) (by omega)
    have hlt : valn a < valn b * 2 ^ (sz (valn a) - sz (valn b) + 1) := by
      have h1 := lt_sz (valn a)
      have h2 := (sz_spec h0).1
      have h3 : 2 ^ sz (valn a) = 2 ^ (sz (valn b) - 1) * 2 ^ (sz (valn a) - sz (valn b) + 1) := by rw [← Nat.pow_add]; congr 1; omega
      rw [h3] at h1
      exact Nat.lt_of_lt_of_le h1 (Nat.mul_le_mul_right _ h2)
    have hm := rDiv_l0 ub h0 1000000 (valn a) (by omega) lb' hS (sz (valn a) - sz (valn b) + 1) 0 (valn a) (by omega) (by omega) hlt
    rw [lb_zero] at hm
    rw [e, w]; exact hm
  · have e : wrap64 (((sz (valn a) : Nat) : Int) - ((sz (valn b) : Nat) : Int)) = ((sz (valn a) : Nat) : Int) - ((sz (valn b) : Nat) : Int) := w64 (by omega) (by omega)
    have c1 : ¬ ((sz (valn a) : Nat) : Int) - ((sz (valn b) : Nat) : Int) ≥ 0 := by omega
    have hlt : valn a < valn b := by
      by_cases h : valn a < valn b
      · exact h
      · exfalso
        have h1 := (sz_spec h0).1
        have h2 : 2 ^ sz (valn a) ≤ 2 ^ (sz (valn b) - 1) := Nat.pow_le_pow_right (by decide) (by omega)
        have h3 := lt_sz (valn a)
        omega
    have ht0 := rTrim_f U_nil (by simp)
    rw [valn_nil, lb_zero] at ht0
    rw [e, Nat.div_eq_of_lt hlt, Nat.mod_eq_of_lt hlt, lb_zero]
    refine Ev_succ ?_
    simp only [codewrightref01_DivMod.l0]
    exact Ev_neg c1 (Ev.bind ht0 (Ev.now _))
theorem rGcd_f : ∀ (n : Nat) {a b : List Int}, valn b = n → U a → U b → a.length ≤ 1000000 → b.length ≤ 1000000 → Ev (fun k => codewrightref01_Gcd.l0 k a b) (lb (Nat.gcd (valn a) (valn b))) := by
  intro n
  induction n using Nat.strongRecOn with
  | _ n ih =>
    intro a b hn ua ub la lb'
    have hz := rZero_f ub (by omega)
    refine Ev_succ ?_
    simp only [codewrightref01_Gcd.l0]
    by_cases h0 : valn b = 0
    · have ht := rTrim_f ua (by omega)
      rw [decide_eq_true h0] at hz
      rw [h0, Nat.gcd_zero_right]
      exact Ev.bind hz (Ev_pos rfl (Ev.bind ht (Ev.now _)))
    · have hd := rDivMod_f ua ub la lb' h0
      rw [decide_eq_false h0] at hz
      have hr : valn a % valn b < valn b := Nat.mod_lt _ (Nat.pos_of_ne_zero h0)
      refine Ev.bind hz (Ev_neg (by decide) (Ev.bind hd ?_))
      have := ih (valn a % valn b) (by omega) (a := b) (b := lb (valn a % valn b)) (valn_lb _) ub (U_lb _) lb' (Nat.le_trans (lb_len_le (Nat.lt_trans hr (valn_lt ub))) lb')
      rw [valn_lb] at this
      rw [Nat.gcd_comm, Nat.gcd_rec, Nat.gcd_comm]
      exact this
theorem rGcd_f' {a b : List Int} (ua : U a) (ub : U b) (la : a.length ≤ 1000000) (lb' : b.length ≤ 1000000) : Ev (fun k => codewrightref01_Gcd.f k a b) (lb (Nat.gcd (valn a) (valn b))) := rGcd_f _ rfl ua ub la lb'
end Go.Proofs.Ytecfdemglbfnoaa.Num
end
section
namespace Go.Proofs.Ytecfdemglbfnoaa.Num
open Go.RowKit Go.Proofs.Ytecfdemglbfnoaa.PT Go.Proofs.YtecfdemglbfnoaaW.PrintWords Go.Proofs.YtecfdemglbfnoaaW.PrintLast Go.Proofs.YtecfdemglbfnoaaW.PrintMore
theorem sz_eq_zero {n : Nat} : sz n = 0 ↔ n = 0 := by
  constructor
  · intro h
    by_cases c : n = 0
    · exact c
    · have := sz_pos c; omega
  · intro h; subst h; rfl
theorem rep_rv {neg : Bool} {n d : List Int} (hn : valn n ≠ 0) (hd : valn d ≠ 0) : rep (rv neg n d) = (neg, lb (valn n / Nat.gcd (valn n) (valn d)), lb (valn d / Nat.gcd (valn n) (valn d))) := rep_mkRat neg hn hd
theorem gcd_lb {n d : List Int} (un : U n) (ln : n.length ≤ 1000000) (hn : valn n ≠ 0) : (lb (Nat.gcd (valn n) (valn d))).length ≤ 1000000 ∧ Nat.gcd (valn n) (valn d) ≠ 0 :=
  ⟨Nat.le_trans (lb_len_le (Nat.lt_of_le_of_lt (Nat.le_of_dvd (Nat.pos_of_ne_zero hn) (Nat.gcd_dvd_left _ _)) (valn_lt un))) ln, Nat.ne_of_gt (Nat.gcd_pos_of_pos_left _ (Nat.pos_of_ne_zero hn))⟩
theorem canonical_j {neg : Bool} {n d : List Int} (un : U n) (ud : U d) (ln : n.length ≤ 1000000) (ld : d.length ≤ 1000000) (b : Bool) (hb : b = true ↔ valn n = 0 ∨ valn d = 0) :
    Ev (fun k => rational_canonical.j0 k neg n d b) (rep (rv neg n d)) := by
  refine Ev_succ ?_
  simp only [rational_canonical.j0]
  cases b with
  | true =>
    have h : rv neg n d = 0 := by
      rcases hb.mp rfl with h | h
      · exact rv_zero_num neg h
      · exact rv_zero_den neg h
    rw [h, rep_zero]
    exact Ev_pos rfl (Ev.bind (Ev.now _) (Ev.now _))
  | false =>
    have hn : valn n ≠ 0 := fun h => absurd (hb.mpr (.inl h)) (by decide)
    have hd : valn d ≠ 0 := fun h => absurd (hb.mpr (.inr h)) (by decide)
    obtain ⟨hg, hg0⟩ := gcd_lb un ln hn
    have h1 := Gcd_f un ud ln ld
    have h2 := DivMod_f un (U_lb (Nat.gcd (valn n) (valn d))) ln hg (by rw [valn_lb]; exact hg0)
    have h3 := DivMod_f ud (U_lb (Nat.gcd (valn n) (valn d))) ld hg (by rw [valn_lb]; exact hg0)
    rw [valn_lb] at h2 h3
    rw [rep_rv hn hd]
    exact Ev_neg (by decide) (Ev.bind h1 (Ev.bind h2 (Ev.bind h3 (Ev.now _))))
theorem canonical_f {neg : Bool} {n d : List Int} (un : U n) (ud : U d) (ln : n.length ≤ 1000000) (ld : d.length ≤ 1000000) :
    Ev (fun k => rational_canonical.f k neg n d) (rep (rv neg n d)) := by
  have b1 := Bits_f un (by omega)
  have b2 := Bits_f ud (by omega)
  refine Ev.bind b1 ?_
  by_cases h1 : valn n = 0
  · exact Ev_pos (by rw [h1]; rfl) (canonical_j un ud ln ld true ⟨fun _ => .inl h1, fun _ => rfl⟩)
  · have hz : ((sz (valn n) : Nat) : Int) ≠ 0 := fun h => h1 (sz_eq_zero.mp (Int.ofNat_eq_zero.mp h))
    refine Ev_neg hz (Ev.bind b2 (canonical_j un ud ln ld _ ?_))
    constructor
    · intro h
      exact .inr (sz_eq_zero.mp (Int.ofNat_eq_zero.mp (beq_iff_eq.mp h)))
    · intro h
      rcases h with h | h
      · exact absurd h h1
      · rw [h]; rfl
theorem Make_j {neg : Bool} {n d : List Int} (un : U n) (ud : U d) (ln : n.length ≤ 1000000) (ld : d.length ≤ 1000000) (b : Bool) (hb : b = true ↔ valn n = 0 ∨ valn d = 0) :
    Ev (fun k => codewrightref02_Make.j0 k neg n d b) (rep (rv neg n d)) := by
  refine Ev_succ ?_
  simp only [codewrightref02_Make.j0]
  cases b with
  | true =>
    have h : rv neg n d = 0 := by
      rcases hb.mp rfl with h | h
      · exact rv_zero_num neg h
      · exact rv_zero_den neg h
    rw [h, rep_zero]
    exact Ev_pos rfl (Ev.now _)
  | false =>
    have hn : valn n ≠ 0 := fun h => absurd (hb.mpr (.inl h)) (by decide)
    have hd : valn d ≠ 0 := fun h => absurd (hb.mpr (.inr h)) (by decide)
    obtain ⟨hg, hg0⟩ := gcd_lb un ln hn
    have h1 := rGcd_f' un ud ln ld
    have h2 := rDivMod_f un (U_lb (Nat.gcd (valn n) (valn d))) ln hg (by rw [valn_lb]; exact hg0)
    have h3 := rDivMod_f ud (U_lb (Nat.gcd (valn n) (valn d))) ld hg (by rw [valn_lb]; exact hg0)
    rw [valn_lb] at h2 h3
    rw [rep_rv hn hd]
    exact Ev_neg (by decide) (Ev.bind h1 (Ev.bind h2 (Ev.bind h3 (Ev.now _))))
theorem Make_f {neg : Bool} {n d : List Int} (un : U n) (ud : U d) (ln : n.length ≤ 1000000) (ld : d.length ≤ 1000000) :
    Ev (fun k => codewrightref02_Make.f k neg n d) (rep (rv neg n d)) := by
  have b1 := rZero_f un (by omega)
  have b2 := rZero_f ud (by omega)
  refine Ev.bind b1 ?_
  by_cases h1 : valn n = 0
  · exact Ev_pos (decide_eq_true h1) (Make_j un ud ln ld true ⟨fun _ => .inl h1, fun _ => rfl⟩)
  · refine Ev_neg (by rw [decide_eq_false h1]; decide) (Ev.bind b2 (Make_j un ud ln ld _ ?_))
    rw [decide_eq_true_iff]
    exact ⟨.inr, fun h => h.elim (fun h => absurd h h1) id⟩
end Go.Proofs.Ytecfdemglbfnoaa.Num
end
section
namespace Go.Proofs.Ytecfdemglbfnoaa.PT
open Go.RowKit Go.Proofs.YtecfdemglbfnoaaW.PrintWords Go.Proofs.YtecfdemglbfnoaaW.PrintLast Go.Proofs.YtecfdemglbfnoaaW.PrintMore
attribute [local go_sem] max2_int min2_int max_two min_two max_three min_three max_four min_four   -- for this text's walks alone
set_option linter.unusedVariables false
set_option linter.unusedSimpArgs false
end Go.Proofs.Ytecfdemglbfnoaa.PT
end
section
namespace Go.Proofs.Ytecfdemglbfnoaa.PT
open Go.RowKit Go.Proofs.YtecfdemglbfnoaaW.PrintWords Go.Proofs.YtecfdemglbfnoaaW.PrintLast Go.Proofs.YtecfdemglbfnoaaW.PrintMore
attribute [local go_sem] max2_int min2_int max_two min_two max_three min_three max_four min_four   -- for this text's walks alone
set_option linter.unusedVariables false
set_option linter.unusedSimpArgs false
end Go.Proofs.Ytecfdemglbfnoaa.PT
end
section
namespace Go.Proofs.Ytecfdemglbfnoaa.PT
open Go.RowKit Go.Proofs.YtecfdemglbfnoaaW.PrintWords Go.Proofs.YtecfdemglbfnoaaW.PrintLast Go.Proofs.YtecfdemglbfnoaaW.PrintMore
attribute [local go_sem] max2_int min2_int max_two min_two max_three min_three max_four min_four   -- for this text's walks alone
set_option linter.unusedVariables false
set_option linter.unusedSimpArgs false
end Go.Proofs.Ytecfdemglbfnoaa.PT
end
section
namespace Go.Proofs.Ytecfdemglbfnoaa.PT
open Go.RowKit Go.Proofs.YtecfdemglbfnoaaW.PrintWords Go.Proofs.YtecfdemglbfnoaaW.PrintLast Go.Proofs.YtecfdemglbfnoaaW.PrintMore
attribute [local go_sem] max2_int min2_int max_two min_two max_three min_three max_four min_four   -- for this text's walks alone
set_option linter.unusedVariables false
set_option linter.unusedSimpArgs false
end Go.Proofs.Ytecfdemglbfnoaa.PT
end
section
namespace Go.Proofs.Ytecfdemglbfnoaa.PT
open Go.RowKit Go.Proofs.YtecfdemglbfnoaaW.PrintWords Go.Proofs.YtecfdemglbfnoaaW.PrintLast Go.Proofs.YtecfdemglbfnoaaW.PrintMore
attribute [local go_sem] max2_int min2_int max_two min_two max_three min_three max_four min_four   -- for this text's walks alone
set_option linter.unusedVariables false
set_option linter.unusedSimpArgs false
end Go.Proofs.Ytecfdemglbfnoaa.PT
end
section
namespace Go.Proofs.Ytecfdemglbfnoaa.PT
open Go.RowKit Go.Proofs.YtecfdemglbfnoaaW.PrintWords Go.Proofs.YtecfdemglbfnoaaW.PrintLast Go.Proofs.YtecfdemglbfnoaaW.PrintMore
attribute [local go_sem] max2_int min2_int max_two min_two max_three min_three max_four min_four   -- for this text's walks alone
set_option linter.unusedVariables false
set_option linter.unusedSimpArgs false
end Go.Proofs.Ytecfdemglbfnoaa.PT
end
section
namespace Go.Proofs.Ytecfdemglbfnoaa.PT
open Go.RowKit Go.Proofs.YtecfdemglbfnoaaW.PrintWords Go.Proofs.YtecfdemglbfnoaaW.PrintLast Go.Proofs.YtecfdemglbfnoaaW.PrintMore
attribute [local go_sem] max2_int min2_int max_two min_two max_three min_three max_four min_four   -- for this text's walks alone
set_option linter.unusedVariables false
set_option linter.unusedSimpArgs false
end Go.Proofs.Ytecfdemglbfnoaa.PT
end
section
namespace Go.Proofs.Ytecfdemglbfnoaa.Num
open Go.RowKit Go.Proofs.Ytecfdemglbfnoaa.PT Go.Proofs.YtecfdemglbfnoaaW.PrintWords Go.Proofs.YtecfdemglbfnoaaW.PrintLast Go.Proofs.YtecfdemglbfnoaaW.PrintMore
/-- The sign of a fraction as a number. -/
def sgq (q : Rat) : Int := if q.num = 0 then 0 else if q.num < 0 then -1 else 1
theorem rTrim02_f {neg : Bool} {n d : List Int} (un : U n) (ud : U d) (ln : n.length ≤ 1000000) (ld : d.length ≤ 1000000) :
    Ev (fun k => codewrightref02_Trim.f k neg n d) (rep (rv neg n d)) := Ev.bind (Make_f un ud ln ld) (Ev.now _)
theorem rSign_f {neg : Bool} {n d : List Int} (un : U n) (ud : U d) (ln : n.length ≤ 1000000) (ld : d.length ≤ 1000000) :
    Ev (fun k => codewrightref02_Sign.f k neg n d) (sgq (rv neg n d)) := by
  refine Ev.bind (rTrim02_f un ud ln ld) ?_
  generalize rv neg n d = q
  simp only [rep, sgq]
  by_cases h : q.num = 0
  · rw [if_pos h]
    have : (lb q.num.natAbs).length = 0 := lb_len_zero.mpr (by rw [h]; rfl)
    exact Ev_pos (by omega) (Ev.now _)
  · rw [if_neg h]
    have : (lb q.num.natAbs).length ≠ 0 := fun e => h (Int.natAbs_eq_zero.mp (lb_len_zero.mp e))
    refine Ev_neg (by omega) ?_
    by_cases h1 : q.num < 0
    · rw [if_pos h1]; exact Ev_pos (decide_eq_true h1) (Ev.now _)
    · rw [if_neg h1]; exact Ev_neg (by rw [decide_eq_false h1]; decide) (Ev.now _)
theorem same02_f {x y : Bool} {a b c d : List Int} (la : a.length ≤ 100000000) (lc : b.length ≤ 100000000) : Ev (fun k => codewrightlaw02_same.f k x a b y c d) (decide ((x, a, b) = (y, c, d))) := by
  have h1 := Same_f (a := a) (b := c) (by omega)
  have h2 := Same_f (a := b) (b := d) (by omega)
  refine Ev.bind (a := decide ((x, a, b) = (y, c, d))) ?_ (Ev.now _)
  by_cases c1 : x = y
  · by_cases c2 : a = c
    · refine Ev_pos (by rw [c1]; simp) (Ev.bind h1 (Ev_pos (decide_eq_true c2) (Ev.bind h2 (Ev_as (Ev.now _) ?_))))
      rw [c1, c2]; simp
    · refine Ev_pos (by rw [c1]; simp) (Ev.bind h1 (Ev_neg (by rw [decide_eq_false c2]; decide) (Ev_as (Ev.now _) ?_)))
      rw [decide_eq_false]; intro h; injection h with _ h; injection h with h _; exact c2 h
  · refine Ev_neg (by simp [c1]) (Ev_as (Ev.now _) ?_)
    rw [decide_eq_false]; intro h; injection h with h _; exact c1 h
theorem rep_len {q : Rat} {m : Nat} (h : Sz m q) : (rep q).2.1.length ≤ m ∧ (rep q).2.2.length ≤ m := ⟨lb_len_le h.1, lb_len_le h.2⟩
/-- Two fractions' data are the same. -/
theorem same_rep {p q : Rat} {m : Nat} (h : Sz m p) (hm : m ≤ 100000000) : Ev (fun k => codewrightlaw02_same.f k (rep p).1 (rep p).2.1 (rep p).2.2 (rep q).1 (rep q).2.1 (rep q).2.2) (decide (p = q)) := by
  have hl := rep_len h
  refine Ev_as (same02_f (by omega) (by omega)) ?_
  have : ((rep p).1, (rep p).2.1, (rep p).2.2) = ((rep q).1, (rep q).2.1, (rep q).2.2) ↔ p = q := ⟨fun h => rep_inj h, fun h => by rw [h]⟩
  exact decide_eq_decide.mpr this
theorem same_self {q : Rat} {m : Nat} (h : Sz m q) (hm : m ≤ 100000000) : Ev (fun k => codewrightlaw02_same.f k (rep q).1 (rep q).2.1 (rep q).2.2 (rep q).1 (rep q).2.1 (rep q).2.2) true :=
  Ev_as (same_rep h hm) (decide_eq_true rfl)
end Go.Proofs.Ytecfdemglbfnoaa.Num
end
section
namespace Go.Proofs.Ytecfdemglbfnoaa.Num
open Go.RowKit Go.Proofs.Ytecfdemglbfnoaa.PT Go.Proofs.YtecfdemglbfnoaaW.PrintWords Go.Proofs.YtecfdemglbfnoaaW.PrintLast Go.Proofs.YtecfdemglbfnoaaW.PrintMore
theorem Trim02_f {neg : Bool} {n d : List Int} (un : U n) (ud : U d) (ln : n.length ≤ 1000000) (ld : d.length ≤ 1000000) :
    Ev (fun k => rational_Trim.f k neg n d) (rep (rv neg n d)) := Ev.bind (canonical_f un ud ln ld) (Ev.now _)
theorem U_eq {a b : List Int} (ua : U a) (ub : U b) (hl : a.length = b.length) (hv : valn a = valn b) : a = b := by
  rw [← padn_valn ua, ← padn_valn ub, hl, hv]
theorem equal_f {a b : List Int} (ua : U a) (ub : U b) (la : a.length ≤ 1000000) : Ev (fun k => rational_equal.f k a b) (decide (a = b)) := by
  by_cases c : a.length = b.length
  · refine Ev_pos (by omega) (Ev.bind (Cmp_f ua ub (by omega) (by omega)) (Ev_as (Ev.now _) ?_))
    by_cases h : valn a = valn b
    · rw [decide_eq_true (U_eq ua ub c h), h, cmpn_self]; rfl
    · rw [decide_eq_false (fun e => h (by rw [e]))]
      exact beq_eq_false_iff_ne.mpr (fun e => h (cmpn_zero.mp e))
  · refine Ev_neg (by omega) (Ev_as (Ev.now _) ?_)
    rw [decide_eq_false]; intro e; rw [e] at c; exact c rfl
theorem trip_eq {x y : Bool} {a b c d : List Int} : ((x, a, b) = (y, c, d)) ↔ x = y ∧ a = c ∧ b = d := by
  constructor
  · intro h; injection h with h1 h; injection h with h2 h3; exact ⟨h1, h2, h3⟩
  · rintro ⟨rfl, rfl, rfl⟩; rfl
theorem Is_f {neg : Bool} {n d : List Int} (un : U n) (ud : U d) (ln : n.length ≤ 1000000) (ld : d.length ≤ 1000000) :
    Ev (fun k => rational_Is.f k neg n d) (decide ((neg, n, d) = ((rep (rv neg n d)).1, (rep (rv neg n d)).2.1, (rep (rv neg n d)).2.2))) := by
  have hs : Sz 1000000 (rv neg n d) := Sz_rv un ud ln ld (by omega)
  have ht := Trim02_f (neg := neg) un ud ln ld
  have hl := rep_len hs
  refine Ev.bind ht ?_
  have h1 := equal_f un (b := (rep (rv neg n d)).2.1) (U_lb _) ln
  have h2 := equal_f ud (b := (rep (rv neg n d)).2.2) (U_lb _) ld
  generalize rep (rv neg n d) = t at *
  by_cases c1 : neg = t.1
  · by_cases c2 : n = t.2.1
    · refine Ev_pos (by rw [c1]; simp) (Ev.bind h1 (Ev_pos (decide_eq_true c2) (Ev.bind h2 (Ev_as (Ev.now _) ?_))))
      exact decide_eq_decide.mpr ⟨fun h => trip_eq.mpr ⟨c1, c2, h⟩, fun h => (trip_eq.mp h).2.2⟩
    · refine Ev_pos (by rw [c1]; simp) (Ev.bind h1 (Ev_neg (by rw [decide_eq_false c2]; decide) (Ev_as (Ev.now _) ?_)))
      rw [decide_eq_false]; exact fun h => c2 (trip_eq.mp h).2.1
  · refine Ev_neg (by simp [c1]) (Ev_as (Ev.now _) ?_)
    rw [decide_eq_false]; exact fun h => c1 (trip_eq.mp h).1
theorem sameR_f {x y : Bool} {a b c d : List Int} (la : a.length ≤ 100000000) (lc : b.length ≤ 100000000) : Ev (fun k => codewrightref02_Same.f k x a b y c d) (decide ((x, a, b) = (y, c, d))) := by
  have h1 := Same_f (a := a) (b := c) (by omega)
  have h2 := Same_f (a := b) (b := d) (by omega)
  by_cases c1 : x = y
  · by_cases c2 : a = c
    · refine Ev_pos (by rw [c1]; simp) (Ev.bind h1 (Ev_pos (decide_eq_true c2) (Ev.bind h2 (Ev_as (Ev.now _) ?_))))
      exact decide_eq_decide.mpr ⟨fun h => trip_eq.mpr ⟨c1, c2, h⟩, fun h => (trip_eq.mp h).2.2⟩
    · refine Ev_pos (by rw [c1]; simp) (Ev.bind h1 (Ev_neg (by rw [decide_eq_false c2]; decide) (Ev_as (Ev.now _) ?_)))
      rw [decide_eq_false]; exact fun h => c2 (trip_eq.mp h).2.1
  · refine Ev_neg (by simp [c1]) (Ev_as (Ev.now _) ?_)
    rw [decide_eq_false]; exact fun h => c1 (trip_eq.mp h).1
theorem rIs_f {neg : Bool} {n d : List Int} (un : U n) (ud : U d) (ln : n.length ≤ 1000000) (ld : d.length ≤ 1000000) :
    Ev (fun k => codewrightref02_Is.f k neg n d) (decide ((neg, n, d) = ((rep (rv neg n d)).1, (rep (rv neg n d)).2.1, (rep (rv neg n d)).2.2))) :=
  Ev.bind (rTrim02_f un ud ln ld) (Ev.bind (sameR_f (by omega) (by omega)) (Ev.now _))
theorem sgq_rv0 {neg : Bool} {n d : List Int} (h : valn n = 0 ∨ valn d = 0) : sgq (rv neg n d) = 0 := by
  rcases h with h | h
  · rw [rv_zero_num neg h]; rfl
  · rw [rv_zero_den neg h]; rfl
theorem sgq_rep {q : Rat} (h : q ≠ 0) : sgq q = if (rep q).1 = true then -1 else 1 := by
  have h0 : q.num ≠ 0 := fun e => h (Rat.num_eq_zero.mp e)
  unfold sgq
  rw [if_neg h0]
  simp only [rep, decide_eq_true_iff]
theorem rv_ne {neg : Bool} {n d : List Int} (hn : valn n ≠ 0) (hd : valn d ≠ 0) : rv neg n d ≠ 0 := by
  unfold rv
  rw [Rat.mkRat_ne_zero hd]
  exact sg_ne hn
theorem Sign_j {neg : Bool} {n d : List Int} (b : Bool) (hb : b = true ↔ valn n = 0 ∨ valn d = 0) : Ev (fun k => rational_Sign.j0 k b neg n d) (sgq (rv neg n d)) := by
  refine Ev_succ ?_
  simp only [rational_Sign.j0]
  cases b with
  | true => rw [sgq_rv0 (hb.mp rfl)]; exact Ev_pos rfl (Ev.now _)
  | false =>
    have hn : valn n ≠ 0 := fun h => absurd (hb.mpr (.inl h)) (by decide)
    have hd : valn d ≠ 0 := fun h => absurd (hb.mpr (.inr h)) (by decide)
    rw [sgq_rep (rv_ne hn hd), rep_rv hn hd]
    refine Ev_neg (by decide) ?_
    cases neg
    · exact Ev_neg (by decide) (Ev.now _)
    · exact Ev_pos rfl (Ev.now _)
theorem Sign_f {neg : Bool} {n d : List Int} (un : U n) (ud : U d) (ln : n.length ≤ 1000000) (ld : d.length ≤ 1000000) :
    Ev (fun k => rational_Sign.f k neg n d) (sgq (rv neg n d)) := by
  have b1 := Bits_f un (by omega)
  have b2 := Bits_f ud (by omega)
  refine Ev.bind b1 ?_
  by_cases h1 : valn n = 0
  · exact Ev_pos (by rw [h1]; rfl) (Sign_j true ⟨fun _ => .inl h1, fun _ => rfl⟩)
  · have hz : ((sz (valn n) : Nat) : Int) ≠ 0 := fun h => h1 (sz_eq_zero.mp (Int.ofNat_eq_zero.mp h))
    refine Ev_neg hz (Ev.bind b2 (Sign_j _ ?_))
    constructor
    · intro h
      exact .inr (sz_eq_zero.mp (Int.ofNat_eq_zero.mp (beq_iff_eq.mp h)))
    · intro h
      rcases h with h | h
      · exact absurd h h1
      · rw [h]; rfl
theorem rv_not (neg : Bool) (n d : List Int) : rv (!neg) n d = - rv neg n d := by
  unfold rv
  rw [sg_not, Rat.neg_mkRat]
theorem Neg_f {neg : Bool} {n d : List Int} (un : U n) (ud : U d) (ln : n.length ≤ 1000000) (ld : d.length ≤ 1000000) :
    Ev (fun k => rational_Neg.f k neg n d) (rep (- rv neg n d)) := by
  rw [← rv_not]
  exact Ev.bind (canonical_f un ud ln ld) (Ev.now _)
theorem rNeg_f {neg : Bool} {n d : List Int} (un : U n) (ud : U d) (ln : n.length ≤ 1000000) (ld : d.length ≤ 1000000) :
    Ev (fun k => codewrightref02_Neg.f k neg n d) (rep (- rv neg n d)) := by
  have hs : Sz 1000000 (rv neg n d) := Sz_rv un ud ln ld (by omega)
  have hl := rep_len hs
  have hm := Make_f (neg := !(rep (rv neg n d)).1) (n := (rep (rv neg n d)).2.1) (d := (rep (rv neg n d)).2.2) (U_lb _) (U_lb _) hl.1 hl.2
  rw [rv_not, rv_rep] at hm
  exact Ev.bind (rTrim02_f un ud ln ld) (Ev.bind hm (Ev.now _))
/-- The guard: has a fraction of the list more limbs than m? -/
theorem long02_l0 (m : Nat) (l : List S67) (hl : l.length < 4611686018427387904) (hs : ∀ x ∈ l, x.f1.length < 2305843009213693952 ∧ x.f2.length < 2305843009213693952) (n : Nat) : ∀ i : Nat, i + n = l.length →
    Ev (fun k => codewrightlaw02_long.l0 k (m : Int) l (i : Int)) ((l.drop i).any fun x => decide (m < x.f1.length + x.f2.length)) := by
  induction n with
  | zero =>
    intro i hi
    rw [List.drop_eq_nil_of_le (by omega)]
    refine Ev_succ ?_
    simp only [codewrightlaw02_long.l0]
    exact Ev_neg (by omega) (Ev.now _)
  | succ n ih =>
    intro i hi
    have e : rd_T67 l (i : Int) = l[i]'(by omega) := by simp [rd_T67, show i < l.length from by omega]
    have hm : l[i]'(by omega) ∈ l := List.getElem_mem _
    have hx := hs _ hm
    have hd : l.drop i = l[i]'(by omega) :: l.drop (i + 1) := by rw [List.drop_eq_getElem_cons]
    rw [hd, List.any_cons]
    generalize l[i]'(by omega) = x at *
    have c : (i : Int) < (l.length : Int) ∧ (0 : Int) ≤ (i : Int) := by omega
    have step := ih (i + 1) (by omega)
    have wi : wrap64 ((i : Int) + 1) = ((i + 1 : Nat) : Int) := up i (by omega)
    have ws : wrap64 ((x.f1.length : Int) + (x.f2.length : Int)) = ((x.f1.length + x.f2.length : Nat) : Int) := by rw [w64 (by omega) (by omega)]; rfl
    refine Ev_succ ?_
    simp only [codewrightlaw02_long.l0]
    refine Ev_pos c.1 (Ev_pos c.2 ?_)
    rw [e, ws, wi]
    clear ws wi
    by_cases h : m < x.f1.length + x.f2.length
    · rw [decide_eq_true h]
      exact Ev_pos (by omega) (Ev.now _)
    · rw [decide_eq_false h, Bool.false_or]
      exact Ev_neg (by omega) step
theorem long02_f (m : Nat) (l : List S67) (hl : l.length < 4611686018427387904) (hs : ∀ x ∈ l, x.f1.length < 2305843009213693952 ∧ x.f2.length < 2305843009213693952) :
    Ev (fun k => codewrightlaw02_long.f k (m : Int) l) (l.any fun x => decide (m < x.f1.length + x.f2.length)) := long02_l0 m l hl hs l.length 0 (by omega)
end Go.Proofs.Ytecfdemglbfnoaa.Num
end
section
namespace Go.Proofs.Ytecfdemglbfnoaa.Num
open Go.RowKit Go.Proofs.Ytecfdemglbfnoaa.PT Go.Proofs.YtecfdemglbfnoaaW.PrintWords Go.Proofs.YtecfdemglbfnoaaW.PrintLast Go.Proofs.YtecfdemglbfnoaaW.PrintMore
theorem forms_f {neg : Bool} {n d : List Int} (un : U n) (ud : U d) (ln : n.length < 2305843009213693952) (ld : d.length < 2305843009213693952) : Ev (fun k => codewrightlaw02_RationalForms.f k neg n d) true := by
  have hg := long02_f 40 [(⟨neg, n, d⟩ : S67)] (by simp) (by intro x hx; simp only [List.mem_singleton] at hx; subst hx; exact ⟨ln, ld⟩)
  simp only [List.any_cons, List.any_nil, Bool.or_false] at hg
  refine Ev.bind hg ?_
  by_cases c : 40 < n.length + d.length
  · exact Ev_pos (decide_eq_true c) (Ev.now _)
  · have l1 : n.length ≤ 1000000 := by omega
    have l2 : d.length ≤ 1000000 := by omega
    have hs : Sz 40 (rv neg n d) := Sz_rv un ud (by omega) (by omega) (by omega)
    exact Ev_neg (by rw [decide_eq_false c]; decide) (Ev.bind (Trim02_f un ud l1 l2) (Ev.bind (rTrim02_f un ud l1 l2) (Ev.bind (same_self hs (by omega)) (Ev_pos rfl
      (Ev.bind (Is_f un ud l1 l2) (Ev.bind (rIs_f un ud l1 l2) (Ev_pos (beq_self_eq_true _) (Ev.bind (Sign_f un ud l1 l2) (Ev.bind (rSign_f un ud l1 l2) (Ev_pos rfl
      (Ev.bind (Neg_f un ud l1 l2) (Ev.bind (rNeg_f un ud l1 l2) (Ev.bind (same_self (Sz_neg hs) (by omega)) (Ev.now _))))))))))))))
end Go.Proofs.Ytecfdemglbfnoaa.Num
namespace Go.Proofs.Ytecfdemglbfnoaa.Pure
open Go.RowKit Go.Proofs.Ytecfdemglbfnoaa.PT Go.Proofs.Ytecfdemglbfnoaa.Num
theorem u32_U {l : List Int} (h : ∀ x ∈ l, IntKind.u32.min ≤ x ∧ x ≤ IntKind.u32.max) : U l := by
  intro x hx
  have h1 := h x hx
  have e1 : IntKind.u32.min = 0 := rfl
  have e2 : IntKind.u32.max = 4294967295 := rfl
  omega
theorem RationalForms (b : Bool) (l0 l1 : List Int) (h : True ∧ (l0.length * 4 ≤ reachBytes ∧ ∀ x ∈ l0, IntKind.u32.min ≤ x ∧ x ≤ IntKind.u32.max) ∧ (l1.length * 4 ≤ reachBytes ∧ ∀ x ∈ l1, IntKind.u32.min ≤ x ∧ x ≤ IntKind.u32.max)) : ∃ k, codewrightlaw02_RationalForms.f k b l0 l1 = some true := by
  have hR : reachBytes = 140737488351232 := rfl
  obtain ⟨_, h0, h1⟩ := h
  exact (forms_f (u32_U h0.2) (u32_U h1.2) (by have := h0.1; omega) (by have := h1.1; omega)).rounds
end Go.Proofs.Ytecfdemglbfnoaa.Pure
end
section
namespace Go.Proofs.Ytecfdemglbfnoaa.Open
open Go.ChangeShapes Go.WideShapes Go.Deep Go.Proofs.YtecfdemglbfnoaaW.PrintWords
section
variable {H : Type} (enc : TypeId × Value → H) (P : Program) (W : World)
/-- What reads as data of type t, within the reach, holds a value of kind d that meets Q. -/
def Op {α : Type} (d : Kd α) (Q : α → Prop) (t : TypeId) : Prop :=
  ∀ (fuel : Nat) (cs : List Value) (x : DataW H × List MemPlace), DataW.trod enc P W 0 (fun _ => true) true fuel t cs = some x → (∀ n ∈ x.1.weights P t, n ≤ reachBytes) → ∃ y, d.K W y cs ∧ Q y
end
section
variable {H : Type} {enc : TypeId × Value → H} {P : Program} {W : World}
theorem op_int {t : TypeId} {k : IntKind} (ht : P.underlying t = some (.int k)) : Op enc P W (Kd.int k) (fun n => k.min ≤ n ∧ n ≤ k.max) t := by
  intro fuel cs x h _
  obtain ⟨n, rfl, _, hw⟩ := DataW.trod_int ht h
  exact ⟨n, rfl, by simpa [Lit.wf] using hw⟩
theorem op_bool {t : TypeId} (ht : P.underlying t = some .bool) : Op enc P W Kd.bool (fun _ => True) t := by
  intro fuel cs x h _
  obtain ⟨n, rfl, _⟩ := DataW.trod_bool ht h
  exact ⟨n, rfl, trivial⟩
theorem mem_weightsAll {e : TypeId} {D : DataW H} : ∀ {l : List (DataW H)}, D ∈ l → ∀ n ∈ D.weights P e, n ∈ DataW.weightsAll P e l
  | d :: r, h, n, hn => by
    simp only [DataW.weightsAll, List.mem_append]
    rcases List.mem_cons.1 h with rfl | h
    · exact .inl hn
    · exact .inr (mem_weightsAll h n hn)
theorem op_slice {α : Type} {d : Kd α} {Q : α → Prop} {t e B : Nat} (ht : P.underlying t = some (.slice e)) (he : Op enc P W d Q e) (hc : P.cellsOf e = d.sz) (hB : P.bytesOf e = B) :
    Op enc P W (Kd.slice e d) (fun l => l.length * B ≤ reachBytes ∧ ∀ x ∈ l, Q x) t := by
  intro fuel cs x h hw
  rcases open_slice ht h with ⟨rfl, _⟩ | ⟨a, len, cap, m, n, D, Pl, rfl, _, hl, hm, hmm, rfl, hi⟩
  · exact ⟨[], ⟨none, 0, rfl, Nat.le_refl _, Kd.C_nil d W⟩, by simp, by simp⟩
  · simp only [if_true] at hmm
    subst hmm
    have hwl : ((DataW.slice ((List.range len).map D) ((List.range (m - len)).map fun j => D (len + j))).weights P t) = ((List.range len).map D).length.add ((List.range (m - len)).map fun j => D (len + j)).length * P.bytesOf e :: (DataW.weightsAll P e ((List.range len).map D) ++ DataW.weightsAll P e ((List.range (m - len)).map fun j => D (len + j))) := by
      simp only [DataW.weights, ht]; rfl
    rw [hwl] at hw
    have each : ∀ i, i < len → ∃ y : α, (∃ cs', W.cells? 0 (a.add (i * P.cellsOf e)) (P.cellsOf e) = some cs' ∧ d.K W y cs') ∧ Q y := by
      intro i hlt
      obtain ⟨cs', h1, h2⟩ := hi i (by omega)
      obtain ⟨y, hK, hq⟩ := he _ _ _ h2 (fun n hn => hw n (List.mem_cons_of_mem _ (List.mem_append.2 (.inl (mem_weightsAll (List.mem_map.2 ⟨i, List.mem_range.2 hlt, rfl⟩) n hn)))))
      exact ⟨y, ⟨cs', h1, hK⟩, hq⟩
    have hf : ∃ f : Nat → Option α, ∀ i, i < len → ∃ y, f i = some y ∧ (∃ cs', W.cells? 0 (a.add (i * P.cellsOf e)) (P.cellsOf e) = some cs' ∧ d.K W y cs') ∧ Q y := by
      refine ⟨fun i => if h : i < len then some (Classical.choose (each i h)) else none, fun i hlt => ⟨_, dif_pos hlt, Classical.choose_spec (each i hlt)⟩⟩
    obtain ⟨f, hf⟩ := hf
    have hl1 : ((List.range len).filterMap f).length = len ∧ ∀ i, i < len → ((List.range len).filterMap f)[i]? = f i := by
      clear hw hwl each hi h hl hm
      induction len with
      | zero => simp
      | succ k ih =>
        obtain ⟨h1, h2⟩ := ih (fun i hi => hf i (by omega))
        obtain ⟨y, hy, _⟩ := hf k (by omega)
        rw [List.range_succ, List.filterMap_append]
        have e : List.filterMap f [k] = [y] := by simp [List.filterMap, hy]
        rw [e]
        refine ⟨by simp [h1], fun i hi => ?_⟩
        by_cases hk : i < k
        · rw [List.getElem?_append_left (by omega), h2 i hk]
        · obtain rfl : i = k := by omega
          rw [List.getElem?_append_right (by omega), h1]; simp [hy]
    refine ⟨(List.range len).filterMap f, ⟨some a, m, by rw [hl1.1], by rw [hl1.1]; exact hl, rfl, ?_, fun hp => ⟨a, rfl, fun j p hj => ?_⟩⟩, ?_, fun y hy => ?_⟩
    · rw [hl1.1]; unfold maxLen at hm; omega
    · have hjl : j < len := by have := (List.getElem?_eq_some_iff.1 hj).1; rw [hl1.1] at this; exact this
      obtain ⟨y, hy, ⟨cs', hc1, hK⟩, _⟩ := hf j hjl
      rw [hl1.2 j hjl, hy] at hj
      obtain rfl := Option.some.inj hj
      obtain ⟨_, hcl, hat⟩ := World.cells?_some hc1
      refine ⟨cs', d.K_len hK, hK, fun i u hu => ?_⟩
      have hil : i < P.cellsOf e := by have := (List.getElem?_eq_some_iff.1 hu).1; omega
      rw [← hc, ← Go.Deep.add_add]
      rw [hat i hil, hu]
    · have := hw _ (List.mem_cons_self ..)
      rw [hl1.1]
      have h3 : ((List.range len).map D).length.add ((List.range (m - len)).map fun j => D (len + j)).length = m := by simp; omega
      rw [h3, hB] at this
      exact Nat.le_trans (Nat.mul_le_mul_right _ hl) this
    · obtain ⟨i, hi1, hi2⟩ := List.mem_filterMap.1 hy
      obtain ⟨y', hy', _, hq⟩ := hf i (List.mem_range.1 hi1)
      rw [hy'] at hi2
      obtain rfl := Option.some.inj hi2
      exact hq
theorem take_split {cs : List Value} {a b : Nat} (h : cs.length = a + b) : cs = (cs.drop 0).take a ++ (cs.drop a).take b := by
  rw [List.drop_zero, List.take_of_length_le (l := cs.drop a) (by rw [List.length_drop]; omega), List.take_append_drop]
theorem op_triple {α β γ : Type} {a : Kd α} {b : Kd β} {c : Kd γ} {Qa : α → Prop} {Qb : β → Prop} {Qc : γ → Prop} {t : TypeId} {f0 f1 f2 : Field} (ht : P.underlying t = some (.struct #[f0, f1, f2])) (h0 : Op enc P W a Qa f0.type) (h1 : Op enc P W b Qb f1.type) (h2 : Op enc P W c Qc f2.type)
    (o0 : f0.offset = 0) (s0 : P.cellsOf f0.type = a.sz) (o1 : f1.offset = a.sz) (s1 : P.cellsOf f1.type = b.sz) (o2 : f2.offset = a.sz + b.sz) (s2 : P.cellsOf f2.type = c.sz) (st : P.cellsOf t = a.sz + (b.sz + c.sz)) :
    Op enc P W (Kd.pair a (Kd.pair b c)) (fun y => Qa y.1 ∧ Qb y.2.1 ∧ Qc y.2.2) t := by
  intro fuel cs x hx hw
  obtain ⟨xs, n, _, rfl, hcl, hlen, hf⟩ := DataW.trod_struct ht hx
  have hwl : ((DataW.agg (xs.map (·.1)) : DataW H).weights P t) = DataW.weightsEach P [f0.type, f1.type, f2.type] (xs.map (·.1)) := by
    simp only [DataW.weights, ht]; rfl
  rw [hwl] at hw
  obtain ⟨y0, y1, y2, rfl⟩ : ∃ y0 y1 y2, xs = [y0, y1, y2] := by
    match xs, hlen with
    | [y0, y1, y2], _ => exact ⟨y0, y1, y2, rfl⟩
  · have e0 := hf 0 f0 rfl
    have e1 := hf 1 f1 rfl
    have e2 := hf 2 f2 rfl
    rw [o0, s0] at e0
    rw [o1, s1] at e1
    rw [o2, s2] at e2
    simp only [List.map_cons, List.map_nil, DataW.weightsEach, List.mem_append] at hw
    obtain ⟨z0, k0, q0⟩ := h0 _ _ _ e0 (fun n hn => hw n (.inl hn))
    obtain ⟨z1, k1, q1⟩ := h1 _ _ _ e1 (fun n hn => hw n (.inr (.inl hn)))
    obtain ⟨z2, k2, q2⟩ := h2 _ _ _ e2 (fun n hn => hw n (.inr (.inr (.inl hn))))
    refine ⟨(z0, z1, z2), ⟨_, _, take_split (a := a.sz) (b := b.sz + c.sz) (by rw [hcl, st]), k0, _, _, ?_, k1, k2⟩, q0, q1, q2⟩
    rw [List.take_of_length_le (l := cs.drop a.sz) (by rw [List.length_drop, hcl, st]; omega)]
    have h4 := take_split (cs := cs.drop a.sz) (a := b.sz) (b := c.sz) (by rw [List.length_drop, hcl, st]; omega)
    rw [List.drop_zero, List.drop_drop] at h4
    exact h4
end
end Go.Proofs.Ytecfdemglbfnoaa.Open
end
