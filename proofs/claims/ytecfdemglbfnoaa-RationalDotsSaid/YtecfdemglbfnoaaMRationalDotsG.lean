/- Walks and plain facts for the law RationalDots, several texts in one: each theorem says what it shows; no condition beyond those that it names. -/
import Derived.Deep.Slices
import Derived.Deep.Fields
import Derived.SizedLaws
import Derived.Test.YtecfdemglbfnoaaMRationalDotsF
section
namespace Go.Proofs.Ytecfdemglbfnoaa.PT
open Go.RowKit Go.Proofs.YtecfdemglbfnoaaW.PrintWords Go.Proofs.YtecfdemglbfnoaaW.PrintLast Go.Proofs.YtecfdemglbfnoaaW.PrintMore
attribute [local go_sem] max2_int min2_int max_two min_two max_three min_three max_four min_four
set_option linter.unusedVariables false
set_option linter.unusedSimpArgs false
set_option maxHeartbeats 8000000
set_option maxRecDepth 100000
def rational_Dot.l0 : Nat → List (S67) → List (S67) → Int → Int → Bool → List Int → List Int → Option (Bool × List Int × List Int × Int)
 | 0, _, _, _, _, _, _, _ => none
 | k + 1, x0, x1, x17, x18, x1904000, x1904001, x1904002 => if x18 < x17 then (if 0 ≤ x18 then (if x18 < (x0.length : Int) then (if x18 < (x1.length : Int) then ((rational_Mul.f k (([(⟨(rd_T67 x0 x18).f0, (rd_T67 x0 x18).f1, (rd_T67 x0 x18).f2⟩ : S67), (⟨(rd_T67 x1 x18).f0, (rd_T67 x1 x18).f1, (rd_T67 x1 x18).f2⟩ : S67)] : List (S67)))).bind fun bt1909 => ((rational_plus.f k x1904000 x1904001 x1904002 bt1909.1 bt1909.2.1 bt1909.2.2).bind fun bt1916 => (rational_Dot.l0 k x0 x1 x17 (wrap64 (x18 + 1)) bt1916.1 bt1916.2.1 bt1916.2.2))) else (none)) else (none)) else (none)) else (some (x1904000, x1904001, x1904002, 0))
def rational_Dot.f (k : Nat) (l0 : List (S67)) (l1 : List (S67)) : Option (Bool × List Int × List Int × Int) := if (l0.length : Int) = (l1.length : Int) then ((rational_one.f).bind fun t1900 => (rational_Dot.l0 k l0 l1 (l0.length : Int) 0 false ([] : List Int) t1900)) else (some (false, ([] : List Int), ([] : List Int), 3))
def rational_Dot.T7 : Bool × List (List Nat × List Nat) := (true, [([], []), ([], []), ([], []), ([1, 2], [1, 2]), ([3], [3]), ([], []), ([], []), ([5, 6], [5, 6]), ([7], [7]), ([4, 8], [4, 8]), ([9], [9]), ([0, 10, 10], [0, 10]), ([11, 11, 0, 1, 2, 3, 4, 5, 6, 7, 8, 9, 10, 11], [11])])
def rational_Dot.B7 : List Nat := [0, 0, 0, 6, 14, 0, 0, 96, 224, 510, 1022, 2047, 4095]
theorem rational_Dot.tab7 : rtab .any (opsOf Try.f102 7) = rational_Dot.T7 := by kernel_rfl
theorem rational_Dot.bits7 : waitsOk rational_Dot.T7.2 rational_Dot.B7 = true := by kernel_rfl
theorem rational_Dot.calls (k : Nat) (P0_ : Nat → Prop) (A0 : Option Addr) (c0 : Nat) (l0 : List (S67)) (P1_ : Nat → Prop) (A1 : Option Addr) (c1 : Nat) (l1 : List (S67)) (r1 : Bool) (r2 : List Int) (r3 : List Int) (r4 : Int) (w : World) (hs0 : Kd.V k67 67 w w.heap.size (fun k_ => P0_ k_) (.slice A0 l0.length c0) l0) (hs1 : Kd.V k67 67 w w.heap.size (fun k_ => P1_ k_) (.slice A1 l1.length c1) l1) (h : rational_Dot.f k l0 l1 = some (r1, r2, r3, r4)) :
 Calls Try.prog 102 #[.slice A0 l0.length c0, .slice A1 l1.length c1] w fun e w' => ∃ v1_ v2_ : Value, e = .returned (.tuple #[.agg #[.bool r1, v1_, v2_], .int .i64 r4]) ∧ Kd.V (Kd.int .u32) 48 w' w.heap.size (fun k_ => ((P0_ k_ ∨ P1_ k_) ∨ w.heap.size ≤ k_)) v1_ r2 ∧ Kd.V (Kd.int .u32) 48 w' w.heap.size (fun k_ => ((P0_ k_ ∨ P1_ k_) ∨ w.heap.size ≤ k_)) v2_ r3 ∧ Below w.heap.size w w' := by
 have cB := Try.underlying67
 have bd := am (show Kd.V k67 67 w w.heap.size (fun k_ => ((P0_ k_ ∨ P1_ k_) ∨ w.heap.size ≤ k_)) (.slice A0 l0.length c0) l0 from Kd.V_mono hs0 (fun k_ hk => .inl (.inl hk)))
 have bf := am (show Kd.V k67 67 w w.heap.size (fun k_ => ((P0_ k_ ∨ P1_ k_) ∨ w.heap.size ≤ k_)) (.slice A1 l1.length c1) l1 from Kd.V_mono hs1 (fun k_ hk => .inl (.inr hk)))
 have HB := am (Below.refl w.heap.size w)
 have H : (if (l0.length : Int) = (l1.length : Int) then ((rational_one.f).bind fun aU => (rational_Dot.l0 k l0 l1 (l0.length : Int) 0 false ([] : List Int) aU)) else (some (false, ([] : List Int), ([] : List Int), 3))) = some (r1, r2, r3, r4) := h
 clear h
 by_cases c3 : (l0.length : Int) = (l1.length : Int)
 ·
  rw [if_pos c3] at H
  have bv : ((l0.length : Int) == (l1.length : Int)) = true := beq_iff_eq.mpr c3
  have bw : ((l0.length : Int) != (l1.length : Int)) = false := bne_eq_false_iff_eq.mpr c3
  have bx : (l0.length == l1.length) = true := by first | simpa using c3 | (simp at c3 ⊢; omega)
  clear c3
  obtain ⟨aU, A4, H⟩ := bs H
  (try dsimp -simprocs only at H)
  have H' := am H
  clear H
  go_enter Try.func102, Try.ntmps102
  go_wp2_with (first | ((with_reducible refine gate_dst (N := 4) rfl ?_); refine box_event ?hg (N := 4) ?hd (cs := #[.bool false, .slice none 0 0, .slice none 0 0]) (t := 67) ?hr ?_; (case hd => rfl); (case hg => rfl); (case hr => first | (go_simp; done) | (go_simp; rfl)); intro ad hg w5 hbox hb; replace bd := ke bd hg hb; replace bf := ke bf hg hb; have ae := am (hbox); have bo := ng hg (bu HB.out); have al := ng hg (bu HB.out); replace HB := be HB hb; clear hb hbox hg) | ((with_reducible refine gate_callee (f := 161) rfl ?_); refine goesL_ (some 14) rfl rfl Try.func161 (by kernel_rfl) rfl #[] rfl lu ?_; (with_reducible refine (rational_one.calls  aU _ A4.out).mono ?_); rintro e w6 ⟨co, rfl, bb, hb⟩; refine ⟨_, rfl, ?_⟩; replace bb := R_V_base rfl bb; replace bd := kv bd hb; replace bf := kv bf hb; have aJ := ar0 w.heap.size (ok' := fun k_ => ((P0_ k_ ∨ P1_ k_) ∨ w.heap.size ≤ k_) ∧ k_ ≠ ad) bb (fa (fz1 HB al) (fb ae)); replace ae := kb ae hb; replace HB := be1 HB al hb; (try clear hb); (try clear bb); obtain ⟨cC, cD, cE⟩ := Kd.V_slice aJ.out; subst cE) | ((with_reducible refine gate_dst (N := 6) rfl ?_); refine box_event ?hg (N := 6) ?hd (cs := #[.bool false, .slice none 0 0, .slice none 0 0]) (t := 67) ?hr ?_; (case hd => rfl); (case hg => rfl); (case hr => first | (go_simp; done) | (go_simp; rfl)); intro ac hg w8 hbox hb; replace bd := ke bd hg hb; replace bf := ke bf hg hb; replace aJ := ke aJ hg hb; have ab := am (hbox); have ca := ng hg (bu1 HB.out al.out); have az := ng hg (bu1 HB.out al.out); replace HB := be1 HB al hb; have ah := nl hg ae; have ay := nr hg ae; replace ae := kb ae hb; clear hb hbox hg; have cF := ay.out; have cG := ah.out; obtain ⟨bg, bh, bi, bj, bk, bl⟩ := bz ab))
  go_loopg [18] k (fun kq cH w' => ∃ (aa : Int) (ai : Bool) (ak : List Int) (aj : List Int) (u1904001 : Value) (u1904002 : Value), cH = .int .i64 aa ∧ Aside0 (rational_Dot.l0 kq l0 l1 (l0.length : Int) aa ai ak aj = some (r1, r2, r3, r4)) ∧ Aside0 (kq ≤ k) ∧ Aside0 (Kd.V k67 67 w' w.heap.size (fun k_ => ((P0_ k_ ∨ P1_ k_) ∨ w.heap.size ≤ k_) ∧ k_ ≠ ad ∧ k_ ≠ ac) (.slice A0 l0.length c0) l0) ∧ Aside0 (Kd.V k67 67 w' w.heap.size (fun k_ => ((P0_ k_ ∨ P1_ k_) ∨ w.heap.size ≤ k_) ∧ k_ ≠ ad ∧ k_ ≠ ac) (.slice A1 l1.length c1) l1) ∧ Aside0 (Kd.V (Kd.int .u32) 48 w' w.heap.size (fun k_ => ((P0_ k_ ∨ P1_ k_) ∨ w.heap.size ≤ k_) ∧ k_ ≠ ad ∧ k_ ≠ ac) u1904001 ak) ∧ Aside0 (Kd.V (Kd.int .u32) 48 w' w.heap.size (fun k_ => ((P0_ k_ ∨ P1_ k_) ∨ w.heap.size ≤ k_) ∧ k_ ≠ ad ∧ k_ ≠ ac) u1904002 aj) ∧ Aside0 (w'.heap[ad]? = some (.cells #[.bool false, (.slice none 0 0), (.slice none 0 0)] 67 (0, 0))) ∧ Aside0 (w'.heap[ac]? = some (.cells #[.bool ai, u1904001, u1904002] 67 (0, 0))) ∧ Aside0 (Below w.heap.size w w'))
  case atStart => exact ⟨(0), (false), (([] : List Int)), (aU), (.slice none 0 0), (.slice cC aU.length cD), (by first | rfl | (simp; done) | (simp [*]; done)), H', ⟨Nat.le_refl _⟩, ⟨by exact vf bd.out⟩, ⟨by exact vf bf.out⟩, ⟨Kd.V_nil _ _ _ _ _⟩, ⟨by exact vf aJ.out⟩, ⟨by (with_reducible repeat (first | refine blk_drewN ?_ _ | refine blk_drew ?_ | refine blk_alloc ?_ _)); refine blk_far ?_ ah.out _; (with_reducible repeat (first | refine blk_drewN ?_ _ | refine blk_drew ?_ | refine blk_alloc ?_ _)); refine blk_far ?_ ah.out _; (with_reducible repeat (first | refine blk_drewN ?_ _ | refine blk_drew ?_ | refine blk_alloc ?_ _)); refine blk_far ?_ ah.out _; (with_reducible repeat (first | refine blk_drewN ?_ _ | refine blk_drew ?_ | refine blk_alloc ?_ _)); exact ae.out⟩, ⟨by (with_reducible repeat (first | refine blk_drewN ?_ _ | refine blk_drew ?_ | refine blk_alloc ?_ _)); refine blk_put (cs := #[.bool false, .slice none 0 0, .slice none 0 0]) ?_ 2 _ rfl; (with_reducible repeat (first | refine blk_drewN ?_ _ | refine blk_drew ?_ | refine blk_alloc ?_ _)); refine blk_put (cs := #[.bool false, .slice none 0 0, .slice none 0 0]) ?_ 1 _ rfl; (with_reducible repeat (first | refine blk_drewN ?_ _ | refine blk_drew ?_ | refine blk_alloc ?_ _)); refine blk_put (cs := #[.bool false, .slice none 0 0, .slice none 0 0]) ?_ 0 _ rfl; (with_reducible repeat (first | refine blk_drewN ?_ _ | refine blk_drew ?_ | refine blk_alloc ?_ _)); exact ab.out⟩, ⟨by repeat (first | (with_reducible first | exact HB.out | apply below_alloc | apply pw_below_drewN | apply below_drew1 | refine below_set ?_ al.out | refine below_set ?_ az.out) | exact HB.out)⟩⟩
  case round =>
   clear H'
   try clear c1
   try clear p2
   try clear c3
   try clear bv
   try clear bw
   try clear bx
   try clear c9
   try clear c10
   try clear bg
   try clear bh
   try clear bi
   try clear bj
   try clear bk
   try clear bl
   obtain ⟨aa, ai, ak, aj, u1904001, u1904002, rfl, HA, HK1, aA, aB, af, ag, ae, ab, HB⟩ := hrel
   cases gk with
   | zero => exact absurd HA.out (by simp [rational_Dot.l0])
   | succ k1 =>
    have H := HA.out
    clear HA
    simp only [rational_Dot.l0] at H
    by_cases br : aa < (l0.length : Int)
    ·
     rw [if_pos br] at H
     have bA : decide (aa < (l0.length : Int)) = true := decide_eq_true br
     clear br
     by_cases bP : 0 ≤ aa
     ·
      rw [if_pos bP] at H
      have cp : decide (0 ≤ aa) = true := decide_eq_true bP
      clear bP
      by_cases bQ : aa < (l0.length : Int)
      ·
       rw [if_pos bQ] at H
       have cq : decide (aa < (l0.length : Int)) = true := decide_eq_true bQ
       clear bQ
       by_cases bR : aa < (l1.length : Int)
       ·
        rw [if_pos bR] at H
        have cr : decide (aa < (l1.length : Int)) = true := decide_eq_true bR
        clear bR
        obtain ⟨aV, aE⟩ : ∃ y_ : List (S67), y_ = (([(⟨(rd_T67 l0 aa).f0, (rd_T67 l0 aa).f1, (rd_T67 l0 aa).f2⟩ : S67), (⟨(rd_T67 l1 aa).f0, (rd_T67 l1 aa).f1, (rd_T67 l1 aa).f2⟩ : S67)] : List (S67))) := ⟨_, rfl⟩
        replace H : ((rational_Mul.f k1 aV).bind fun aY => ((rational_plus.f k1 ai ak aj aY.1 aY.2.1 aY.2.2).bind fun aZ => (rational_Dot.l0 k1 l0 l1 (l0.length : Int) (wrap64 (aa + 1)) aZ.1 aZ.2.1 aZ.2.2))) = some (r1, r2, r3, r4) := by first | (rw [aE]; with_reducible exact H) | (have H2_ := (Option.bind_some _ _).symm.trans H; rw [aE]; with_reducible exact H2_) | (have H2_ := (Option.bind_some _ _).symm.trans H; with_reducible exact H2_) | with_reducible exact H | (rw [aE]; exact H) | exact H
        have a2 := am aE
        clear aE
        obtain ⟨⟨a3, a4, a5⟩, cI, H⟩ := bs H
        (try dsimp -simprocs only at H)
        obtain ⟨⟨a0, a1, a6⟩, cJ, H⟩ := bs H
        (try dsimp -simprocs only at H)
        have H' := am H
        clear H
        try go_wp2
        replace aA := am (Kd.V_drew aA.out)
        replace aB := am (Kd.V_drew aB.out)
        replace af := am (Kd.V_drew af.out)
        replace ag := am (Kd.V_drew ag.out)
        replace ae := am (blk_drew ae.out)
        replace ab := am (blk_drew ab.out)
        replace HB := am (below_drew1 HB.out)
        have p1904 : 0 ≤ (aa : Int) := of_decide_eq_true (by first | (with_reducible assumption) | assumption)
        have q1904 : aa < (l0.length : Int) := of_decide_eq_true (by first | (with_reducible assumption) | assumption)
        obtain ⟨ad1904, aK, aL, aM, aN, e1904, aW, aF, aG, hl1904_1, hi1904_1, hl1904_2, hi1904_2⟩ := at_T67 (Kd.V_reads' aA.out).2.2 aa p1904 q1904
        cases e1904
        obtain ⟨ce1904, hce1904, hMe1904, hcc1904⟩ := Kd.V_get aA.out z67 aa p1904 (by first | exact q1904 | exact of_decide_eq_true (by first | (with_reducible assumption) | assumption) | (have e_ := (Kd.V_reads' aA.out).1; omega))
        obtain ⟨ua1904_1, uc1904_1, ua1904_2, uc1904_2, rfl, ul1904_1, ge1904_1, ul1904_2, ge1904_2⟩ := k67_openF hMe1904
        have hv1904_1 := hcc1904 1 _ rfl
        rw [add_field _ _ 1 (by omega)] at hv1904_1
        replace hv1904_1 := Option.some.inj (hv1904_1.symm.trans aF)
        injection hv1904_1 with hva_ hvn_ hvc_
        rw [hva_] at ge1904_1
        rw [hvc_] at ul1904_1
        have au := am (show Kd.V (Kd.int .u32) 48 _ w.heap.size _ _ ((rd_T67 l0 aa).f1) from Kd.V_mk ul1904_1 ge1904_1)
        clear hva_ hvn_ hvc_ ge1904_1 ul1904_1
        have hv1904_2 := hcc1904 2 _ rfl
        rw [add_field _ _ 2 (by omega)] at hv1904_2
        replace hv1904_2 := Option.some.inj (hv1904_2.symm.trans aG)
        injection hv1904_2 with hva_ hvn_ hvc_
        rw [hva_] at ge1904_2
        rw [hvc_] at ul1904_2
        have av := am (show Kd.V (Kd.int .u32) 48 _ w.heap.size _ _ ((rd_T67 l0 aa).f2) from Kd.V_mk ul1904_2 ge1904_2)
        clear hva_ hvn_ hvc_ ge1904_2 ul1904_2
        clear hcc1904 hce1904
        have an := am hi1904_1
        have bB := am hl1904_1
        clear hi1904_1 hl1904_1
        have ao := am hi1904_2
        have bC := am hl1904_2
        clear hi1904_2 hl1904_2
        replace p1904 := eq_true p1904
        replace q1904 := eq_true q1904
        have p1905 : 0 ≤ (aa : Int) := of_decide_eq_true (by first | (with_reducible assumption) | assumption)
        have q1905 : aa < (l1.length : Int) := of_decide_eq_true (by first | (with_reducible assumption) | assumption)
        obtain ⟨ad1905, aO, aP, aQ, aR, e1905, aX, aH, aI, hl1905_1, hi1905_1, hl1905_2, hi1905_2⟩ := at_T67 (Kd.V_reads' aB.out).2.2 aa p1905 q1905
        cases e1905
        obtain ⟨ce1905, hce1905, hMe1905, hcc1905⟩ := Kd.V_get aB.out z67 aa p1905 (by first | exact q1905 | exact of_decide_eq_true (by first | (with_reducible assumption) | assumption) | (have e_ := (Kd.V_reads' aB.out).1; omega))
        obtain ⟨ua1905_1, uc1905_1, ua1905_2, uc1905_2, rfl, ul1905_1, ge1905_1, ul1905_2, ge1905_2⟩ := k67_openF hMe1905
        have hv1905_1 := hcc1905 1 _ rfl
        rw [add_field _ _ 1 (by omega)] at hv1905_1
        replace hv1905_1 := Option.some.inj (hv1905_1.symm.trans aH)
        injection hv1905_1 with hva_ hvn_ hvc_
        rw [hva_] at ge1905_1
        rw [hvc_] at ul1905_1
        have aw := am (show Kd.V (Kd.int .u32) 48 _ w.heap.size _ _ ((rd_T67 l1 aa).f1) from Kd.V_mk ul1905_1 ge1905_1)
        clear hva_ hvn_ hvc_ ge1905_1 ul1905_1
        have hv1905_2 := hcc1905 2 _ rfl
        rw [add_field _ _ 2 (by omega)] at hv1905_2
        replace hv1905_2 := Option.some.inj (hv1905_2.symm.trans aI)
        injection hv1905_2 with hva_ hvn_ hvc_
        rw [hva_] at ge1905_2
        rw [hvc_] at ul1905_2
        have ax := am (show Kd.V (Kd.int .u32) 48 _ w.heap.size _ _ ((rd_T67 l1 aa).f2) from Kd.V_mk ul1905_2 ge1905_2)
        clear hva_ hvn_ hvc_ ge1905_2 ul1905_2
        clear hcc1905 hce1905
        have ap := am hi1905_1
        have bD := am hl1905_1
        clear hi1905_1 hl1905_1
        have aq := am hi1905_2
        have bE := am hl1905_2
        clear hi1905_2 hl1905_2
        replace p1905 := eq_true p1905
        replace q1905 := eq_true q1905
        refine start_ (n := 13) (S := fun w' => w'.cell? ⟨ac, 0, none⟩ = some (.bool ai) ∧ w'.cell? ⟨ac, 1, none⟩ = some (u1904001) ∧ w'.cell? ⟨ac, 2, none⟩ = some (u1904002) ∧ w'.cell? (ad1904.add ((aa).toNat * 3)) = some (.bool ((rd_T67 l0 aa).f0)) ∧ w'.cell? ⟨(ad1904.add ((aa).toNat * 3)).block, (ad1904.add ((aa).toNat * 3)).off + 1, none⟩ = some (.slice aK ((rd_T67 l0 aa).f1).length aL) ∧ w'.cell? ⟨(ad1904.add ((aa).toNat * 3)).block, (ad1904.add ((aa).toNat * 3)).off + 2, none⟩ = some (.slice aM ((rd_T67 l0 aa).f2).length aN) ∧ w'.cell? (ad1905.add ((aa).toNat * 3)) = some (.bool ((rd_T67 l1 aa).f0)) ∧ w'.cell? ⟨(ad1905.add ((aa).toNat * 3)).block, (ad1905.add ((aa).toNat * 3)).off + 1, none⟩ = some (.slice aO ((rd_T67 l1 aa).f1).length aP) ∧ w'.cell? ⟨(ad1905.add ((aa).toNat * 3)).block, (ad1905.add ((aa).toNat * 3)).off + 2, none⟩ = some (.slice aQ ((rd_T67 l1 aa).f2).length aR)) (ds := [12]) #[false, false, false, false, false, false, false, false, false, false, false, false, false] (by kernel_rfl) rfl rfl ⟨bc ab 0, bc ab 1, bc ab 2, aW, aF, aG, aX, aH, aI⟩ (fun hHeld => ?_); refine with_tabW rational_Dot.tab7 rational_Dot.bits7 (fun HT_ HW_ => ?_)
        generalize wr.drew = cK at aA aB af ag ae ab HB au av aw ax an ao ap aq aW aF aG aX aH aI hHeld ⊢
        refine pq 1 (some 22) #[false, true, false, false, false, false, false, false, false, false, false, false, false] HT_ ?_
        refine pq 2 (some 23) #[false, true, true, false, false, false, false, false, false, false, false, false, false] HT_ ?_
        refine pq 3 (some 24) #[false, true, true, true, false, false, false, false, false, false, false, false, false] HT_ ?_
        refine pq 5 (some 26) #[false, true, true, true, false, true, false, false, false, false, false, false, false] HT_ ?_
        refine pq 6 (some 27) #[false, true, true, true, false, true, true, false, false, false, false, false, false] HT_ ?_
        refine pq 7 (some 28) #[false, true, true, true, false, true, true, true, false, false, false, false, false] HT_ ?_
        refine tq 0 (some 21) #[true, true, true, true, false, true, true, true, false, false, false, false, false] HT_ HW_ hHeld ?_
        refine tq 4 (some 25) #[true, true, true, true, true, true, true, true, false, false, false, false, false] HT_ HW_ hHeld ?_
        refine tq 8 (some 29) #[true, true, true, true, true, true, true, true, true, false, false, false, false] HT_ HW_ hHeld ?_
        refine one_ (i := 9) (N := some 30) #[true, true, true, true, true, true, true, true, true, true, false, false, false] rfl rfl (one_of HT_.out (by kernel_rfl)) (by decide) (fun K hK => ?_)
        refine Kd.N_lit_step k67 _ 67 ?hg (N' := 30) ?hd (xs := ([(⟨(rd_T67 l0 aa).f0, (rd_T67 l0 aa).f1, (rd_T67 l0 aa).f2⟩ : S67), (⟨(rd_T67 l1 aa).f0, (rd_T67 l1 aa).f1, (rd_T67 l1 aa).f2⟩ : S67)] : List (S67))) (inner := [.bool ((rd_T67 l0 aa).f0), .slice aK ((rd_T67 l0 aa).f1).length aL, .slice aM ((rd_T67 l0 aa).f2).length aN, .bool ((rd_T67 l1 aa).f0), .slice aO ((rd_T67 l1 aa).f1).length aP, .slice aQ ((rd_T67 l1 aa).f2).length aR]) (ok := (fun k_ => ((P0_ k_ ∨ P1_ k_) ∨ w.heap.size ≤ k_) ∧ k_ ≠ ad ∧ k_ ≠ ac)) (okp := (fun k_ => ((P0_ k_ ∨ P1_ k_) ∨ w.heap.size ≤ k_) ∧ k_ ≠ ad ∧ k_ ≠ ac)) ?hr ?hp (fun _ hk => hk) ((show ∀ k_, cK.heap.size ≤ k_ → (fun k_ => ((P0_ k_ ∨ P1_ k_) ∨ w.heap.size ≤ k_) ∧ k_ ≠ ad ∧ k_ ≠ ac) k_ from fun k_ hk => ⟨(.inr (Nat.le_trans (below_size (bu2 HB.out al.out az.out)) hk)), Kd.freshB (g := ad) (o := .cells #[.bool false, .slice none 0 0, .slice none 0 0] 67 (0, 0)) (ku ae.out) k_ hk, Kd.freshB (g := ac) (o := .cells #[.bool ai, u1904001, u1904002] 67 (0, 0)) (ku ab.out) k_ hk⟩) _ (Nat.le_refl _)) (Below.refl _ _) (Nat.le_refl _) (by simp) ?_; (case hd => rfl); (case hg => rfl); (case hr => first | (go_simp; done) | (go_simp; rfl)); (case hp => exact (Reps.c3 (show Kd.FK k67 _ _ (⟨(rd_T67 l0 aa).f0, (rd_T67 l0 aa).f1, (rd_T67 l0 aa).f2⟩ : S67) [.bool ((rd_T67 l0 aa).f0), .slice aK ((rd_T67 l0 aa).f1).length aL, .slice aM ((rd_T67 l0 aa).f2).length aN] from (k67_mkF _ _ (⟨(rd_T67 l0 aa).f0, (rd_T67 l0 aa).f1, (rd_T67 l0 aa).f2⟩ : S67) (Kd.V_reads' (vy ((fun k_ => ((P0_ k_ ∨ P1_ k_) ∨ w.heap.size ≤ k_) ∧ k_ ≠ ad ∧ k_ ≠ ac)) au.out)).2.1 (Kd.V_F (vy ((fun k_ => ((P0_ k_ ∨ P1_ k_) ∨ w.heap.size ≤ k_) ∧ k_ ≠ ad ∧ k_ ≠ ac)) au.out)) (Kd.V_reads' (vy ((fun k_ => ((P0_ k_ ∨ P1_ k_) ∨ w.heap.size ≤ k_) ∧ k_ ≠ ad ∧ k_ ≠ ac)) av.out)).2.1 (Kd.V_F (vy ((fun k_ => ((P0_ k_ ∨ P1_ k_) ∨ w.heap.size ≤ k_) ∧ k_ ≠ ad ∧ k_ ≠ ac)) av.out)))) (Reps.c3 (show Kd.FK k67 _ _ (⟨(rd_T67 l1 aa).f0, (rd_T67 l1 aa).f1, (rd_T67 l1 aa).f2⟩ : S67) [.bool ((rd_T67 l1 aa).f0), .slice aO ((rd_T67 l1 aa).f1).length aP, .slice aQ ((rd_T67 l1 aa).f2).length aR] from (k67_mkF _ _ (⟨(rd_T67 l1 aa).f0, (rd_T67 l1 aa).f1, (rd_T67 l1 aa).f2⟩ : S67) (Kd.V_reads' (vy ((fun k_ => ((P0_ k_ ∨ P1_ k_) ∨ w.heap.size ≤ k_) ∧ k_ ≠ ad ∧ k_ ≠ ac)) aw.out)).2.1 (Kd.V_F (vy ((fun k_ => ((P0_ k_ ∨ P1_ k_) ∨ w.heap.size ≤ k_) ∧ k_ ≠ ad ∧ k_ ≠ ac)) aw.out)) (Kd.V_reads' (vy ((fun k_ => ((P0_ k_ ∨ P1_ k_) ∨ w.heap.size ≤ k_) ∧ k_ ≠ ad ∧ k_ ≠ ac)) ax.out)).2.1 (Kd.V_F (vy ((fun k_ => ((P0_ k_ ∨ P1_ k_) ∨ w.heap.size ≤ k_) ∧ k_ ≠ ad ∧ k_ ≠ ac)) ax.out)))) (Reps.none _ _))))
        intro ct cL aC hb hg_ hnew_
        have HS3_ := (hb.cell (World.block_lt_of_cell? _ _ (hHeld.2.2.2.1))).trans (hHeld.2.2.2.1)
        have HS4_ := (hb.cell (World.block_lt_of_cell? _ _ (hHeld.2.2.2.2.1))).trans (hHeld.2.2.2.2.1)
        have HS5_ := (hb.cell (World.block_lt_of_cell? _ _ (hHeld.2.2.2.2.2.1))).trans (hHeld.2.2.2.2.2.1)
        have HS6_ := (hb.cell (World.block_lt_of_cell? _ _ (hHeld.2.2.2.2.2.2.1))).trans (hHeld.2.2.2.2.2.2.1)
        have HS7_ := (hb.cell (World.block_lt_of_cell? _ _ (hHeld.2.2.2.2.2.2.2.1))).trans (hHeld.2.2.2.2.2.2.2.1)
        have HS8_ := (hb.cell (World.block_lt_of_cell? _ _ (hHeld.2.2.2.2.2.2.2.2))).trans (hHeld.2.2.2.2.2.2.2.2)
        clear hg_ hnew_
        (first | rw [← a2.out] at aC | (simp only [Int.reduceToNat] at aC; rw [← a2.out] at aC))
        replace aA := el aA aC hb
        replace aB := el aB aC hb
        replace af := el af aC hb
        replace ag := el ag aC hb
        replace au := el au aC hb
        replace av := el av aC hb
        replace aw := el aw aC hb
        replace ax := el ax aC hb
        have aD := am (Kd.N_lower aC (below_size (bu2 HB.out al.out az.out)))
        replace ae := kb ae hb
        replace ab := kb ab hb
        replace an := am (Kd.C_below (by repeat (first | (with_reducible exact an.out) | (with_reducible refine Kd.C_alloc ?_ _) | (with_reducible refine Kd.C_drewN ?_ _) | (with_reducible refine Kd.C_drew ?_) | exact an.out)) hb)
        replace ao := am (Kd.C_below (by repeat (first | (with_reducible exact ao.out) | (with_reducible refine Kd.C_alloc ?_ _) | (with_reducible refine Kd.C_drewN ?_ _) | (with_reducible refine Kd.C_drew ?_) | exact ao.out)) hb)
        replace ap := am (Kd.C_below (by repeat (first | (with_reducible exact ap.out) | (with_reducible refine Kd.C_alloc ?_ _) | (with_reducible refine Kd.C_drewN ?_ _) | (with_reducible refine Kd.C_drew ?_) | exact ap.out)) hb)
        replace aq := am (Kd.C_below (by repeat (first | (with_reducible exact aq.out) | (with_reducible refine Kd.C_alloc ?_ _) | (with_reducible refine Kd.C_drewN ?_ _) | (with_reducible refine Kd.C_drew ?_) | exact aq.out)) hb)
        replace HB := be2 HB al az hb
        clear hb aC
        obtain ⟨bp, bq, bF⟩ := Kd.N_slice aD.out
        (first | subst bF | (injection bF with f1_ f2_ f3_; have f4_ := f1_.symm; have f5_ := f3_.symm; clear f1_ f2_ f3_; subst f4_; subst f5_))
        refine hK.out _ _ ⟨bc ab 0, bc ab 1, bc ab 2, HS3_, HS4_, HS5_, HS6_, HS7_, HS8_⟩ (fun hHeld => ?_)
        clear hK K
        refine nq 30 ?_
        refine one_ (i := 10) (N := some 31) #[true, true, true, true, true, true, true, true, true, true, true, false, false] rfl rfl (one_of HT_.out (by kernel_rfl)) (by decide) (fun K hK => ?_)
        refine goes_ Try.func95 (by kernel_rfl) rfl #[.slice bp aV.length bq] (by rfl) rfl rfl lu ?_
        with_reducible refine (rational_Mul.calls k1 (fun k_ => (((P0_ k_ ∨ P1_ k_) ∨ w.heap.size ≤ k_) ∧ (k_ ≠ ad ∧ k_ ≠ ac))) _ _ aV a3 a4 a5 _ ?side1 cI.out).mono ?_
        (case side1 => exact Kd.N_V (aD.out))
        rintro e cM ⟨cv, cw, rfl, bb, bG, hb⟩
        have HS3_ := (hb.cell (World.block_lt_of_cell? _ _ (hHeld.2.2.2.1))).trans (hHeld.2.2.2.1)
        have HS4_ := (hb.cell (World.block_lt_of_cell? _ _ (hHeld.2.2.2.2.1))).trans (hHeld.2.2.2.2.1)
        have HS5_ := (hb.cell (World.block_lt_of_cell? _ _ (hHeld.2.2.2.2.2.1))).trans (hHeld.2.2.2.2.2.1)
        have HS6_ := (hb.cell (World.block_lt_of_cell? _ _ (hHeld.2.2.2.2.2.2.1))).trans (hHeld.2.2.2.2.2.2.1)
        have HS7_ := (hb.cell (World.block_lt_of_cell? _ _ (hHeld.2.2.2.2.2.2.2.1))).trans (hHeld.2.2.2.2.2.2.2.1)
        have HS8_ := (hb.cell (World.block_lt_of_cell? _ _ (hHeld.2.2.2.2.2.2.2.2))).trans (hHeld.2.2.2.2.2.2.2.2)
        refine ⟨_, rfl, ?_⟩
        replace aA := kv aA hb
        replace aB := kv aB hb
        replace af := kv af hb
        replace ag := kv ag hb
        replace au := kv au hb
        replace av := kv av hb
        replace aw := kv aw hb
        replace ax := kv ax hb
        replace aD := kn aD hb
        have aS := ar w.heap.size (ok' := fun k_ => ((P0_ k_ ∨ P1_ k_) ∨ w.heap.size ≤ k_) ∧ k_ ≠ ad ∧ k_ ≠ ac) bb (fa (fz2 HB al az) (fa (fb ae) (fb ab)))
        have aT := ar w.heap.size (ok' := fun k_ => ((P0_ k_ ∨ P1_ k_) ∨ w.heap.size ≤ k_) ∧ k_ ≠ ad ∧ k_ ≠ ac) bG (fa (fz2 HB al az) (fa (fb ae) (fb ab)))
        replace ae := kb ae hb
        replace ab := kb ab hb
        replace an := am (Kd.C_below (by repeat (first | (with_reducible exact an.out) | (with_reducible refine Kd.C_alloc ?_ _) | (with_reducible refine Kd.C_drewN ?_ _) | (with_reducible refine Kd.C_drew ?_) | exact an.out)) hb)
        replace ao := am (Kd.C_below (by repeat (first | (with_reducible exact ao.out) | (with_reducible refine Kd.C_alloc ?_ _) | (with_reducible refine Kd.C_drewN ?_ _) | (with_reducible refine Kd.C_drew ?_) | exact ao.out)) hb)
        replace ap := am (Kd.C_below (by repeat (first | (with_reducible exact ap.out) | (with_reducible refine Kd.C_alloc ?_ _) | (with_reducible refine Kd.C_drewN ?_ _) | (with_reducible refine Kd.C_drew ?_) | exact ap.out)) hb)
        replace aq := am (Kd.C_below (by repeat (first | (with_reducible exact aq.out) | (with_reducible refine Kd.C_alloc ?_ _) | (with_reducible refine Kd.C_drewN ?_ _) | (with_reducible refine Kd.C_drew ?_) | exact aq.out)) hb)
        replace HB := be2 HB al az hb
        (try clear hb)
        (try clear hb2)
        (try clear hk)
        (try clear hi)
        (try clear bb)
        (try clear bG)
        obtain ⟨bm, bn, bH⟩ := Kd.V_slice af.out
        (first | subst bH | (injection bH with f1_ f2_ f3_; have f4_ := f1_.symm; have f5_ := f3_.symm; clear f1_ f2_ f3_; subst f4_; subst f5_))
        obtain ⟨a7, a8, bI⟩ := Kd.V_slice ag.out
        (first | subst bI | (injection bI with f1_ f2_ f3_; have f4_ := f1_.symm; have f5_ := f3_.symm; clear f1_ f2_ f3_; subst f4_; subst f5_))
        obtain ⟨cb, cc, bJ⟩ := Kd.V_slice aS.out
        (first | subst bJ | (injection bJ with f1_ f2_ f3_; have f4_ := f1_.symm; have f5_ := f3_.symm; clear f1_ f2_ f3_; subst f4_; subst f5_))
        obtain ⟨cd, ce, bK⟩ := Kd.V_slice aT.out
        (first | subst bK | (injection bK with f1_ f2_ f3_; have f4_ := f1_.symm; have f5_ := f3_.symm; clear f1_ f2_ f3_; subst f4_; subst f5_))
        refine hK.out _ _ ⟨bc ab 0, bc ab 1, bc ab 2, HS3_, HS4_, HS5_, HS6_, HS7_, HS8_⟩ (fun hHeld => ?_)
        clear hK K
        refine nq 31 ?_
        refine one_ (i := 11) (N := some 32) #[true, true, true, true, true, true, true, true, true, true, true, true, false] rfl rfl (one_of HT_.out (by kernel_rfl)) (by decide) (fun K hK => ?_)
        refine goes_ Try.func165 (by kernel_rfl) rfl #[.agg #[.bool ai, .slice bm ak.length bn, .slice a7 aj.length a8], .agg #[.bool a3, .slice cb a4.length cc, .slice cd a5.length ce]] (by rfl) rfl rfl lu ?_
        with_reducible refine (rational_plus.calls k1 ai (fun k_ => ((((P0_ k_ ∨ P1_ k_) ∨ w.heap.size ≤ k_) ∧ (k_ ≠ ad ∧ k_ ≠ ac)) ∧ some k_ ≠ (.slice bp aV.length bq : Value).ownBlock)) _ _ ak (fun k_ => ((((P0_ k_ ∨ P1_ k_) ∨ w.heap.size ≤ k_) ∧ (k_ ≠ ad ∧ k_ ≠ ac)) ∧ some k_ ≠ (.slice bp aV.length bq : Value).ownBlock)) _ _ aj a3 (fun k_ => (((P0_ k_ ∨ P1_ k_) ∨ w.heap.size ≤ k_) ∧ (k_ ≠ ad ∧ k_ ≠ ac))) _ _ a4 (fun k_ => (((P0_ k_ ∨ P1_ k_) ∨ w.heap.size ≤ k_) ∧ (k_ ≠ ad ∧ k_ ≠ ac))) _ _ a5 a0 a1 a6 _ ?side1 ?side2 ?side3 ?side4 cJ.out).mono ?_
        (case side1 => exact vz af.out)
        (case side2 => exact vz ag.out)
        (case side3 => exact vz aS.out)
        (case side4 => exact vz aT.out)
        rintro e cf ⟨cx, cy, rfl, bb, bG, hb⟩
        have HS3_ := (hb.cell (World.block_lt_of_cell? _ _ (hHeld.2.2.2.1))).trans (hHeld.2.2.2.1)
        have HS4_ := (hb.cell (World.block_lt_of_cell? _ _ (hHeld.2.2.2.2.1))).trans (hHeld.2.2.2.2.1)
        have HS5_ := (hb.cell (World.block_lt_of_cell? _ _ (hHeld.2.2.2.2.2.1))).trans (hHeld.2.2.2.2.2.1)
        have HS6_ := (hb.cell (World.block_lt_of_cell? _ _ (hHeld.2.2.2.2.2.2.1))).trans (hHeld.2.2.2.2.2.2.1)
        have HS7_ := (hb.cell (World.block_lt_of_cell? _ _ (hHeld.2.2.2.2.2.2.2.1))).trans (hHeld.2.2.2.2.2.2.2.1)
        have HS8_ := (hb.cell (World.block_lt_of_cell? _ _ (hHeld.2.2.2.2.2.2.2.2))).trans (hHeld.2.2.2.2.2.2.2.2)
        refine ⟨_, rfl, ?_⟩
        replace aA := kv aA hb
        replace aB := kv aB hb
        replace af := kv af hb
        replace ag := kv ag hb
        replace au := kv au hb
        replace av := kv av hb
        replace aw := kv aw hb
        replace ax := kv ax hb
        replace aD := kn aD hb
        replace aS := kv aS hb
        replace aT := kv aT hb
        have a9 := ar w.heap.size (ok' := fun k_ => ((P0_ k_ ∨ P1_ k_) ∨ w.heap.size ≤ k_) ∧ k_ ≠ ad ∧ k_ ≠ ac) bb (fa (fz2 HB al az) (fa (fb ae) (fb ab)))
        have ba := ar w.heap.size (ok' := fun k_ => ((P0_ k_ ∨ P1_ k_) ∨ w.heap.size ≤ k_) ∧ k_ ≠ ad ∧ k_ ≠ ac) bG (fa (fz2 HB al az) (fa (fb ae) (fb ab)))
        replace ae := kb ae hb
        replace ab := kb ab hb
        replace an := am (Kd.C_below (by repeat (first | (with_reducible exact an.out) | (with_reducible refine Kd.C_alloc ?_ _) | (with_reducible refine Kd.C_drewN ?_ _) | (with_reducible refine Kd.C_drew ?_) | exact an.out)) hb)
        replace ao := am (Kd.C_below (by repeat (first | (with_reducible exact ao.out) | (with_reducible refine Kd.C_alloc ?_ _) | (with_reducible refine Kd.C_drewN ?_ _) | (with_reducible refine Kd.C_drew ?_) | exact ao.out)) hb)
        replace ap := am (Kd.C_below (by repeat (first | (with_reducible exact ap.out) | (with_reducible refine Kd.C_alloc ?_ _) | (with_reducible refine Kd.C_drewN ?_ _) | (with_reducible refine Kd.C_drew ?_) | exact ap.out)) hb)
        replace aq := am (Kd.C_below (by repeat (first | (with_reducible exact aq.out) | (with_reducible refine Kd.C_alloc ?_ _) | (with_reducible refine Kd.C_drewN ?_ _) | (with_reducible refine Kd.C_drew ?_) | exact aq.out)) hb)
        replace HB := be2 HB al az hb
        (try clear hb)
        (try clear hb2)
        (try clear hk)
        (try clear hi)
        (try clear bb)
        (try clear bG)
        obtain ⟨bL, bM, bN⟩ := Kd.V_slice a9.out
        (first | subst bN | (injection bN with f1_ f2_ f3_; have f4_ := f1_.symm; have f5_ := f3_.symm; clear f1_ f2_ f3_; subst f4_; subst f5_))
        obtain ⟨cg, ch, bO⟩ := Kd.V_slice ba.out
        (first | subst bO | (injection bO with f1_ f2_ f3_; have f4_ := f1_.symm; have f5_ := f3_.symm; clear f1_ f2_ f3_; subst f4_; subst f5_))
        refine hK.out _ _ ⟨bc ab 0, bc ab 1, bc ab 2, HS3_, HS4_, HS5_, HS6_, HS7_, HS8_⟩ (fun hHeld => ?_)
        clear hK K
        refine nq 32 ?_
        refine last_ (i := 12) (N := none) #[true, true, true, true, true, true, true, true, true, true, true, true, true] rfl rfl (one_of HT_.out (by kernel_rfl)) (by decide) (fun K hK => ?_)
        have hs27 : cf.cell? ⟨ac, 0, none⟩ = some (.bool ai) := bc ab 0
        have hfs27 := blk_frozen ab.out 0
        have hns27_0 := ah.out
        have hms27_0 := ay.out
        have hs29 : cf.cell? ⟨ac, 1, none⟩ = some (.slice bm ak.length bn) := bc ab 1
        have hfs29 := blk_frozen ab.out 1
        have hns29_0 := ah.out
        have hms29_0 := ay.out
        have hs31 : cf.cell? ⟨ac, 2, none⟩ = some (.slice a7 aj.length a8) := bc ab 2
        have hfs31 := blk_frozen ab.out 2
        have hns31_0 := ah.out
        have hms31_0 := ay.out
        refine skip_ (w1 := ?_) (by rfl) rfl ?_ ?_
        rotate_left
        ·
         go_simp
         rfl
        refine hK.out _ _ ?_
        clear hK K
        refine done_ (done_of HT_.out (by kernel_rfl)) ?_
        try go_wp2
        go_roundg k1
        case measure => have := HK1.out; omega
        case rel => exact ⟨(wrap64 (aa + 1)), (a0), (a1), (a6), (.slice bL a1.length bM), (.slice cg a6.length ch), (by first | rfl | (simp; done) | (simp [*]; done)), H', ⟨by have := HK1.out; omega⟩, ⟨by exact vf aA.out⟩, ⟨by exact vf aB.out⟩, ⟨by exact vf a9.out⟩, ⟨by exact vf ba.out⟩, ⟨by (with_reducible repeat (first | refine blk_drewN ?_ _ | refine blk_drew ?_ | refine blk_alloc ?_ _)); refine blk_far ?_ ah.out _; (with_reducible repeat (first | refine blk_drewN ?_ _ | refine blk_drew ?_ | refine blk_alloc ?_ _)); refine blk_far ?_ ah.out _; (with_reducible repeat (first | refine blk_drewN ?_ _ | refine blk_drew ?_ | refine blk_alloc ?_ _)); refine blk_far ?_ ah.out _; (with_reducible repeat (first | refine blk_drewN ?_ _ | refine blk_drew ?_ | refine blk_alloc ?_ _)); exact ae.out⟩, ⟨by (with_reducible repeat (first | refine blk_drewN ?_ _ | refine blk_drew ?_ | refine blk_alloc ?_ _)); refine blk_put (cs := #[.bool a0, .slice bL a1.length bM, .slice a7 aj.length a8]) ?_ 2 _ rfl; (with_reducible repeat (first | refine blk_drewN ?_ _ | refine blk_drew ?_ | refine blk_alloc ?_ _)); refine blk_put (cs := #[.bool a0, .slice bm ak.length bn, .slice a7 aj.length a8]) ?_ 1 _ rfl; (with_reducible repeat (first | refine blk_drewN ?_ _ | refine blk_drew ?_ | refine blk_alloc ?_ _)); refine blk_put (cs := #[.bool ai, .slice bm ak.length bn, .slice a7 aj.length a8]) ?_ 0 _ rfl; (with_reducible repeat (first | refine blk_drewN ?_ _ | refine blk_drew ?_ | refine blk_alloc ?_ _)); exact ab.out⟩, ⟨by repeat (first | (with_reducible first | exact HB.out | apply below_alloc | apply pw_below_drewN | apply below_drew1 | refine below_set ?_ al.out | refine below_set ?_ az.out) | exact HB.out)⟩⟩
       ·
        rw [if_neg bR] at H
        exact absurd H (by simp)
      ·
       rw [if_neg bQ] at H
       exact absurd H (by simp)
     ·
      rw [if_neg bP] at H
      exact absurd H (by simp)
    ·
     rw [if_neg br] at H
     have bA : decide (aa < (l0.length : Int)) = false := decide_eq_false br
     clear br
     simp only [Option.some.injEq, Prod.mk.injEq] at H
     obtain ⟨rfl, rfl, rfl, rfl⟩ := H
     have cz := ay.out
     have cA := ah.out
     obtain ⟨bS, bT, bU, bV, bW, bX⟩ := bz ab
     obtain ⟨bY, bZ, b0, b1, b2, b3⟩ := bz ae
     obtain ⟨ci, cj, ck⟩ := Kd.V_slice af.out
     subst ck
     obtain ⟨cl, cm, cn⟩ := Kd.V_slice ag.out
     subst cn
     go_wp2
     refine bodyPost_ret (results_ct rfl _ _ ad 67 #[.bool ai, .slice ci ak.length cj, .slice cl aj.length cm] (0, 0) _ rfl (kp ae.out) Try.underlying67 rfl (by kernel_rfl)) rfl ?_
     exact ⟨_, _, by first | rfl | (simp [errW_none, errW_some] <;> rfl) | (simp [*, errW_none, errW_some] <;> rfl), by exact vf af.out, by exact vf ag.out, by repeat (first | (with_reducible first | exact HB.out | apply below_alloc | apply pw_below_drewN | apply below_drew1 | refine below_set ?_ al.out | refine below_set ?_ az.out) | exact HB.out)⟩
 ·
  rw [if_neg c3] at H
  have bv : ((l0.length : Int) == (l1.length : Int)) = false := beq_eq_false_iff_ne.mpr c3
  have bw : ((l0.length : Int) != (l1.length : Int)) = true := bne_iff_ne.mpr c3
  have bx : (l0.length == l1.length) = false := by first | simpa using c3 | (simp at c3 ⊢; omega)
  simp only [Option.some.injEq, Prod.mk.injEq] at H
  obtain ⟨rfl, rfl, rfl, rfl⟩ := H
  go_enter Try.func102, Try.ntmps102
  go_wp2_with (first | ((with_reducible refine gate_dst (N := 4) rfl ?_); refine box_event ?hg (N := 4) ?hd (cs := #[.bool false, .slice none 0 0, .slice none 0 0]) (t := 67) ?hr ?_; (case hd => rfl); (case hg => rfl); (case hr => first | (go_simp; done) | (go_simp; rfl)); intro ad hg cN hbox hb; replace bd := ke bd hg hb; replace bf := ke bf hg hb; have ae := am (hbox); have bo := ng hg (bu HB.out); have al := ng hg (bu HB.out); replace HB := be HB hb; clear hb hbox hg; obtain ⟨b4, b5, b6, b7, b8, b9⟩ := bz ae))
  refine bodyPost_ret (results_ct rfl _ _ ad 67 #[.bool false, .slice none 0 0, .slice none 0 0] (0, 0) _ rfl (kp ae.out) Try.underlying67 rfl (by kernel_rfl)) rfl ?_
  exact ⟨_, _, by first | rfl | (simp [errW_none, errW_some] <;> rfl) | (simp [*, errW_none, errW_some] <;> rfl), Kd.V_nil _ _ _ _ _, Kd.V_nil _ _ _ _ _, by repeat (first | (with_reducible first | exact HB.out | apply below_alloc | apply pw_below_drewN | apply below_drew1 | refine below_set ?_ al.out) | exact HB.out)⟩
mutual
def codewrightlaw02_RationalDots.j0 : Nat → List (S67) → List (S67) → Bool → Option (Bool)
 | 0, _, _, _ => none
 | k + 1, x0, x1, x12 => if x12 = true then (some true) else (if (x0.length : Int) > 16 then (codewrightlaw02_RationalDots.j1 k x0 x1 true) else (codewrightlaw02_RationalDots.j1 k x0 x1 (decide ((x1.length : Int) > 16))))
def codewrightlaw02_RationalDots.j1 : Nat → List (S67) → List (S67) → Bool → Option (Bool)
 | 0, _, _, _ => none
 | k + 1, x0, x1, x20 => if x20 = true then (some true) else ((rational_Dot.f k x0 x1).bind fun bt1950 => (if (x0.length : Int) = (x1.length : Int) then (if bt1950.2.2.2 = 0 then ((codewrightref02_Dot.f k x0 x1).bind fun bt1959 => ((codewrightlaw02_same.f k bt1950.1 bt1950.2.1 bt1950.2.2.1 bt1959.1 bt1959.2.1 bt1959.2.2).bind fun t1966 => (some t1966))) else (none)) else (if bt1950.2.2.2 = 3 then ((codewrightref02_Nil.f bt1950.1 bt1950.2.1 bt1950.2.2.1).bind fun t1967 => (some t1967)) else (none))))
end
def codewrightlaw02_RationalDots.f (k : Nat) (l0 : List (S67)) (l1 : List (S67)) : Option (Bool) := (codewrightlaw02_long.f k 4 l0).bind fun t1948 => (if t1948 = true then (codewrightlaw02_RationalDots.j0 k l0 l1 true) else ((codewrightlaw02_long.f k 4 l1).bind fun t1949 => (codewrightlaw02_RationalDots.j0 k l0 l1 t1949)))
def codewrightlaw02_RationalDots.T8 : Bool × List (List Nat × List Nat) := (true, [([], []), ([0], [0]), ([1], [1]), ([2], [2]), ([2], [2]), ([2], [2]), ([4, 5, 2, 2], [2, 4, 5]), ([3, 6, 6, 2], [2, 3, 6]), ([2, 7], [2, 7]), ([8, 7, 0, 1, 2, 3, 4, 5, 6, 7, 8], [8])])
def codewrightlaw02_RationalDots.B8 : List Nat := [0, 1, 3, 7, 7, 7, 55, 127, 255, 511]
theorem codewrightlaw02_RationalDots.tab8 : rtab .any (opsOf Try.f16 8) = codewrightlaw02_RationalDots.T8 := by kernel_rfl
theorem codewrightlaw02_RationalDots.bits8 : waitsOk codewrightlaw02_RationalDots.T8.2 codewrightlaw02_RationalDots.B8 = true := by kernel_rfl
theorem codewrightlaw02_RationalDots.calls (k : Nat) (A0 : Option Addr) (c0 : Nat) (l0 : List (S67)) (A1 : Option Addr) (c1 : Nat) (l1 : List (S67)) (r : Bool) (w : World) (hr0 : Kd.C k67 w A0 l0.length l0) (hc0 : l0.length ≤ c0) (hr1 : Kd.C k67 w A1 l1.length l1) (hc1 : l1.length ≤ c1) (h : codewrightlaw02_RationalDots.f k l0 l1 = some r) :
 Calls Try.prog 16 #[.slice A0 l0.length c0, .slice A1 l1.length c1] w fun e w' => e = .returned (.bool r) ∧ Below w.heap.size w w' := by
 have bH := Try.underlying67
 have aL := am hr0
 have aK := am hc0
 clear hr0 hc0
 have aX := am hr1
 have aM := am hc1
 clear hr1 hc1
 have HB := am (Below.refl w.heap.size w)
 have H : ((codewrightlaw02_long.f k 4 l0).bind fun aC => (if aC = true then (codewrightlaw02_RationalDots.j0 k l0 l1 true) else ((codewrightlaw02_long.f k 4 l1).bind fun av => (codewrightlaw02_RationalDots.j0 k l0 l1 av)))) = some r := h
 clear h
 have bb := am H
 clear H
 go_enter Try.func16, Try.ntmps16
 go_upto_region 1 with (fail)
 go_cut [12] (fun bI wc => ∃ (kq : Nat) (ax : Bool), bI = .bool ax ∧ Aside0 (codewrightlaw02_RationalDots.j0 kq l0 l1 ax = some r) ∧ Aside0 (kq ≤ k) ∧ Aside0 (Below w.heap.size w wc))
 case first =>
  have H := bb.out
  clear bb
  obtain ⟨aC, A4, H⟩ := bs H
  (try dsimp -simprocs only at H)
  by_cases c5 : aC = true
  ·
   subst c5
   have H1 : (codewrightlaw02_RationalDots.j0 k l0 l1 true) = some r := by rw [if_pos rfl] at H; exact H
   clear H
   have H := H1
   clear H1
   have H' := am H
   clear H
   go_wp2_with (first | ((with_reducible refine gate_callee (f := 86) rfl ?_); refine goesL_ (some 8) rfl rfl Try.func86 (by kernel_rfl) rfl #[.int .i64 4, .slice A0 l0.length c0] rfl lu ?_; (with_reducible refine (codewrightlaw02_long.calls k 4 _ _ l0 true _ ?side1 ?side2 A4.out).mono ?_); (case side1 => repeat (first | exact (Kd.C_below aL.out HB.out) | (with_reducible refine Kd.C_alloc ?_ _) | (with_reducible refine Kd.C_drewN ?_ _) | (with_reducible refine Kd.C_drew ?_))); (case side2 => first | exact aK.out | exact vz aK.out); rintro e w' ⟨rfl, ⟨nd, rfl⟩⟩; refine ⟨_, rfl, ?_⟩))
   go_meet
   case rel => exact ⟨_, (true), (by first | rfl | (simp; done) | (simp [*]; done)), H', ⟨by first | omega | exact Nat.le_refl _⟩, ⟨by repeat (first | (with_reducible first | exact HB.out | apply below_alloc | apply pw_below_drewN | apply below_drew1) | exact HB.out)⟩⟩
  ·
   replace c5 := Bool.eq_false_iff.mpr c5
   subst c5
   have H1 : ((codewrightlaw02_long.f k 4 l1).bind fun av => (codewrightlaw02_RationalDots.j0 k l0 l1 av)) = some r := by rw [if_neg (show ¬ (false = true) by decide)] at H; exact H
   clear H
   have H := H1
   clear H1
   obtain ⟨av, A6, H⟩ := bs H
   (try dsimp -simprocs only at H)
   have H' := am H
   clear H
   go_wp2_with (first | ((with_reducible refine gate_callee (f := 86) rfl ?_); refine goesL_ (some 8) rfl rfl Try.func86 (by kernel_rfl) rfl #[.int .i64 4, .slice A0 l0.length c0] rfl lu ?_; (with_reducible refine (codewrightlaw02_long.calls k 4 _ _ l0 false _ ?side1 ?side2 A4.out).mono ?_); (case side1 => repeat (first | exact (Kd.C_below aL.out HB.out) | (with_reducible refine Kd.C_alloc ?_ _) | (with_reducible refine Kd.C_drewN ?_ _) | (with_reducible refine Kd.C_drew ?_))); (case side2 => first | exact aK.out | exact vz aK.out); rintro e w' ⟨rfl, ⟨nd, rfl⟩⟩; refine ⟨_, rfl, ?_⟩) | (go_at_call 86; (with_reducible refine (codewrightlaw02_long.calls k 4 _ _ l1 av _ ?side1 ?side2 A6.out).mono ?_); (case side1 => repeat (first | exact (Kd.C_below aX.out (bu HB.out)) | (with_reducible refine Kd.C_alloc ?_ _) | (with_reducible refine Kd.C_drewN ?_ _) | (with_reducible refine Kd.C_drew ?_))); (case side2 => first | exact aM.out | exact vz aM.out); rintro e w' ⟨rfl, ⟨nd, rfl⟩⟩))
   go_meet
   case rel => exact ⟨_, (av), (by first | rfl | (simp; done) | (simp [*]; done)), H', ⟨by first | omega | exact Nat.le_refl _⟩, ⟨by repeat (first | (with_reducible first | exact HB.out | apply below_alloc | apply pw_below_drewN | apply below_drew1) | exact HB.out)⟩⟩
 case rest =>
  clear bb
  try clear c1
  try clear p2
  try clear c5
  obtain ⟨kq, ax, rfl, HA, HJ2, HB⟩ := hcut
  cases kq with
  | zero => exact absurd HA.out (by simp [codewrightlaw02_RationalDots.j0])
  | succ kj2 =>
   have H := HA.out
   clear HA
   simp only [codewrightlaw02_RationalDots.j0] at H
   by_cases c7 : ax = true
   ·
    subst c7
    have H1 : (some true) = some r := by rw [if_pos rfl] at H; exact H
    clear H
    have H := H1
    clear H1
    obtain rfl := Option.some.inj H
    go_wp2
    go_ret
    exact ⟨by first | rfl | (simp [errW_none, errW_some] <;> rfl) | (simp [*, errW_none, errW_some] <;> rfl), by repeat (first | (with_reducible first | exact HB.out | apply below_alloc | apply pw_below_drewN | apply below_drew1) | exact HB.out)⟩
   ·
    replace c7 := Bool.eq_false_iff.mpr c7
    subst c7
    have H1 : (if (l0.length : Int) > 16 then (codewrightlaw02_RationalDots.j1 kj2 l0 l1 true) else (codewrightlaw02_RationalDots.j1 kj2 l0 l1 (decide ((l1.length : Int) > 16)))) = some r := by rw [if_neg (show ¬ (false = true) by decide)] at H; exact H
    clear H
    have H := H1
    clear H1
    have bd := am H
    clear H
    go_upto_region 3 with (fail)
    go_cut [20] (fun bJ wc => ∃ (kq : Nat) (ay : Bool), bJ = .bool ay ∧ Aside0 (codewrightlaw02_RationalDots.j1 kq l0 l1 ay = some r) ∧ Aside0 (kq ≤ kj2) ∧ Aside0 (Below w.heap.size w wc))
    case first =>
     have H := bd.out
     clear bd
     by_cases c9 : (l0.length : Int) > 16
     ·
      rw [if_pos c9] at H
      have aB : decide (16 < (l0.length : Int)) = true := decide_eq_true c9
      have aH : decide (16 < l0.length) = true := decide_eq_true (by omega)
      clear c9
      (first | rw [aB] | rw [aH] | (simp only [i64_w, i32_w]; rw [aB]) | skip)
      have H' := am H
      clear H
      go_wp2
      go_meet
      case rel => exact ⟨_, (true), (by first | rfl | (simp; done) | (simp [*]; done)), H', ⟨by have := HJ2.out; first | omega | exact Nat.le_refl _⟩, ⟨by repeat (first | (with_reducible first | exact HB.out | apply below_alloc | apply pw_below_drewN | apply below_drew1) | exact HB.out)⟩⟩
     ·
      rw [if_neg c9] at H
      have aB : decide (16 < (l0.length : Int)) = false := decide_eq_false c9
      have aH : decide (16 < l0.length) = false := decide_eq_false (by omega)
      clear c9
      (first | rw [aB] | rw [aH] | (simp only [i64_w, i32_w]; rw [aB]) | skip)
      have H' := am H
      clear H
      go_wp2
      go_meet
      case rel => exact ⟨_, (decide ((l1.length : Int) > 16)), (by first | rfl | (simp; done) | (simp [*]; done)), H', ⟨by have := HJ2.out; first | omega | exact Nat.le_refl _⟩, ⟨by repeat (first | (with_reducible first | exact HB.out | apply below_alloc | apply pw_below_drewN | apply below_drew1) | exact HB.out)⟩⟩
    case rest =>
     clear bd
     try clear c1
     try clear p2
     try clear c5
     try clear c7
     try clear c8
     try clear c9
     try clear aB
     try clear aH
     try clear p2
     obtain ⟨kq, ay, rfl, HA, HJ7, HB⟩ := hcut
     cases kq with
     | zero => exact absurd HA.out (by simp [codewrightlaw02_RationalDots.j1])
     | succ kj7 =>
      have H := HA.out
      clear HA
      simp only [codewrightlaw02_RationalDots.j1] at H
      by_cases aY : ay = true
      ·
       subst aY
       have H1 : (some true) = some r := by rw [if_pos rfl] at H; exact H
       clear H
       have H := H1
       clear H1
       obtain rfl := Option.some.inj H
       go_wp2
       go_ret
       exact ⟨by first | rfl | (simp [errW_none, errW_some] <;> rfl) | (simp [*, errW_none, errW_some] <;> rfl), by repeat (first | (with_reducible first | exact HB.out | apply below_alloc | apply pw_below_drewN | apply below_drew1) | exact HB.out)⟩
      ·
       replace aY := Bool.eq_false_iff.mpr aY
       subst aY
       have H1 : ((rational_Dot.f kj7 l0 l1).bind fun ai => (if (l0.length : Int) = (l1.length : Int) then (if ai.2.2.2 = 0 then ((codewrightref02_Dot.f kj7 l0 l1).bind fun aw => ((codewrightlaw02_same.f kj7 ai.1 ai.2.1 ai.2.2.1 aw.1 aw.2.1 aw.2.2).bind fun az => (some az))) else (none)) else (if ai.2.2.2 = 3 then ((codewrightref02_Nil.f ai.1 ai.2.1 ai.2.2.1).bind fun aA => (some aA)) else (none)))) = some r := by rw [if_neg (show ¬ (false = true) by decide)] at H; exact H
       clear H
       have H := H1
       clear H1
       obtain ⟨⟨af, ae, ag, aj⟩, bA, H⟩ := bs H
       (try dsimp -simprocs only at H)
       by_cases aD : (l0.length : Int) = (l1.length : Int)
       ·
        rw [if_pos aD] at H
        have aN : ((l0.length : Int) == (l1.length : Int)) = true := beq_iff_eq.mpr aD
        have aO : ((l0.length : Int) != (l1.length : Int)) = false := bne_eq_false_iff_eq.mpr aD
        have aP : (l0.length == l1.length) = true := by first | simpa using aD | (simp at aD ⊢; omega)
        clear aD
        by_cases aQ : aj = 0
        ·
         rw [if_pos aQ] at H
         have bB : (aj == 0) = true := beq_iff_eq.mpr aQ
         have bC : (aj != 0) = false := bne_eq_false_iff_eq.mpr aQ
         clear aQ
         obtain ⟨⟨aE, aF, aG⟩, bK, H⟩ := bs H
         (try dsimp -simprocs only at H)
         obtain ⟨az, bL, H⟩ := bs H
         replace H : (some az) = some r := H
         obtain rfl := Option.some.inj H
         try go_wp2_with (first | ((with_reducible refine gate_callee (f := 102) rfl ?_); refine goesL_ (some 24) rfl rfl Try.func102 (by kernel_rfl) rfl #[.slice A0 l0.length c0, .slice A1 l1.length c1] rfl lu ?_; (with_reducible refine (rational_Dot.calls kj7 (fun k_ => k_ < w.heap.size) _ _ l0 (fun k_ => k_ < w.heap.size) _ _ l1 af ae ag aj _ ?side1 ?side2 bA.out).mono ?_); (case side1 => exact Kd.V_mk aK.out (Kd.F_below (Kd.C_F k67_heap aL.out) (bu HB.out))); (case side2 => exact Kd.V_mk aM.out (Kd.F_below (Kd.C_F k67_heap aX.out) (bu HB.out))); rintro e bO ⟨aR, aS, rfl, aI, aJ, hb⟩; refine ⟨_, rfl, ?_⟩; have ac := am (Kd.V_lower (Kd.V_mono (ok' := fun k_ => True) aI (fun k_ hk_ => trivial)) (below_size (bu HB.out))); have ad := am (Kd.V_lower (Kd.V_mono (ok' := fun k_ => True) aJ (fun k_ hk_ => trivial)) (below_size (bu HB.out))); replace HB := be HB hb; (try clear hb); (try clear aI); (try clear aJ)) | ((with_reducible refine gate_dst (N := 5) rfl ?_); (try (refine gate_guard (by rfl) ?_; dsimp only)); refine box_event ?hg (N := 5) ?hd (cs := #[.bool false, .slice none 0 0, .slice none 0 0]) (t := 67) ?hr ?_; (case hd => rfl); (case hg => rfl); (case hr => first | (go_simp; done) | (go_simp; rfl)); intro aa hg aT hbox hb; replace ac := ke ac hg hb; replace ad := ke ad hg hb; have ab := am (hbox); have an := ng hg (bu HB.out); have ah := ng hg (bu HB.out); replace HB := be HB hb; clear hb hbox hg; obtain ⟨aZ, a0, a1, a2, a3, a4⟩ := bz ab; obtain ⟨ak, al, bf⟩ := Kd.V_slice ac.out; subst bf; obtain ⟨ao, ap, bg⟩ := Kd.V_slice ad.out; subst bg))
         have bh : Aside0 (Kd.V (Kd.int .u32) 48 (((aT.setCell ⟨aa, 0, none⟩ (.bool af)).setCell ⟨aa, 1, none⟩ (.slice ak ae.length al)).setCell ⟨aa, 2, none⟩ (.slice ao ag.length ap)) w.heap.size (fun k_ => k_ ≠ aa) (.slice ak ae.length al) ae) := ⟨by exact vf ac.out⟩
         have bi : Aside0 (Kd.V (Kd.int .u32) 48 (((aT.setCell ⟨aa, 0, none⟩ (.bool af)).setCell ⟨aa, 1, none⟩ (.slice ak ae.length al)).setCell ⟨aa, 2, none⟩ (.slice ao ag.length ap)) w.heap.size (fun k_ => k_ ≠ aa) (.slice ao ag.length ap) ag) := ⟨by exact vf ad.out⟩
         have bj : Aside0 ((((aT.setCell ⟨aa, 0, none⟩ (.bool af)).setCell ⟨aa, 1, none⟩ (.slice ak ae.length al)).setCell ⟨aa, 2, none⟩ (.slice ao ag.length ap)).heap[aa]? = some (.cells #[.bool af, .slice ak ae.length al, .slice ao ag.length ap] 67 (0, 0))) := ⟨by (with_reducible repeat (first | refine blk_drewN ?_ _ | refine blk_drew ?_ | refine blk_alloc ?_ _)); refine blk_put (cs := #[.bool af, .slice ak ae.length al, .slice none 0 0]) ?_ 2 _ rfl; (with_reducible repeat (first | refine blk_drewN ?_ _ | refine blk_drew ?_ | refine blk_alloc ?_ _)); refine blk_put (cs := #[.bool af, .slice none 0 0, .slice none 0 0]) ?_ 1 _ rfl; (with_reducible repeat (first | refine blk_drewN ?_ _ | refine blk_drew ?_ | refine blk_alloc ?_ _)); refine blk_put (cs := #[.bool false, .slice none 0 0, .slice none 0 0]) ?_ 0 _ rfl; (with_reducible repeat (first | refine blk_drewN ?_ _ | refine blk_drew ?_ | refine blk_alloc ?_ _)); exact ab.out⟩
         have bk : Aside0 (Below w.heap.size w (((aT.setCell ⟨aa, 0, none⟩ (.bool af)).setCell ⟨aa, 1, none⟩ (.slice ak ae.length al)).setCell ⟨aa, 2, none⟩ (.slice ao ag.length ap))) := ⟨by repeat (first | (with_reducible first | exact HB.out | apply below_alloc | apply pw_below_drewN | apply below_drew1 | refine below_set ?_ ah.out) | exact HB.out)⟩
         (try clear ac)
         (try clear ad)
         (try clear ab)
         (try clear HB)
         generalize (((aT.setCell ⟨aa, 0, none⟩ (.bool af)).setCell ⟨aa, 1, none⟩ (.slice ak ae.length al)).setCell ⟨aa, 2, none⟩ (.slice ao ag.length ap)) = bM at bh bi bj bk ⊢
         have ac := bh
         have ad := bi
         have ab := bj
         have HB := bk
         clear bh bi bj bk
         replace ac := am (Kd.V_drew ac.out)
         replace ad := am (Kd.V_drew ad.out)
         replace ab := am (blk_drew ab.out)
         replace HB := am (below_drew1 HB.out)
         refine start_ (n := 10) (S := fun w' => w'.cell? ⟨aa, 0, none⟩ = some (.bool af) ∧ w'.cell? ⟨aa, 1, none⟩ = some (.slice ak ae.length al) ∧ w'.cell? ⟨aa, 2, none⟩ = some (.slice ao ag.length ap)) (ds := []) #[false, false, false, false, false, false, false, false, false, false] (by kernel_rfl) rfl rfl ⟨bc ab 0, bc ab 1, bc ab 2⟩ (fun hHeld => ?_); refine with_tabW codewrightlaw02_RationalDots.tab8 codewrightlaw02_RationalDots.bits8 (fun HT_ HW_ => ?_)
         generalize bM.drew = bP at ac ad ab HB hHeld ⊢
         refine pq 0 (some 38) #[true, false, false, false, false, false, false, false, false, false] HT_ ?_
         refine pq 1 (some 39) #[true, true, false, false, false, false, false, false, false, false] HT_ ?_
         refine pq 2 (some 40) #[true, true, true, false, false, false, false, false, false, false] HT_ ?_
         refine pq 4 (some 42) #[true, true, true, false, true, false, false, false, false, false] HT_ ?_
         refine pq 5 (some 43) #[true, true, true, false, true, true, false, false, false, false] HT_ ?_
         refine tq 3 (some 41) #[true, true, true, true, true, true, false, false, false, false] HT_ HW_ hHeld ?_
         refine one_ (i := 6) (N := some 44) #[true, true, true, true, true, true, true, false, false, false] rfl rfl (one_of HT_.out (by kernel_rfl)) (by decide) (fun K hK => ?_)
         refine goes_ Try.func103 (by kernel_rfl) rfl #[.slice A0 l0.length c0, .slice A1 l1.length c1] (by rfl) rfl rfl lu ?_
         with_reducible refine (codewrightref02_Dot.calls kj7 (fun k_ => k_ < w.heap.size) _ _ l0 (fun k_ => k_ < w.heap.size) _ _ l1 aE aF aG _ ?side1 ?side2 bK.out).mono ?_
         (case side1 => exact Kd.V_mk aK.out (Kd.F_below (Kd.C_F k67_heap aL.out) (bu1 HB.out ah.out)))
         (case side2 => exact Kd.V_mk aM.out (Kd.F_below (Kd.C_F k67_heap aX.out) (bu1 HB.out ah.out)))
         rintro e bQ ⟨bD, bE, rfl, aI, aJ, hb⟩
         refine ⟨_, rfl, ?_⟩
         replace ac := kv ac hb
         replace ad := kv ad hb
         have aq := am (Kd.V_lower (Kd.V_mono (ok' := fun k_ => k_ ≠ aa) aI (fun k_ hk_ => Or.elim hk_ (fun hs_ => Or.elim hs_ (fun hs_ => fun e_ => Nat.not_le.2 hs_ (by rw [e_]; exact an.out)) (fun hs_ => fun e_ => Nat.not_le.2 hs_ (by rw [e_]; exact an.out))) (fun hn_ => (Kd.freshB (g := aa) (o := .cells #[.bool af, .slice ak ae.length al, .slice ao ag.length ap] 67 (0, 0)) (ku ab.out) k_ hn_)))) (below_size (bu1 HB.out ah.out)))
         have au := am (Kd.V_lower (Kd.V_mono (ok' := fun k_ => k_ ≠ aa) aJ (fun k_ hk_ => Or.elim hk_ (fun hs_ => Or.elim hs_ (fun hs_ => fun e_ => Nat.not_le.2 hs_ (by rw [e_]; exact an.out)) (fun hs_ => fun e_ => Nat.not_le.2 hs_ (by rw [e_]; exact an.out))) (fun hn_ => (Kd.freshB (g := aa) (o := .cells #[.bool af, .slice ak ae.length al, .slice ao ag.length ap] 67 (0, 0)) (ku ab.out) k_ hn_)))) (below_size (bu1 HB.out ah.out)))
         replace ab := kb ab hb
         replace HB := be1 HB ah hb
         (try clear hb)
         (try clear hb2)
         (try clear hk)
         (try clear hi)
         (try clear aI)
         (try clear aJ)
         obtain ⟨bl, bm, aU⟩ := Kd.V_slice aq.out
         (first | subst aU | (injection aU with f1_ f2_ f3_; have f4_ := f1_.symm; have f5_ := f3_.symm; clear f1_ f2_ f3_; subst f4_; subst f5_))
         obtain ⟨bn, bo, aV⟩ := Kd.V_slice au.out
         (first | subst aV | (injection aV with f1_ f2_ f3_; have f4_ := f1_.symm; have f5_ := f3_.symm; clear f1_ f2_ f3_; subst f4_; subst f5_))
         refine hK.out _ _ ⟨bc ab 0, bc ab 1, bc ab 2⟩ (fun hHeld => ?_)
         clear hK K
         refine nq 44 ?_
         refine one_ (i := 7) (N := some 45) #[true, true, true, true, true, true, true, true, false, false] rfl rfl (one_of HT_.out (by kernel_rfl)) (by decide) (fun K hK => ?_)
         refine goes_ Try.func83 (by kernel_rfl) rfl #[.agg #[.bool af, .slice ak ae.length al, .slice ao ag.length ap], .agg #[.bool aE, .slice bl aF.length bm, .slice bn aG.length bo]] (by rfl) rfl rfl lu ?_
         with_reducible refine (codewrightlaw02_same.calls kj7 af _ _ ae _ _ ag aE _ _ aF _ _ aG az _ ?side1 ?side2 ?side3 ?side4 ?side5 ?side6 ?side7 ?side8 bL.out).mono ?_
         (case side1 => exact cu (Kd.V_reads' ac.out).2.2)
         (case side2 => exact (Kd.V_reads' ac.out).2.1)
         (case side3 => exact cu (Kd.V_reads' ad.out).2.2)
         (case side4 => exact (Kd.V_reads' ad.out).2.1)
         (case side5 => exact cu (Kd.V_reads' aq.out).2.2)
         (case side6 => exact (Kd.V_reads' aq.out).2.1)
         (case side7 => exact cu (Kd.V_reads' au.out).2.2)
         (case side8 => exact (Kd.V_reads' au.out).2.1)
         rintro e bR ⟨rfl, hb⟩
         refine ⟨_, rfl, ?_⟩
         replace ac := kv ac hb
         replace ad := kv ad hb
         replace aq := kv aq hb
         replace au := kv au hb
         replace ab := kb ab hb
         replace HB := be1 HB ah hb
         (try clear hb)
         (try clear hb2)
         (try clear hk)
         (try clear hi)
         refine hK.out _ _ ⟨bc ab 0, bc ab 1, bc ab 2⟩ (fun hHeld => ?_)
         clear hK K
         refine nq 45 ?_
         refine pq 8 (some 46) #[true, true, true, true, true, true, true, true, true, false] HT_ ?_
         refine pq 9 (some 4) #[true, true, true, true, true, true, true, true, true, true] HT_ ?_
         refine done_ (done_of HT_.out (by kernel_rfl)) ?_
         try go_wp2
         go_ret
         exact ⟨by first | rfl | (simp [errW_none, errW_some] <;> rfl) | (simp [*, errW_none, errW_some] <;> rfl), by repeat (first | (with_reducible first | exact HB.out | apply below_alloc | apply pw_below_drewN | apply below_drew1 | refine below_set ?_ ah.out) | exact HB.out)⟩
        ·
         rw [if_neg aQ] at H
         exact absurd H (by simp)
       ·
        rw [if_neg aD] at H
        have aN : ((l0.length : Int) == (l1.length : Int)) = false := beq_eq_false_iff_ne.mpr aD
        have aO : ((l0.length : Int) != (l1.length : Int)) = true := bne_iff_ne.mpr aD
        have aP : (l0.length == l1.length) = false := by first | simpa using aD | (simp at aD ⊢; omega)
        by_cases aW : aj = 3
        ·
         rw [if_pos aW] at H
         have bF : (aj == 3) = true := beq_iff_eq.mpr aW
         have bG : (aj != 3) = false := bne_eq_false_iff_eq.mpr aW
         clear aW
         obtain ⟨aA, bN, H⟩ := bs H
         replace H : (some aA) = some r := H
         obtain rfl := Option.some.inj H
         go_wp2_with (first | ((with_reducible refine gate_callee (f := 102) rfl ?_); refine goesL_ (some 24) rfl rfl Try.func102 (by kernel_rfl) rfl #[.slice A0 l0.length c0, .slice A1 l1.length c1] rfl lu ?_; (with_reducible refine (rational_Dot.calls kj7 (fun k_ => k_ < w.heap.size) _ _ l0 (fun k_ => k_ < w.heap.size) _ _ l1 af ae ag aj _ ?side1 ?side2 bA.out).mono ?_); (case side1 => exact Kd.V_mk aK.out (Kd.F_below (Kd.C_F k67_heap aL.out) (bu HB.out))); (case side2 => exact Kd.V_mk aM.out (Kd.F_below (Kd.C_F k67_heap aX.out) (bu HB.out))); rintro e bS ⟨aR, aS, rfl, aI, aJ, hb⟩; refine ⟨_, rfl, ?_⟩; have ac := am (Kd.V_lower (Kd.V_mono (ok' := fun k_ => True) aI (fun k_ hk_ => trivial)) (below_size (bu HB.out))); have ad := am (Kd.V_lower (Kd.V_mono (ok' := fun k_ => True) aJ (fun k_ hk_ => trivial)) (below_size (bu HB.out))); replace HB := be HB hb; (try clear hb); (try clear aI); (try clear aJ)) | ((with_reducible refine gate_dst (N := 5) rfl ?_); (try (refine gate_guard (by rfl) ?_; dsimp only)); refine box_event ?hg (N := 5) ?hd (cs := #[.bool false, .slice none 0 0, .slice none 0 0]) (t := 67) ?hr ?_; (case hd => rfl); (case hg => rfl); (case hr => first | (go_simp; done) | (go_simp; rfl)); intro aa hg bT hbox hb; replace ac := ke ac hg hb; replace ad := ke ad hg hb; have ab := am (hbox); have an := ng hg (bu HB.out); have ah := ng hg (bu HB.out); replace HB := be HB hb; clear hb hbox hg; obtain ⟨a5, a6, a7, a8, a9, ba⟩ := bz ab; obtain ⟨bp, bq, br⟩ := Kd.V_slice ac.out; subst br; obtain ⟨bv, bw, bx⟩ := Kd.V_slice ad.out; subst bx) | (go_at_call 82; (with_reducible refine (codewrightref02_Nil.calls af _ _ ae _ _ ag aA _ ?side1 ?side2 ?side3 ?side4 bN.out).mono ?_); (case side1 => exact vr ac.out); (case side2 => exact (Kd.V_reads' ac.out).2.1); (case side3 => exact vr ad.out); (case side4 => exact (Kd.V_reads' ad.out).2.1); rintro e bU ⟨rfl, hb⟩; replace ac := kx ac hb; replace ad := kx ad hb; replace ab := am (blk_below (g := aa) (o := .cells #[.bool af, .slice bp ae.length bq, .slice bv ag.length bw] 67 (0, 0)) (kp ab.out) hb); replace HB := be1 HB ah hb; (try clear hb)))
         go_ret
         exact ⟨by first | rfl | (simp [errW_none, errW_some] <;> rfl) | (simp [*, errW_none, errW_some] <;> rfl), by repeat (first | (with_reducible first | exact HB.out | apply below_alloc | apply pw_below_drewN | apply below_drew1 | refine below_set ?_ ah.out) | exact HB.out)⟩
        ·
         rw [if_neg aW] at H
         exact absurd H (by simp)
end Go.Proofs.Ytecfdemglbfnoaa.PT
end
section
namespace Go.Proofs.Ytecfdemglbfnoaa.Num
open Go.RowKit Go.Proofs.Ytecfdemglbfnoaa.PT Go.Proofs.YtecfdemglbfnoaaW.PrintWords
def rep (q : Rat) : Bool × List Int × List Int := (decide (q.num < 0), lb q.num.natAbs, lb q.den)
def sg (neg : Bool) (n : Nat) : Int := if neg then -(n : Int) else (n : Int)
def rv (neg : Bool) (n d : List Int) : Rat := mkRat (sg neg (valn n)) (valn d)
def Sz (m : Nat) (q : Rat) : Prop := q.num.natAbs < pw m ∧ q.den < pw m
theorem sg_abs (neg : Bool) (n : Nat) : (sg neg n).natAbs = n := by cases neg <;> simp [sg]
theorem sg_self (z : Int) : sg (decide (z < 0)) z.natAbs = z := by
  by_cases h : z < 0
  · rw [decide_eq_true h]; simp only [sg, if_true]; omega
  · rw [decide_eq_false h]; simp only [sg, Bool.false_eq_true, if_false]; omega
theorem sg_zero (neg : Bool) : sg neg 0 = 0 := by cases neg <;> rfl
theorem sg_add (neg : Bool) (m n : Nat) : sg neg (m + n) = sg neg m + sg neg n := by cases neg <;> simp [sg] <;> omega
theorem sg_sub (neg : Bool) {m n : Nat} (h : n ≤ m) : sg neg (m - n) = sg neg m + sg (!neg) n := by cases neg <;> simp [sg] <;> omega
theorem sg_mul (a b : Bool) (m n : Nat) : sg (a != b) (m * n) = sg a m * sg b n := by cases a <;> cases b <;> simp [sg, Int.neg_mul, Int.mul_neg]
theorem sg_mulN (a : Bool) (m n : Nat) : sg a (m * n) = sg a m * (n : Int) := by cases a <;> simp [sg, Int.neg_mul]
theorem sg_div (neg : Bool) {m g : Nat} (h : g ∣ m) : sg neg m / (g : Int) = sg neg (m / g) := by
  cases neg
  · simp [sg]
  · simp only [sg, if_true]
    rw [Int.neg_ediv_of_dvd (Int.ofNat_dvd.mpr h)]; rfl
theorem rv_zero_num (neg : Bool) {n d : List Int} (h : valn n = 0) : rv neg n d = 0 := by rw [rv, h, sg_zero]; exact Rat.zero_mkRat _
theorem rv_zero_den (neg : Bool) {n d : List Int} (h : valn d = 0) : rv neg n d = 0 := by rw [rv, h]; exact Rat.mkRat_zero _
theorem rv_rep (q : Rat) : rv (rep q).1 (rep q).2.1 (rep q).2.2 = q := by
  simp only [rep, rv, valn_lb, sg_self]; exact Rat.mkRat_self q
theorem rep_zero : rep 0 = (false, [], [1]) := by
  simp only [rep, Rat.zero_num, Rat.zero_den]
  rw [show lb (0 : Int).natAbs = [] from lb_zero, show lb 1 = [1] from by rw [lb_pos (by decide), show (1 : Nat) / 4294967296 = 0 from rfl, lb_zero]; rfl]
  rfl
theorem rep_inj {p q : Rat} (h : rep p = rep q) : p = q := by rw [← rv_rep p, ← rv_rep q, h]
theorem rep_mkRat (neg : Bool) {n d : Nat} (hn : n ≠ 0) (hd : d ≠ 0) : rep (mkRat (sg neg n) d) = (neg, lb (n / n.gcd d), lb (d / n.gcd d)) := by
  have hg : d.gcd n = n.gcd d := Nat.gcd_comm d n
  have hdv : n.gcd d ∣ n := Nat.gcd_dvd_left n d
  have hq : n / n.gcd d ≠ 0 := Nat.ne_of_gt (Nat.div_pos (Nat.le_of_dvd (Nat.pos_of_ne_zero hn) hdv) (Nat.gcd_pos_of_pos_left _ (Nat.pos_of_ne_zero hn)))
  have hnum : (mkRat (sg neg n) d).num = sg neg (n / n.gcd d) := by
    rw [Rat.num_mkRat, if_neg hd, sg_abs, hg, sg_div neg hdv]
  have hden : (mkRat (sg neg n) d).den = d / n.gcd d := by
    rw [Rat.den_mkRat, if_neg hd, sg_abs, hg]
  have hs : decide (sg neg (n / n.gcd d) < 0) = neg := by
    generalize n / n.gcd d = x at hq
    cases neg
    · exact decide_eq_false (by simp [sg])
    · exact decide_eq_true (by simp only [sg, if_true]; omega)
  simp only [rep, hnum, hden, sg_abs, hs]
theorem mkRat_sz {neg : Bool} {n d m : Nat} (hn : n < pw m) (hd : d < pw m) (hm : 1 ≤ m) : Sz m (mkRat (sg neg n) d) := by
  have h1 : 1 < pw m := Nat.lt_of_lt_of_le (by rw [pw_succ, pw_zero]; decide) (pw_mono hm)
  refine ⟨?_, ?_⟩
  · rw [Rat.num_mkRat]
    split
    · exact pw_pos m
    · rw [sg_abs, sg_div neg (Nat.gcd_dvd_right d n), sg_abs]; exact Nat.lt_of_le_of_lt (Nat.div_le_self _ _) hn
  · rw [Rat.den_mkRat]
    split
    · exact h1
    · exact Nat.lt_of_le_of_lt (Nat.div_le_self _ _) hd
theorem Sz_rv {neg : Bool} {n d : List Int} {m : Nat} (hn : U n) (hd : U d) (ln : n.length ≤ m) (ld : d.length ≤ m) (hm : 1 ≤ m) : Sz m (rv neg n d) :=
  mkRat_sz (Nat.lt_of_lt_of_le (valn_lt hn) (pw_mono ln)) (Nat.lt_of_lt_of_le (valn_lt hd) (pw_mono ld)) hm
theorem Sz_mono {m n : Nat} {q : Rat} (h : Sz m q) (hm : m ≤ n) : Sz n q := ⟨Nat.lt_of_lt_of_le h.1 (pw_mono hm), Nat.lt_of_lt_of_le h.2 (pw_mono hm)⟩
theorem mul_pw' {x y m n : Nat} (h1 : x < pw m) (h2 : y < pw n) : x * y < pw (m + n) := by rw [pw_add]; exact Nat.mul_lt_mul'' h1 h2
theorem add_parts (p q : Rat) : p + q = mkRat (sg (decide (p.num < 0)) (p.num.natAbs * q.den) + sg (decide (q.num < 0)) (q.num.natAbs * p.den)) (p.den * q.den) := by
  rw [Rat.add_def', sg_mulN, sg_mulN, sg_self, sg_self]
theorem mul_parts (p q : Rat) : p * q = mkRat (sg (decide (p.num < 0) != decide (q.num < 0)) (p.num.natAbs * q.num.natAbs)) (p.den * q.den) := by
  rw [Rat.mul_def', sg_mul, sg_self, sg_self]
theorem Sz_mul {m n : Nat} {p q : Rat} (hp : Sz m p) (hq : Sz n q) (hm : 1 ≤ m) : Sz (m + n) (p * q) := by
  rw [mul_parts]; exact mkRat_sz (mul_pw' hp.1 hq.1) (mul_pw' hp.2 hq.2) (by omega)
theorem Sz_add {m n : Nat} {p q : Rat} (hp : Sz m p) (hq : Sz n q) (hm : 1 ≤ m) : Sz (m + n + 1) (p + q) := by
  have hx := mul_pw' hp.1 hq.2
  have hy := mul_pw' hq.1 hp.2
  have hd := mul_pw' hp.2 hq.2
  rw [Nat.add_comm n m] at hy
  have hP := pw_succ (m + n)
  have e : p + q = mkRat (sg (decide (p.num * q.den + q.num * p.den < 0)) (p.num * q.den + q.num * p.den).natAbs) (p.den * q.den) := by rw [sg_self]; exact Rat.add_def' p q
  have h1 : (p.num * (q.den : Int)).natAbs = p.num.natAbs * q.den := Int.natAbs_mul ..
  have h2 : (q.num * (p.den : Int)).natAbs = q.num.natAbs * p.den := Int.natAbs_mul ..
  rw [e]
  refine mkRat_sz ?_ ?_ (by omega)
  · have := Int.natAbs_add_le (p.num * (q.den : Int)) (q.num * (p.den : Int))
    rw [h1, h2] at this
    generalize (p.num * (q.den : Int) + q.num * (p.den : Int)).natAbs = z at this ⊢
    generalize p.num.natAbs * q.den = x at *
    generalize q.num.natAbs * p.den = y at *
    omega
  · generalize p.den * q.den = x at *
    omega
theorem Sz_zero {m : Nat} (hm : 1 ≤ m) : Sz m 0 := by
  have h1 : 1 < pw m := Nat.lt_of_lt_of_le (by rw [pw_succ, pw_zero]; decide) (pw_mono hm)
  exact ⟨pw_pos m, h1⟩
end Go.Proofs.Ytecfdemglbfnoaa.Num
end
section
namespace Go.Proofs.Ytecfdemglbfnoaa.Num
open Go.RowKit Go.Proofs.Ytecfdemglbfnoaa.PT Go.Proofs.YtecfdemglbfnoaaW.PrintWords Go.Proofs.YtecfdemglbfnoaaW.PrintLast Go.Proofs.YtecfdemglbfnoaaW.PrintMore
theorem Ev_pos {α : Type} {c : Prop} [Decidable c] {f g : Nat → Option α} {r : α} (h : c) (k : Ev f r) : Ev (fun n => if c then f n else g n) r := Ev.congr (fun _ => if_pos h) k
theorem Ev_neg {α : Type} {c : Prop} [Decidable c] {f g : Nat → Option α} {r : α} (h : ¬ c) (k : Ev g r) : Ev (fun n => if c then f n else g n) r := Ev.congr (fun _ => if_neg h) k
theorem two_pw (n : Nat) : pw n = 2 ^ (32 * n) := by rw [pw_eq, Nat.pow_mul]
theorem sz_lb {v M : Nat} (hl : (lb v).length = M + 1) {t : Nat} (et : rd (lb v) (M : Int) = (t : Int)) (h0 : v ≠ 0) : sz v = 32 * M + sz t := by
  have h1 := top_val hl et
  rw [valn_lb] at h1
  have h2 := take_lt' (U_lb v) M
  have ht : t ≠ 0 := by
    intro h
    have h3 := rd_lb_last h0
    rw [hl, Nat.add_sub_cancel, et, h] at h3
    exact h3 rfl
  have e : v / 2 ^ (32 * M) = t := by
    rw [← two_pw, h1, Nat.add_mul_div_left _ _ (pw_pos M), Nat.div_eq_of_lt h2, Nat.zero_add]
  rw [sz_div (n := v) (k := 32 * M) (by rw [e]; exact ht), e]
theorem Bits_f {l : List Int} (ul : U l) (hl : l.length ≤ 100000000) : Ev (fun k => nat_Bits.f k l) ((sz (valn l) : Nat) : Int) := by
  have hs := short_f ul (by omega)
  have hL := lb_len ul
  generalize valn l = v at *
  by_cases h0 : v = 0
  · subst h0
    rw [lb_zero] at hs
    exact Ev.bind hs (Ev.now _)
  · obtain ⟨M, hM⟩ : ∃ M, (lb v).length = M + 1 := ⟨(lb v).length - 1, by
      have : (lb v).length ≠ 0 := fun h => h0 (lb_eq_nil.mp (List.length_eq_zero_iff.mp h))
      omega⟩
    obtain ⟨t, et, ht⟩ := rd_nat (U_lb v) (M : Int)
    have hz := sz_lb hM et h0
    have ht32 : sz t ≤ 32 := sz_le (b := 32) ht
    have c : ¬ (((M + 1 : Nat) : Int) = 0) ∧ (0 : Int) ≤ (M : Int) ∧ (M : Int) < ((M + 1 : Nat) : Int) ∧ M < 9223372036854775807 ∧ (32 : Int) * (M : Int) = ((32 * M : Nat) : Int) := by omega
    have ws : wrap64 (((M + 1 : Nat) : Int) - 1) = (M : Int) ∧ wrap64 ((32 * M : Nat) : Int) = ((32 * M : Nat) : Int) ∧ wrap64 (((32 * M : Nat) : Int) + ((sz t : Nat) : Int)) = ((32 * M + sz t : Nat) : Int) := ⟨dn M c.2.2.2.1, w64 (by omega) (by omega), by rw [w64 (by omega) (by omega)]; rfl⟩
    refine Ev.bind hs (Ev.congr (f := fun _ => some ((sz v : Nat) : Int)) (fun k => ?_) (Ev.now _))
    rw [hM, if_neg c.1, ws.1, if_pos c.2.1, if_pos c.2.2.1, et, Len32_f t ht, Option.bind_some, c.2.2.2.2, ws.2.1, ws.2.2, hz]
theorem mod32 (r : Nat) : r * 4294967296 % 2 ^ 32 = 0 := by rw [show (2 : Nat) ^ 32 = 4294967296 from rfl]; exact Nat.mul_mod_left ..
theorem or_rx {r x : Nat} (hr : r < 4294967296) (hx : x < 4294967296) : Go.bits .or .u64 (IntKind.u64.wrap ((r : Int) * 4294967296)) (IntKind.u64.wrap (x : Int)) = ((r * 4294967296 + x : Nat) : Int) := by
  have e : (r : Int) * 4294967296 = ((r * 4294967296 : Nat) : Int) := by simp
  rw [e, u64 (x := ((r * 4294967296 : Nat) : Int)) (by omega) (by omega), u64 (x := (x : Int)) (by omega) (by omega), or64 32 _ _ (mod32 r) (by omega) hx (by omega)]
theorem digit_l0 {a : List Int} (ua : U a) {b : Nat} (hb : 0 < b) (hb' : b < 4294967296) (hs : a.length ≤ 100000000) : ∀ (j : Nat) (out : List Int) (r : Nat), j ≤ a.length → out.length = a.length → U out → r = valn (a.drop j) % b → valn (out.drop j) = valn (a.drop j) / b →
    Ev (fun k => nat_digit.l0 k a (b : Int) out (r : Int) ((j : Int) - 1)) (lb (valn a / b), ((valn a % b : Nat) : Int)) := by
  intro j
  induction j with
  | zero =>
    intro out r _ hout uo hr hv
    rw [List.drop_zero] at hr hv
    rw [List.drop_zero] at hv
    have hsh := short_f uo (by omega)
    rw [hv] at hsh
    refine Ev_succ ?_
    refine Ev.congr (fun k => ?_) (Ev.bind (f := fun _ x => some (x, ((valn a % b : Nat) : Int))) hsh (Ev.now _))
    simp only [nat_digit.l0]
    have hrb : r < b := by rw [hr]; exact Nat.mod_lt _ hb
    have e : (r : Int) % 4294967296 = (r : Int) := by omega
    rw [if_neg (by omega), e, hr]
  | succ j ih =>
    intro out r hj hout uo hr hv
    obtain ⟨x, ex, hx⟩ := rd_nat ua (j : Int)
    have hrb : r < b := by rw [hr]; exact Nat.mod_lt _ hb
    have hd := valn_drop_rd a j
    rw [ex, Int.toNat_natCast] at hd
    have key : valn (a.drop j) = (r * 4294967296 + x) + b * (4294967296 * (valn (a.drop (j + 1)) / b)) := by
      have h1 := Nat.div_add_mod (valn (a.drop (j + 1))) b
      rw [← hr] at h1
      have h2 : b * (4294967296 * (valn (a.drop (j + 1)) / b)) = 4294967296 * (b * (valn (a.drop (j + 1)) / b)) := by ac_rfl
      rw [hd, h2]
      generalize b * (valn (a.drop (j + 1)) / b) = y at *
      omega
    have hrx : r * 4294967296 + x < b * 4294967296 := by
      have : (r + 1) * 4294967296 ≤ b * 4294967296 := Nat.mul_le_mul_right _ hrb
      omega
    have hq : (r * 4294967296 + x) / b < 4294967296 := (Nat.div_lt_iff_lt_mul hb).mpr (by rw [Nat.mul_comm 4294967296 b]; exact hrx)
    have k1 : valn (a.drop j) % b = (r * 4294967296 + x) % b := by rw [key, Nat.add_mul_mod_self_left]
    have k2 : valn (a.drop j) / b = (r * 4294967296 + x) / b + 4294967296 * (valn (a.drop (j + 1)) / b) := by rw [key, Nat.add_mul_div_left _ _ hb]
    obtain ⟨D, hD⟩ : ∃ D, (r * 4294967296 + x) / b = D := ⟨_, rfl⟩
    rw [hD] at hq k2
    have step := ih (out.set j (D : Int)) ((r * 4294967296 + x) % b) (by omega) (by rw [List.length_set]; exact hout) (U_set uo ⟨Int.natCast_nonneg _, by omega⟩ _) k1.symm (by
      rw [valn_drop_rd, rd_set_eq _ _ _ (by omega), Int.toNat_natCast, List.drop_set_of_lt (by omega), hv, k2])
    have rx64 : r * 4294967296 + x < 18446744073709551616 := by omega
    have et : Go.bits .or .u64 (IntKind.u64.wrap ((r : Int) * 4294967296)) (IntKind.u64.wrap (rd a (j : Int))) = ((r * 4294967296 + x : Nat) : Int) := by rw [ex]; exact or_rx (Nat.lt_trans hrb hb') hx
    have eb : IntKind.u64.wrap (b : Int) = (b : Int) := u64 (by omega) (by omega)
    have eD : IntKind.u64.wrap ((D : Nat) : Int) % 4294967296 = (D : Int) := by rw [u64 (by omega) (by omega)]; omega
    have ej : ((j + 1 : Nat) : Int) - 1 = (j : Int) := by omega
    have c : (j : Int) ≥ 0 ∧ (0 : Int) ≤ (j : Int) ∧ (j : Int) < (a.length : Int) ∧ ¬ ((b : Int) = 0) ∧ (j : Int) < (out.length : Int) := by omega
    have wj : wrap64 ((j : Int) - 1) = (j : Int) - 1 := w64 (by omega) (by omega)
    refine Ev_succ (Ev.congr (fun k => ?_) step)
    rw [nat_digit.l0, ej, if_pos c.1, if_pos c.2.1, if_pos c.2.2.1, eb, if_neg c.2.2.2.1, if_pos c.2.2.2.2, et, tdiv_cast, tmod_cast, hD, eD, wj, Int.toNat_natCast]
theorem digit_f {a : List Int} (ua : U a) {b : Nat} (hb : 0 < b) (hb' : b < 4294967296) (hs : a.length ≤ 100000000) : Ev (fun k => nat_digit.f k a (b : Int)) (lb (valn a / b), ((valn a % b : Nat) : Int)) := by
  have h := digit_l0 ua hb hb' hs a.length (List.replicate a.length 0) 0 (Nat.le_refl _) (by simp) (U_replicate _) (by rw [List.drop_eq_nil_of_le (Nat.le_refl _), valn_nil, Nat.zero_mod]) (by
    rw [show (List.replicate a.length (0 : Int)).drop a.length = [] from List.drop_eq_nil_of_le (by rw [List.length_replicate]; exact Nat.le_refl _), List.drop_eq_nil_of_le (Nat.le_refl _), valn_nil, Nat.zero_div])
  refine Ev.congr (fun k => ?_) h
  have c : (0 : Int) ≤ (a.length : Int) ∧ a.length ≤ 70368744177664 := by omega
  have wj : wrap64 ((a.length : Int) - 1) = (a.length : Int) - 1 := w64 (by omega) (by omega)
  unfold nat_digit.f
  rw [if_pos c.1, Int.toNat_natCast, if_pos c.2, wj]; rfl
theorem DivMod_f {a b : List Int} (ua : U a) (ub : U b) (la : a.length ≤ 1000000) (lb' : b.length ≤ 1000000) (h0 : valn b ≠ 0) :
    Ev (fun k => nat_DivMod.f k a b) (lb (valn a / valn b), lb (valn a % valn b), 0) := by
  have hsa := short_f ua (by omega)
  have hsb := short_f ub (by omega)
  have ha := lb_len ua
  have hb := lb_len ub
  generalize valn a = m at *
  generalize valn b = n at *
  have hn : (lb n).length ≠ 0 := fun h => h0 (lb_eq_nil.mp (List.length_eq_zero_iff.mp h))
  have hc := Cmp_f (U_lb m) (U_lb n) (by omega) (by omega)
  rw [valn_lb, valn_lb] at hc
  refine Ev.bind hsa (Ev.bind hsb ?_)
  have c0 : ¬ (((lb n).length : Int) = 0) := by omega
  by_cases hlt : m < n
  · have h1 : cmpn m n = -1 := by unfold cmpn; rw [if_pos hlt]
    rw [h1] at hc
    have ht := Trim_f (U_lb m) (by omega)
    rw [valn_lb] at ht
    refine Ev_neg c0 (Ev.bind hc (Ev_pos (by decide) (Ev.bind ht ?_)))
    rw [Nat.div_eq_of_lt hlt, Nat.mod_eq_of_lt hlt, lb_zero]; exact Ev.now _
  · have h1 : ¬ cmpn m n < 0 := by unfold cmpn; rw [if_neg hlt]; split <;> omega
    refine Ev_neg c0 (Ev.bind hc (Ev_neg h1 ?_))
    by_cases h2 : (lb n).length = 1
    · obtain ⟨t, et, ht⟩ := rd_nat (U_lb n) ((0 : Nat) : Int)
      have en : n = t := by
        have h3 := top_val (M := 0) h2 et
        rw [valn_lb, List.take_zero, valn_nil, pw_zero] at h3; omega
      have hd := digit_f (U_lb m) (b := t) (by omega) ht (by omega)
      rw [valn_lb, ← en] at hd
      have c2 : ((lb n).length : Int) = 1 ∧ (0 : Int) < ((lb n).length : Int) := by omega
      have et' : rd (lb n) 0 = (n : Int) := by rw [en]; rw [en] at et; exact et
      have hr : m % n < n := Nat.mod_lt _ (Nat.pos_of_ne_zero h0)
      have eo : IntKind.u64.wrap ((m % n : Nat) : Int) = ((m % n : Nat) : Int) := u64 (Int.natCast_nonneg _) (by omega)
      have ho := Of_f (m % n) (by omega)
      refine Ev_pos c2.1 (Ev_pos c2.2 ?_)
      rw [et']
      refine Ev.bind hd ?_
      rw [eo]
      exact Ev.bind ho (Ev.now _)
    · have c2 : ¬ ((lb n).length : Int) = 1 := by omega
      have hle : (lb n).length ≤ (lb m).length := by
        by_cases c : (lb n).length ≤ (lb m).length
        · exact c
        · exact absurd (len_lt_of_lt (by omega)) hlt
      have hl : nat_long.f (lb m) (lb n) = some (padn ((lb m).length + 1 - (lb n).length) (m / n), padn (lb n).length (m % n)) := by
        unfold nat_long.f
        rw [if_pos ⟨by omega, hle, by rw [← rd_getLastD]; exact rd_lb_last h0, U_lb m, U_lb n, by omega⟩, valn_lb, valn_lb]
      have hm := lt_pow_len m
      have hnl := lt_pow_len n
      have hq : m / n < pw ((lb m).length + 1 - (lb n).length) := by
        have h3 := pow_len_le h0
        have h4 : (lb m).length = ((lb n).length - 1) + ((lb m).length + 1 - (lb n).length) := by omega
        rw [h4, pw_add] at hm
        refine (Nat.div_lt_iff_lt_mul (Nat.pos_of_ne_zero h0)).mpr (Nat.lt_of_lt_of_le hm ?_)
        rw [Nat.mul_comm]; exact Nat.mul_le_mul_left _ h3
      have hr : m % n < pw (lb n).length := Nat.lt_trans (Nat.mod_lt _ (Nat.pos_of_ne_zero h0)) hnl
      have t1 := Trim_f (U_padn ((lb m).length + 1 - (lb n).length) (m / n)) (by rw [padn_len]; omega)
      have t2 := Trim_f (U_padn (lb n).length (m % n)) (by rw [padn_len]; omega)
      rw [valn_padn_lt hq] at t1
      rw [valn_padn_lt hr] at t2
      refine Ev_neg c2 ?_
      rw [hl]
      exact Ev.bind (Ev.now _) (Ev.bind t1 (Ev.bind t2 (Ev.now _)))
theorem Gcd_l0 : ∀ (n m : Nat), (lb m).length ≤ 1000000 → (lb n).length ≤ 1000000 → Ev (fun k => nat_Gcd.l0 k (lb m) (lb n)) (lb (Nat.gcd m n)) := by
  intro n
  induction n using Nat.strongRecOn with
  | _ n ih =>
    intro m hm hn
    refine Ev_succ ?_
    simp only [nat_Gcd.l0]
    by_cases h0 : n = 0
    · subst h0
      have ht := Trim_f (U_lb m) (by omega)
      rw [valn_lb] at ht
      have c : ¬ (((lb 0).length : Int) > 0) := by rw [lb_zero]; decide
      rw [Nat.gcd_zero_right]
      exact Ev_neg c (Ev.bind ht (Ev.now _))
    · have hl : (lb n).length ≠ 0 := fun h => h0 (lb_eq_nil.mp (List.length_eq_zero_iff.mp h))
      have c : ((lb n).length : Int) > 0 := by omega
      have hd := DivMod_f (U_lb m) (U_lb n) hm hn (by rw [valn_lb]; exact h0)
      rw [valn_lb, valn_lb] at hd
      have hr : m % n < n := Nat.mod_lt _ (Nat.pos_of_ne_zero h0)
      have hlr : (lb (m % n)).length ≤ 1000000 := Nat.le_trans (lb_len_le (Nat.lt_trans hr (lt_pow_len n))) hn
      refine Ev_pos c (Ev.bind hd ?_)
      rw [Nat.gcd_comm, Nat.gcd_rec, Nat.gcd_comm]
      exact ih (m % n) hr n hn hlr
theorem Gcd_f {a b : List Int} (ua : U a) (ub : U b) (la : a.length ≤ 1000000) (lb' : b.length ≤ 1000000) : Ev (fun k => nat_Gcd.f k a b) (lb (Nat.gcd (valn a) (valn b))) :=
  Ev.bind (short_f ua (by omega)) (Ev.bind (short_f ub (by omega)) (Gcd_l0 _ _ (Nat.le_trans (lb_len ua) la) (Nat.le_trans (lb_len ub) lb')))
theorem Ev_as {α : Type} {g : Nat → Option α} {a b : α} (h : Ev g a) (e : a = b) : Ev g b := e ▸ h
theorem lb_len_zero {n : Nat} : (lb n).length = 0 ↔ n = 0 := by rw [List.length_eq_zero_iff, lb_eq_nil]
theorem rZero_f {l : List Int} (ul : U l) (hl : l.length < 35184372088832) : Ev (fun k => codewrightref01_Zero.f k l) (decide (valn l = 0)) := by
  refine Ev.bind (rTrim_f ul hl) (Ev_as (Ev.now _) ?_)
  by_cases h : valn l = 0
  · rw [h, lb_zero]; rfl
  · rw [decide_eq_false h]
    have := mt lb_len_zero.mp h
    exact beq_eq_false_iff_ne.mpr (by omega)
theorem snoc_val (z : List Int) (d : Int) : valn (z ++ [d]) = valn z + pw z.length * d.toNat := by
  rw [valn_append, valn_cons, valn_nil]; simp
theorem U_snoc {z : List Int} (uz : U z) {d : Int} (h : 0 ≤ d ∧ d < 4294967296) : U (z ++ [d]) := U_append uz (U_cons h U_nil)
theorem sub_num {x y c : Nat} (hx : x < 4294967296) (hy : y < 4294967296) (hc : c ≤ 1) :
    ∃ d h : Nat, d < 4294967296 ∧ h ≤ 1 ∧ x + 4294967296 * h = d + y + c ∧
      Int.tmod (IntKind.u64.wrap (IntKind.u64.wrap (IntKind.u64.wrap ((x : Int) + 4294967296) - (y : Int)) - (c : Int))) 4294967296 % 4294967296 = (d : Int) ∧
      IntKind.u64.wrap (1 - IntKind.u64.wrap (Int.tdiv (IntKind.u64.wrap (IntKind.u64.wrap (IntKind.u64.wrap ((x : Int) + 4294967296) - (y : Int)) - (c : Int))) 4294967296)) = (h : Int) := by
  have e1 : (x : Int) + 4294967296 = ((x + 4294967296 : Nat) : Int) := by omega
  have e2 : ((x + 4294967296 : Nat) : Int) - (y : Int) = ((x + 4294967296 - y : Nat) : Int) := by omega
  have e3 : ((x + 4294967296 - y : Nat) : Int) - (c : Int) = ((x + 4294967296 - y - c : Nat) : Int) := by omega
  have w1 : IntKind.u64.wrap ((x + 4294967296 : Nat) : Int) = ((x + 4294967296 : Nat) : Int) ∧ IntKind.u64.wrap ((x + 4294967296 - y : Nat) : Int) = ((x + 4294967296 - y : Nat) : Int) ∧ IntKind.u64.wrap ((x + 4294967296 - y - c : Nat) : Int) = ((x + 4294967296 - y - c : Nat) : Int) :=
    ⟨u64 (by omega) (by omega), u64 (by omega) (by omega), u64 (by omega) (by omega)⟩
  rw [e1, w1.1, e2, w1.2.1, e3, w1.2.2, tmod_nat, tdiv_nat]
  obtain ⟨s, hs⟩ : ∃ s, x + 4294967296 - y - c = s := ⟨_, rfl⟩
  rw [hs]
  clear w1 e1 e2 e3
  have b1 : s / 4294967296 ≤ 1 := by omega
  have w2 : IntKind.u64.wrap ((s / 4294967296 : Nat) : Int) = ((s / 4294967296 : Nat) : Int) ∧ IntKind.u64.wrap ((1 - s / 4294967296 : Nat) : Int) = ((1 - s / 4294967296 : Nat) : Int) := ⟨u64 (by omega) (by omega), u64 (by omega) (by omega)⟩
  have e4 : (1 : Int) - ((s / 4294967296 : Nat) : Int) = ((1 - s / 4294967296 : Nat) : Int) := by omega
  refine ⟨s % 4294967296, 1 - s / 4294967296, by omega, by omega, by omega, by omega, ?_⟩
  rw [w2.1, e4, w2.2]
theorem rSub_l0 {a b : List Int} (ua : U a) (ub : U b) (hs : a.length ≤ 100000000) (hle : valn b ≤ valn a) (n : Nat) : ∀ (i : Nat) (z : List Int) (c : Nat), i + n = a.length → z.length = i → U z → c ≤ 1 →
    valn (a.take i) + pw i * c = valn z + valn (b.take i) → Ev (fun k => codewrightref01_Sub.l0 k a b z (c : Int) (i : Int)) (lb (valn a - valn b)) := by
  induction n with
  | zero =>
    intro i z c hi hz uz hc hv
    obtain rfl : i = a.length := by omega
    have hzl := valn_lt uz
    rw [hz] at hzl
    have va := valn_lt ua
    rw [List.take_of_length_le (Nat.le_refl _)] at hv
    have hb : valn (b.take a.length) = valn b := by
      have h1 := valn_splitD b a.length
      rcases Nat.eq_zero_or_pos (valn (b.drop a.length)) with h | h
      · rw [h] at h1; omega
      · exfalso
        have := Nat.mul_le_mul_left (pw a.length) h
        omega
    rw [hb] at hv
    have key : valn z = valn a - valn b := by
      rcases Nat.eq_zero_or_pos c with h | h
      · subst h; omega
      · obtain rfl : c = 1 := by omega
        omega
    have ht := rTrim_f uz (by omega)
    rw [key] at ht
    have c1 : ¬ ((a.length : Int) < (a.length : Int)) := by omega
    refine Ev_succ ?_
    simp only [codewrightref01_Sub.l0]
    exact Ev_neg c1 (Ev.bind ht (Ev.now _))
  | succ n ih =>
    intro i z c hi hz uz hc hv
    obtain ⟨x, ex, hx⟩ := rd_nat ua (i : Int)
    obtain ⟨y, ey, hy⟩ := rd_nat ub (i : Int)
    obtain ⟨d, h, hd, hh, heq, e1, e2⟩ := sub_num hx hy hc
    have step := ih (i + 1) (z ++ [(d : Int)]) h (by omega) (by simp [hz]) (U_snoc uz (by omega)) hh (by
      rw [snoc_val, hz, valn_take_succ, valn_take_succ, ex, ey, Int.toNat_natCast, Int.toNat_natCast, Int.toNat_natCast, pw_succ]
      have h3 : pw i * (x + 4294967296 * h) = pw i * (d + y + c) := by rw [heq]
      rw [Nat.mul_add, Nat.mul_add, Nat.mul_add, ← Nat.mul_assoc] at h3
      omega)
    have c1 : (i : Int) < (a.length : Int) ∧ z.length < 35184372088832 := by omega
    have wi : wrap64 ((i : Int) + 1) = ((i + 1 : Nat) : Int) := up i (by omega)
    refine Ev_succ ?_
    simp only [codewrightref01_Sub.l0, limb_f ua, limb_f ub, Option.bind_some]
    refine Ev_pos c1.1 (Ev_pos c1.2 ?_)
    rw [ex, ey, e1, e2, wi]; exact step
theorem rSub_f {a b : List Int} (ua : U a) (ub : U b) (hs : a.length ≤ 100000000) (hle : valn b ≤ valn a) : Ev (fun k => codewrightref01_Sub.f k a b) (lb (valn a - valn b)) :=
  rSub_l0 ua ub hs hle a.length 0 [] 0 (by omega) rfl U_nil (by omega) (by rw [List.take_zero, List.take_zero, Nat.mul_zero, valn_nil])
theorem sz_half {x : Nat} (h : x ≠ 0) : sz x = sz (x / 2) + 1 := by
  by_cases h1 : x / 2 = 0
  · obtain rfl : x = 1 := by omega
    rfl
  · rw [sz_div (n := x) (k := 1) h1]; exact Nat.add_comm _ _
theorem rBits_l0 (n : Nat) : ∀ (x s : Nat), x < 2 ^ n → n ≤ 32 → s + n ≤ 200000000000 → Ev (fun k => codewrightref01_Bits.l0 k (s : Int) (x : Int)) ((s + sz x : Nat) : Int) := by
  induction n with
  | zero =>
    intro x s hx _ _
    obtain rfl : x = 0 := by omega
    refine Ev_succ ?_
    simp only [codewrightref01_Bits.l0]
    exact Ev_neg (by omega) (Ev.now _)
  | succ n ih =>
    intro x s hx hn hs
    by_cases h0 : x = 0
    · subst h0
      refine Ev_succ ?_
      simp only [codewrightref01_Bits.l0]
      exact Ev_neg (by omega) (Ev.now _)
    · have hp : 2 ^ (n + 1) = 2 ^ n * 2 := Nat.pow_succ ..
      have h32 : 2 ^ (n + 1) ≤ 2 ^ 32 := Nat.pow_le_pow_right (by decide) hn
      have hx32 : x < 4294967296 := Nat.lt_of_lt_of_le hx h32
      have hx2 : x / 2 < 2 ^ n := by
        rw [hp] at hx
        exact (Nat.div_lt_iff_lt_mul (by decide)).mpr hx
      clear hp h32 hx
      have step := ih (x / 2) (s + 1) hx2 (by omega) (by clear hx2; omega)
      clear hx2
      have e : Int.tdiv (x : Int) 2 % 4294967296 = ((x / 2 : Nat) : Int) := by
        rw [show Int.tdiv (x : Int) 2 = ((x / 2 : Nat) : Int) from rfl]; omega
      have hz := sz_half h0
      refine Ev_succ ?_
      simp only [codewrightref01_Bits.l0]
      refine Ev_pos (by omega) ?_
      rw [e, up s (by omega), hz, show s + (sz (x / 2) + 1) = s + 1 + sz (x / 2) from by omega]
      exact step
theorem rBits_f {l : List Int} (ul : U l) (hl : l.length ≤ 100000000) : Ev (fun k => codewrightref01_Bits.f k l) ((sz (valn l) : Nat) : Int) := by
  have hs := rTrim_f ul (by omega)
  have hL := lb_len ul
  generalize valn l = v at *
  by_cases h0 : v = 0
  · subst h0
    rw [lb_zero] at hs
    exact Ev.bind hs (Ev.now _)
  · obtain ⟨M, hM⟩ : ∃ M, (lb v).length = M + 1 := ⟨(lb v).length - 1, by
      have : (lb v).length ≠ 0 := fun h => h0 (lb_len_zero.mp h)
      omega⟩
    obtain ⟨t, et, ht⟩ := rd_nat (U_lb v) (M : Int)
    have hz := sz_lb hM et h0
    have c : ¬ (((M + 1 : Nat) : Int) = 0) ∧ (0 : Int) ≤ (M : Int) ∧ (M : Int) < ((M + 1 : Nat) : Int) ∧ M < 9223372036854775807 ∧ (32 : Int) * (M : Int) = ((32 * M : Nat) : Int) ∧ 32 * M + 32 ≤ 200000000000 := by omega
    have w1 : wrap64 ((32 * M : Nat) : Int) = ((32 * M : Nat) : Int) := w64 (by omega) (by omega)
    have hb := rBits_l0 32 t (32 * M) ht (by omega) c.2.2.2.2.2
    rw [← hz] at hb
    refine Ev.bind hs ?_
    rw [hM, dn M c.2.2.2.1, c.2.2.2.2.1, w1, et]
    exact Ev_neg c.1 (Ev_pos c.2.1 (Ev_pos c.2.2.1 hb))
theorem shl_num {x r c : Nat} (hx : x < 4294967296) (hr : r ≤ 31) (hc : c < 2 ^ r) :
    ∃ d h : Nat, d < 4294967296 ∧ h < 2 ^ r ∧ x * 2 ^ r + c = d + 4294967296 * h ∧
      Int.tmod (IntKind.u64.wrap (shl .u64 (IntKind.u64.wrap (x : Int)) (r : Int) + (c : Int))) 4294967296 % 4294967296 = (d : Int) ∧
      IntKind.u64.wrap (Int.tdiv (IntKind.u64.wrap (shl .u64 (IntKind.u64.wrap (x : Int)) (r : Int) + (c : Int))) 4294967296) = (h : Int) := by
  have hp : 2 ^ r ≤ 2 ^ 31 := Nat.pow_le_pow_right (by decide) hr
  have hxp : x * 2 ^ r + 2 ^ r ≤ 4294967296 * 2 ^ r := by
    have : (x + 1) * 2 ^ r ≤ 4294967296 * 2 ^ r := Nat.mul_le_mul_right _ hx
    rwa [Nat.add_mul, Nat.one_mul] at this
  have e1 : IntKind.u64.wrap (x : Int) = (x : Int) := u64 (by omega) (by omega)
  rw [e1, shl64 x r hx hr]
  clear e1
  obtain ⟨y, hy⟩ : ∃ y, x * 2 ^ r = y := ⟨_, rfl⟩
  obtain ⟨q, hq⟩ : ∃ q, 2 ^ r = q := ⟨_, rfl⟩
  rw [hy, hq] at hxp
  rw [hq] at hp hc
  rw [hy, hq]
  clear hy hq
  have e2 : (y : Int) + (c : Int) = ((y + c : Nat) : Int) := by omega
  have b2 : y + c < 18446744073709551616 := by omega
  obtain ⟨s, hs⟩ : ∃ s, y + c = s := ⟨_, rfl⟩
  rw [hs] at e2 b2
  have e3 : IntKind.u64.wrap (s : Int) = (s : Int) ∧ IntKind.u64.wrap ((s / 4294967296 : Nat) : Int) = ((s / 4294967296 : Nat) : Int) := ⟨u64 (by omega) (by omega), u64 (by omega) (by omega)⟩
  rw [e2, e3.1, tmod_nat, tdiv_nat, e3.2]
  clear e3 e2
  exact ⟨s % 4294967296, s / 4294967296, by omega, by omega, by omega, by omega, rfl⟩
theorem rshift_l0 {a : List Int} (ua : U a) (hs : a.length ≤ 100000000) (m r : Nat) (hm : m ≤ 100000000) (hr : r ≤ 31) (n : Nat) : ∀ (i : Nat) (z : List Int) (c : Nat), i + n = a.length → z.length = m + i → U z → c < 2 ^ r →
    valn z + pw (m + i) * c = valn (a.take i) * (pw m * 2 ^ r) → Ev (fun k => codewrightref01_shift.l0 k a ((32 * m + r : Nat) : Int) z (c : Int) (i : Int)) (lb (valn a * (pw m * 2 ^ r))) := by
  have et : Int.tmod ((32 * m + r : Nat) : Int) 32 = (r : Int) := by
    rw [show Int.tmod ((32 * m + r : Nat) : Int) 32 = (((32 * m + r) % 32 : Nat) : Int) from rfl]; omega
  have hp : 2 ^ r ≤ 2 ^ 31 := Nat.pow_le_pow_right (by decide) hr
  induction n with
  | zero =>
    intro i z c hi hz uz hc hv
    obtain rfl : i = a.length := by omega
    rw [List.take_of_length_le (Nat.le_refl _)] at hv
    have hc4 : c < 4294967296 := by omega
    have ht := rTrim_f (U_snoc uz (d := (c : Int)) (by omega)) (by rw [List.length_append, hz]; simp only [List.length_cons, List.length_nil]; omega)
    rw [snoc_val, hz, Int.toNat_natCast, hv] at ht
    have c1 : ¬ ((a.length : Int) < (a.length : Int)) ∧ z.length < 35184372088832 ∧ (c : Int) % 4294967296 = (c : Int) := by omega
    refine Ev_succ ?_
    simp only [codewrightref01_shift.l0]
    refine Ev_neg c1.1 (Ev_pos c1.2.1 ?_)
    rw [c1.2.2]
    exact Ev.bind ht (Ev.now _)
  | succ n ih =>
    intro i z c hi hz uz hc hv
    obtain ⟨x, ex, hx⟩ := rd_nat ua (i : Int)
    obtain ⟨d, h, hd, hh, heq, e1, e2⟩ := shl_num hx hr hc
    have step := ih (i + 1) (z ++ [(d : Int)]) h (by omega) (by simp [hz]; omega) (U_snoc uz (by omega)) hh (by
      rw [snoc_val, hz, valn_take_succ, ex, Int.toNat_natCast, Int.toNat_natCast, ← Nat.add_assoc, pw_succ, Nat.add_mul, ← hv]
      have h3 : pw (m + i) * (x * 2 ^ r + c) = pw (m + i) * (d + 4294967296 * h) := by rw [heq]
      rw [Nat.mul_add, Nat.mul_add, ← Nat.mul_assoc (pw (m + i)) 4294967296] at h3
      have h4 : pw i * x * (pw m * 2 ^ r) = pw (m + i) * (x * 2 ^ r) := by rw [pw_add]; ac_rfl
      rw [h4]
      omega)
    have c1 : (i : Int) < (a.length : Int) ∧ (0 : Int) ≤ (i : Int) ∧ (0 : Int) ≤ (r : Int) ∧ z.length < 35184372088832 := by
      clear hv hh heq hp hc
      omega
    have wi : wrap64 ((i : Int) + 1) = ((i + 1 : Nat) : Int) := up i (by clear hv hh heq hp hc; omega)
    refine Ev_succ ?_
    simp only [codewrightref01_shift.l0, et]
    refine Ev_pos c1.1 (Ev_pos c1.2.1 (Ev_pos c1.2.2.1 (Ev_pos c1.2.2.2 ?_)))
    rw [ex, e1, e2, wi]; exact step
theorem rshift_f {a : List Int} (ua : U a) (hs : a.length ≤ 100000000) (n : Nat) (hn : n ≤ 3200000000) : Ev (fun k => codewrightref01_shift.f k a (n : Int)) (lb (valn a * 2 ^ n)) := by
  obtain ⟨m, r, hr, e⟩ : ∃ m r, r ≤ 31 ∧ n = 32 * m + r := ⟨n / 32, n % 32, by omega, by omega⟩
  subst e
  have h := rshift_l0 ua hs m r (by omega) hr a.length 0 (List.replicate m 0) 0 (by omega) (by simp) (U_replicate _) (Nat.two_pow_pos r) (by rw [valn_replicate, List.take_zero, valn_nil, Nat.mul_zero, Nat.zero_mul])
  rw [two_pw, ← Nat.pow_add] at h
  have ed : Int.tdiv ((32 * m + r : Nat) : Int) 32 = (m : Int) := by
    rw [show Int.tdiv ((32 * m + r : Nat) : Int) 32 = (((32 * m + r) / 32 : Nat) : Int) from rfl]; omega
  have wm : wrap64 (m : Int) = (m : Int) := w64 (by omega) (by omega)
  have c : (0 : Int) ≤ (m : Int) ∧ m ≤ 70368744177664 := by omega
  refine Ev.congr (fun k => ?_) h
  unfold codewrightref01_shift.f
  rw [ed, wm, if_pos c.1, Int.toNat_natCast, if_pos c.2]; rfl
theorem pow_lt_pw {n m : Nat} (h : n < 32 * m) : 2 ^ n < pw m := by rw [two_pw]; exact (Nat.pow_lt_pow_iff_right (by decide)).mpr h
theorem sz_le_pw {x m : Nat} (h : x < pw m) : sz x ≤ 32 * m := sz_le (by rw [← two_pw]; exact h)
theorem rDiv_l0 {b : List Int} (ub : U b) (hb0 : valn b ≠ 0) (L S : Nat) (hL : L ≤ 1000000) (lb' : b.length ≤ L) (hS : S < pw L) : ∀ (i Q R : Nat), i ≤ 32 * L → S = Q * valn b + R → R < valn b * 2 ^ i →
    Ev (fun k => codewrightref01_DivMod.l0 k b (lb Q) (lb R) ((i : Int) - 1)) (lb (S / valn b), lb (S % valn b)) := by
  have hvb := Nat.pos_of_ne_zero hb0
  intro i
  induction i with
  | zero =>
    intro Q R _ hQ hR
    rw [Nat.pow_zero, Nat.mul_one] at hR
    have hq := quo_of (u := S) (v := valn b) (q := Q) (by omega) (by omega)
    have hr : S % valn b = R := by rw [hq.2]; omega
    have hQS : Q ≤ S := by
      have : Q * 1 ≤ Q * valn b := Nat.mul_le_mul_left _ hvb
      omega
    have hlQ := lb_len_le (Nat.lt_of_le_of_lt hQS hS)
    have ht := rTrim_f (U_lb Q) (by omega)
    rw [valn_lb] at ht
    rw [hq.1, hr]
    refine Ev_succ ?_
    simp only [codewrightref01_DivMod.l0]
    exact Ev_neg (by omega) (Ev.bind ht (Ev.now _))
  | succ i ih =>
    intro Q R hi hQ hR
    have hQS : Q ≤ S := by
      have : Q * 1 ≤ Q * valn b := Nat.mul_le_mul_left _ hvb
      omega
    have hRS : R ≤ S := by omega
    have hlQ := lb_len_le (Nat.lt_of_le_of_lt hQS hS)
    have hlR := lb_len_le (Nat.lt_of_le_of_lt hRS hS)
    have hsh := rshift_f ub (by omega) i (by omega)
    have htb : valn b * 2 ^ i < pw (2 * L + 1) := by
      have h1 : 2 ^ i < pw (L + 1) := pow_lt_pw (by omega)
      have h2 := Nat.lt_of_lt_of_le (valn_lt ub) (pw_mono lb')
      rw [show 2 * L + 1 = L + (L + 1) from by omega, pw_add]
      exact Nat.mul_lt_mul'' h2 h1
    have hlt := lb_len_le htb
    have hc := rCmp_f (U_lb R) (U_lb (valn b * 2 ^ i)) (by omega) (by omega)
    have h1s := rshift_f (a := [1]) (U_cons (by decide) U_nil) (by simp) i (by omega)
    have hone : valn [1] * 2 ^ i = 2 ^ i := by rw [show valn [1] = 1 from rfl, Nat.one_mul]
    rw [hone] at h1s
    have hp2 : R < valn b * 2 ^ i * 2 := by rw [Nat.mul_assoc, ← Nat.pow_succ]; exact hR
    rw [valn_lb, valn_lb] at hc
    have ci : ((i + 1 : Nat) : Int) - 1 = (i : Int) ∧ (i : Int) ≥ 0 := by omega
    have wi : wrap64 ((i : Int) - 1) = (i : Int) - 1 := w64 (by omega) (by omega)
    obtain ⟨T, hT⟩ : ∃ T, valn b * 2 ^ i = T := ⟨_, rfl⟩
    have h1l : (lb (2 ^ i)).length ≤ L + 1 := lb_len_le (pow_lt_pw (by omega))
    refine Ev_succ ?_
    simp only [codewrightref01_DivMod.l0, ci.1]
    refine Ev_pos ci.2 (Ev.bind hsh (Ev.bind hc ?_))
    rw [wi]
    rw [hT] at hp2 ⊢
    by_cases hge : T ≤ R
    · have c1 : cmpn R T ≥ 0 := by unfold cmpn; rw [if_neg (by omega)]; split <;> omega
      have hsub := rSub_f (U_lb R) (U_lb T) (by omega) (by rw [valn_lb, valn_lb]; exact hge)
      have hadd := rAdd_f (U_lb Q) (U_lb (2 ^ i)) (by omega) (by omega)
      rw [valn_lb, valn_lb] at hsub hadd
      refine Ev_pos c1 (Ev.bind hsub (Ev.bind h1s (Ev.bind hadd ?_)))
      refine ih (Q + 2 ^ i) (R - T) (by omega) ?_ (by rw [hT]; omega)
      rw [Nat.add_mul, Nat.mul_comm (2 ^ i), hT]; omega
    · have c1 : ¬ cmpn R T ≥ 0 := by unfold cmpn; rw [if_pos (by omega)]; decide
      refine Ev_neg c1 (ih Q R (by omega) hQ (by rw [hT]; omega))
theorem rDivMod_f {a b : List Int} (ua : U a) (ub : U b) (la : a.length ≤ 1000000) (lb' : b.length ≤ 1000000) (h0 : valn b ≠ 0) :
    Ev (fun k => codewrightref01_DivMod.f k a b) (lb (valn a / valn b), lb (valn a % valn b)) := by
  have ht := rTrim_f ua (by omega)
  have ha := rBits_f ua (by omega)
  have hb := rBits_f ub (by omega)
  have hS := Nat.lt_of_lt_of_le (valn_lt ua) (pw_mono la)
  have hB := Nat.lt_of_lt_of_le (valn_lt ub) (pw_mono lb')
  have sa := sz_le_pw hS
  have sb := sz_le_pw hB
  have s1 := sz_pos h0
  refine Ev.bind ht (Ev.bind ha (Ev.bind hb ?_))
  by_cases c : sz (valn b) ≤ sz (valn a)
  · have e : ((sz (valn a) : Nat) : Int) - ((sz (valn b) : Nat) : Int) = ((sz (valn a) - sz (valn b) + 1 : Nat) : Int) - 1 := by omega
    have w : wrap64 (((sz (valn a) - sz (valn b) + 1 : Nat) : Int) - 1) = ((sz (valn a) - sz (valn b) + 1 : Nat) : Int) - 1 := w64 (by omega) (by omega)
    have hlt : valn a < valn b * 2 ^ (sz (valn a) - sz (valn b) + 1) := by
      have h1 := lt_sz (valn a)
      have h2 := (sz_spec h0).1
      have h3 : 2 ^ sz (valn a) = 2 ^ (sz (valn b) - 1) * 2 ^ (sz (valn a) - sz (valn b) + 1) := by rw [← Nat.pow_add]; congr 1; omega
      rw [h3] at h1
      exact Nat.lt_of_lt_of_le h1 (Nat.mul_le_mul_right _ h2)
    have hm := rDiv_l0 ub h0 1000000 (valn a) (by omega) lb' hS (sz (valn a) - sz (valn b) + 1) 0 (valn a) (by omega) (by omega) hlt
    rw [lb_zero] at hm
    rw [e, w]; exact hm
  · have e : wrap64 (((sz (valn a) : Nat) : Int) - ((sz (valn b) : Nat) : Int)) = ((sz (valn a) : Nat) : Int) - ((sz (valn b) : Nat) : Int) := w64 (by omega) (by omega)
    have c1 : ¬ ((sz (valn a) : Nat) : Int) - ((sz (valn b) : Nat) : Int) ≥ 0 := by omega
    have hlt : valn a < valn b := by
      by_cases h : valn a < valn b
      · exact h
      · exfalso
        have h1 := (sz_spec h0).1
        have h2 : 2 ^ sz (valn a) ≤ 2 ^ (sz (valn b) - 1) := Nat.pow_le_pow_right (by decide) (by omega)
        have h3 := lt_sz (valn a)
        omega
    have ht0 := rTrim_f U_nil (by simp)
    rw [valn_nil, lb_zero] at ht0
    rw [e, Nat.div_eq_of_lt hlt, Nat.mod_eq_of_lt hlt, lb_zero]
    refine Ev_succ ?_
    simp only [codewrightref01_DivMod.l0]
    exact Ev_neg c1 (Ev.bind ht0 (Ev.now _))
theorem rGcd_f : ∀ (n : Nat) {a b : List Int}, valn b = n → U a → U b → a.length ≤ 1000000 → b.length ≤ 1000000 → Ev (fun k => codewrightref01_Gcd.l0 k a b) (lb (Nat.gcd (valn a) (valn b))) := by
  intro n
  induction n using Nat.strongRecOn with
  | _ n ih =>
    intro a b hn ua ub la lb'
    have hz := rZero_f ub (by omega)
    refine Ev_succ ?_
    simp only [codewrightref01_Gcd.l0]
    by_cases h0 : valn b = 0
    · have ht := rTrim_f ua (by omega)
      rw [decide_eq_true h0] at hz
      rw [h0, Nat.gcd_zero_right]
      exact Ev.bind hz (Ev_pos rfl (Ev.bind ht (Ev.now _)))
    · have hd := rDivMod_f ua ub la lb' h0
      rw [decide_eq_false h0] at hz
      have hr : valn a % valn b < valn b := Nat.mod_lt _ (Nat.pos_of_ne_zero h0)
      refine Ev.bind hz (Ev_neg (by decide) (Ev.bind hd ?_))
      have := ih (valn a % valn b) (by omega) (a := b) (b := lb (valn a % valn b)) (valn_lb _) ub (U_lb _) lb' (Nat.le_trans (lb_len_le (Nat.lt_trans hr (valn_lt ub))) lb')
      rw [valn_lb] at this
      rw [Nat.gcd_comm, Nat.gcd_rec, Nat.gcd_comm]
      exact this
theorem rGcd_f' {a b : List Int} (ua : U a) (ub : U b) (la : a.length ≤ 1000000) (lb' : b.length ≤ 1000000) : Ev (fun k => codewrightref01_Gcd.f k a b) (lb (Nat.gcd (valn a) (valn b))) := rGcd_f _ rfl ua ub la lb'
theorem sz_eq_zero {n : Nat} : sz n = 0 ↔ n = 0 := by
  constructor
  · intro h
    by_cases c : n = 0
    · exact c
    · have := sz_pos c; omega
  · intro h; subst h; rfl
theorem rep_rv {neg : Bool} {n d : List Int} (hn : valn n ≠ 0) (hd : valn d ≠ 0) : rep (rv neg n d) = (neg, lb (valn n / Nat.gcd (valn n) (valn d)), lb (valn d / Nat.gcd (valn n) (valn d))) := rep_mkRat neg hn hd
theorem gcd_lb {n d : List Int} (un : U n) (ln : n.length ≤ 1000000) (hn : valn n ≠ 0) : (lb (Nat.gcd (valn n) (valn d))).length ≤ 1000000 ∧ Nat.gcd (valn n) (valn d) ≠ 0 :=
  ⟨Nat.le_trans (lb_len_le (Nat.lt_of_le_of_lt (Nat.le_of_dvd (Nat.pos_of_ne_zero hn) (Nat.gcd_dvd_left _ _)) (valn_lt un))) ln, Nat.ne_of_gt (Nat.gcd_pos_of_pos_left _ (Nat.pos_of_ne_zero hn))⟩
theorem canonical_j {neg : Bool} {n d : List Int} (un : U n) (ud : U d) (ln : n.length ≤ 1000000) (ld : d.length ≤ 1000000) (b : Bool) (hb : b = true ↔ valn n = 0 ∨ valn d = 0) :
    Ev (fun k => rational_canonical.j0 k neg n d b) (rep (rv neg n d)) := by
  refine Ev_succ ?_
  simp only [rational_canonical.j0]
  cases b with
  | true =>
    have h : rv neg n d = 0 := by
      rcases hb.mp rfl with h | h
      · exact rv_zero_num neg h
      · exact rv_zero_den neg h
    rw [h, rep_zero]
    exact Ev_pos rfl (Ev.bind (Ev.now _) (Ev.now _))
  | false =>
    have hn : valn n ≠ 0 := fun h => absurd (hb.mpr (.inl h)) (by decide)
    have hd : valn d ≠ 0 := fun h => absurd (hb.mpr (.inr h)) (by decide)
    obtain ⟨hg, hg0⟩ := gcd_lb un ln hn
    have h1 := Gcd_f un ud ln ld
    have h2 := DivMod_f un (U_lb (Nat.gcd (valn n) (valn d))) ln hg (by rw [valn_lb]; exact hg0)
    have h3 := DivMod_f ud (U_lb (Nat.gcd (valn n) (valn d))) ld hg (by rw [valn_lb]; exact hg0)
    rw [valn_lb] at h2 h3
    rw [rep_rv hn hd]
    exact Ev_neg (by decide) (Ev.bind h1 (Ev.bind h2 (Ev.bind h3 (Ev.now _))))
theorem canonical_f {neg : Bool} {n d : List Int} (un : U n) (ud : U d) (ln : n.length ≤ 1000000) (ld : d.length ≤ 1000000) :
    Ev (fun k => rational_canonical.f k neg n d) (rep (rv neg n d)) := by
  have b1 := Bits_f un (by omega)
  have b2 := Bits_f ud (by omega)
  refine Ev.bind b1 ?_
  by_cases h1 : valn n = 0
  · exact Ev_pos (by rw [h1]; rfl) (canonical_j un ud ln ld true ⟨fun _ => .inl h1, fun _ => rfl⟩)
  · have hz : ((sz (valn n) : Nat) : Int) ≠ 0 := fun h => h1 (sz_eq_zero.mp (Int.ofNat_eq_zero.mp h))
    refine Ev_neg hz (Ev.bind b2 (canonical_j un ud ln ld _ ?_))
    constructor
    · intro h
      exact .inr (sz_eq_zero.mp (Int.ofNat_eq_zero.mp (beq_iff_eq.mp h)))
    · intro h
      rcases h with h | h
      · exact absurd h h1
      · rw [h]; rfl
theorem Make_j {neg : Bool} {n d : List Int} (un : U n) (ud : U d) (ln : n.length ≤ 1000000) (ld : d.length ≤ 1000000) (b : Bool) (hb : b = true ↔ valn n = 0 ∨ valn d = 0) :
    Ev (fun k => codewrightref02_Make.j0 k neg n d b) (rep (rv neg n d)) := by
  refine Ev_succ ?_
  simp only [codewrightref02_Make.j0]
  cases b with
  | true =>
    have h : rv neg n d = 0 := by
      rcases hb.mp rfl with h | h
      · exact rv_zero_num neg h
      · exact rv_zero_den neg h
    rw [h, rep_zero]
    exact Ev_pos rfl (Ev.now _)
  | false =>
    have hn : valn n ≠ 0 := fun h => absurd (hb.mpr (.inl h)) (by decide)
    have hd : valn d ≠ 0 := fun h => absurd (hb.mpr (.inr h)) (by decide)
    obtain ⟨hg, hg0⟩ := gcd_lb un ln hn
    have h1 := rGcd_f' un ud ln ld
    have h2 := rDivMod_f un (U_lb (Nat.gcd (valn n) (valn d))) ln hg (by rw [valn_lb]; exact hg0)
    have h3 := rDivMod_f ud (U_lb (Nat.gcd (valn n) (valn d))) ld hg (by rw [valn_lb]; exact hg0)
    rw [valn_lb] at h2 h3
    rw [rep_rv hn hd]
    exact Ev_neg (by decide) (Ev.bind h1 (Ev.bind h2 (Ev.bind h3 (Ev.now _))))
theorem Make_f {neg : Bool} {n d : List Int} (un : U n) (ud : U d) (ln : n.length ≤ 1000000) (ld : d.length ≤ 1000000) :
    Ev (fun k => codewrightref02_Make.f k neg n d) (rep (rv neg n d)) := by
  have b1 := rZero_f un (by omega)
  have b2 := rZero_f ud (by omega)
  refine Ev.bind b1 ?_
  by_cases h1 : valn n = 0
  · exact Ev_pos (decide_eq_true h1) (Make_j un ud ln ld true ⟨fun _ => .inl h1, fun _ => rfl⟩)
  · refine Ev_neg (by rw [decide_eq_false h1]; decide) (Ev.bind b2 (Make_j un ud ln ld _ ?_))
    rw [decide_eq_true_iff]
    exact ⟨.inr, fun h => h.elim (fun h => absurd h h1) id⟩
theorem rTrim02_f {neg : Bool} {n d : List Int} (un : U n) (ud : U d) (ln : n.length ≤ 1000000) (ld : d.length ≤ 1000000) :
    Ev (fun k => codewrightref02_Trim.f k neg n d) (rep (rv neg n d)) := Ev.bind (Make_f un ud ln ld) (Ev.now _)
theorem same02_f {x y : Bool} {a b c d : List Int} (la : a.length ≤ 100000000) (lc : b.length ≤ 100000000) : Ev (fun k => codewrightlaw02_same.f k x a b y c d) (decide ((x, a, b) = (y, c, d))) := by
  have h1 := Same_f (a := a) (b := c) (by omega)
  have h2 := Same_f (a := b) (b := d) (by omega)
  refine Ev.bind (a := decide ((x, a, b) = (y, c, d))) ?_ (Ev.now _)
  by_cases c1 : x = y
  · by_cases c2 : a = c
    · refine Ev_pos (by rw [c1]; simp) (Ev.bind h1 (Ev_pos (decide_eq_true c2) (Ev.bind h2 (Ev_as (Ev.now _) ?_))))
      rw [c1, c2]; simp
    · refine Ev_pos (by rw [c1]; simp) (Ev.bind h1 (Ev_neg (by rw [decide_eq_false c2]; decide) (Ev_as (Ev.now _) ?_)))
      rw [decide_eq_false]; intro h; injection h with _ h; injection h with h _; exact c2 h
  · refine Ev_neg (by simp [c1]) (Ev_as (Ev.now _) ?_)
    rw [decide_eq_false]; intro h; injection h with h _; exact c1 h
theorem rep_len {q : Rat} {m : Nat} (h : Sz m q) : (rep q).2.1.length ≤ m ∧ (rep q).2.2.length ≤ m := ⟨lb_len_le h.1, lb_len_le h.2⟩
theorem same_rep {p q : Rat} {m : Nat} (h : Sz m p) (hm : m ≤ 100000000) : Ev (fun k => codewrightlaw02_same.f k (rep p).1 (rep p).2.1 (rep p).2.2 (rep q).1 (rep q).2.1 (rep q).2.2) (decide (p = q)) := by
  have hl := rep_len h
  refine Ev_as (same02_f (by omega) (by omega)) ?_
  have : ((rep p).1, (rep p).2.1, (rep p).2.2) = ((rep q).1, (rep q).2.1, (rep q).2.2) ↔ p = q := ⟨fun h => rep_inj h, fun h => by rw [h]⟩
  exact decide_eq_decide.mpr this
theorem same_self {q : Rat} {m : Nat} (h : Sz m q) (hm : m ≤ 100000000) : Ev (fun k => codewrightlaw02_same.f k (rep q).1 (rep q).2.1 (rep q).2.2 (rep q).1 (rep q).2.1 (rep q).2.2) true :=
  Ev_as (same_rep h hm) (decide_eq_true rfl)
def I64 (x : Int) : Prop := -9223372036854775808 ≤ x ∧ x ≤ 9223372036854775807
theorem rOf_f {n : Nat} (h : n < 18446744073709551616) : Ev (fun k => codewrightref01_Of.f k (n : Int)) (lb n) := by
  have ht := rTrim_f (l := [((n : Int)) % 4294967296, ((n : Int) / 4294967296) % 4294967296]) (U_cons (by omega) (U_cons (by omega) U_nil)) (by simp)
  rw [valn_two n h] at ht
  have e1 : Int.tmod (n : Int) 4294967296 % 4294967296 = (n : Int) % 4294967296 := by rw [tmod_nat]; omega
  have e2 : IntKind.u64.wrap (Int.tdiv (n : Int) 4294967296) % 4294967296 = (n : Int) / 4294967296 % 4294967296 := by
    rw [tdiv_nat, u64 (Int.natCast_nonneg _) (by omega)]; rfl
  unfold codewrightref01_Of.f
  rw [e1, e2]
  exact Ev.bind ht (Ev.now _)
theorem abs_f {x : Int} (h : I64 x) : Ev (fun k => codewrightref02_abs.f k x) (lb x.natAbs) := by
  unfold I64 at h
  by_cases c : x < 0
  · have e1 : wrap64 (x + 1) = x + 1 := w64 (by omega) (by omega)
    have e2 : wrap64 (-(x + 1)) = -(x + 1) := w64 (by omega) (by omega)
    have e3 : IntKind.u64.wrap (-(x + 1)) = ((x.natAbs - 1 : Nat) : Int) := by rw [u64 (by omega) (by omega)]; omega
    have b1 : x.natAbs - 1 < 18446744073709551616 := by clear e1 e2 e3; omega
    have ho := rOf_f b1
    have hl := lb_len_le (n := x.natAbs - 1) (m := 2) (by rw [two_pw]; exact Nat.lt_of_lt_of_le b1 (by decide))
    have ha := rAdd_f (U_lb (x.natAbs - 1)) (b := [1]) (U_cons (by decide) U_nil) (by clear e1 e2 e3; omega) (by simp)
    have e4 : x.natAbs - 1 + 1 = x.natAbs := by clear e1 e2 e3; omega
    rw [valn_lb, show valn [1] = 1 from rfl, e4] at ha
    refine Ev_pos c ?_
    rw [e1, e2, e3]
    exact Ev.bind ho (Ev.bind ha (Ev.now _))
  · have e : IntKind.u64.wrap x = ((x.natAbs : Nat) : Int) := by rw [u64 (by omega) (by omega)]; omega
    have ho := rOf_f (n := x.natAbs) (by clear e; omega)
    refine Ev_neg c ?_
    rw [e]; exact Ev.bind ho (Ev.now _)
def divq (x y : Int) : Rat := mkRat (sg (decide (x < 0) != decide (y < 0)) x.natAbs) y.natAbs
theorem lb_i64 {x : Int} (h : I64 x) : (lb x.natAbs).length ≤ 2 := by
  unfold I64 at h
  exact lb_len_le (by rw [two_pw]; exact Nat.lt_of_lt_of_le (by omega : x.natAbs < 18446744073709551616) (by decide))
theorem rOf02_f {x y : Int} (hx : I64 x) (hy : I64 y) : Ev (fun k => codewrightref02_Of.f k x y) (rep (divq x y)) := by
  have lx := lb_i64 hx
  have ly := lb_i64 hy
  have hc := Make_f (neg := decide (x < 0) != decide (y < 0)) (U_lb x.natAbs) (U_lb y.natAbs) (by omega) (by omega)
  rw [rv, valn_lb, valn_lb] at hc
  exact Ev.bind (abs_f hx) (Ev.bind (abs_f hy) (Ev.bind hc (Ev.now _)))
theorem Trim02_f {neg : Bool} {n d : List Int} (un : U n) (ud : U d) (ln : n.length ≤ 1000000) (ld : d.length ≤ 1000000) :
    Ev (fun k => rational_Trim.f k neg n d) (rep (rv neg n d)) := Ev.bind (canonical_f un ud ln ld) (Ev.now _)
theorem long02_l0 (m : Nat) (l : List S67) (hl : l.length < 4611686018427387904) (hs : ∀ x ∈ l, x.f1.length < 2305843009213693952 ∧ x.f2.length < 2305843009213693952) (n : Nat) : ∀ i : Nat, i + n = l.length →
    Ev (fun k => codewrightlaw02_long.l0 k (m : Int) l (i : Int)) ((l.drop i).any fun x => decide (m < x.f1.length + x.f2.length)) := by
  induction n with
  | zero =>
    intro i hi
    rw [List.drop_eq_nil_of_le (by omega)]
    refine Ev_succ ?_
    simp only [codewrightlaw02_long.l0]
    exact Ev_neg (by omega) (Ev.now _)
  | succ n ih =>
    intro i hi
    have e : rd_T67 l (i : Int) = l[i]'(by omega) := by simp [rd_T67, show i < l.length from by omega]
    have hm : l[i]'(by omega) ∈ l := List.getElem_mem _
    have hx := hs _ hm
    have hd : l.drop i = l[i]'(by omega) :: l.drop (i + 1) := by rw [List.drop_eq_getElem_cons]
    rw [hd, List.any_cons]
    generalize l[i]'(by omega) = x at *
    have c : (i : Int) < (l.length : Int) ∧ (0 : Int) ≤ (i : Int) := by omega
    have step := ih (i + 1) (by omega)
    have wi : wrap64 ((i : Int) + 1) = ((i + 1 : Nat) : Int) := up i (by omega)
    have ws : wrap64 ((x.f1.length : Int) + (x.f2.length : Int)) = ((x.f1.length + x.f2.length : Nat) : Int) := by rw [w64 (by omega) (by omega)]; rfl
    refine Ev_succ ?_
    simp only [codewrightlaw02_long.l0]
    refine Ev_pos c.1 (Ev_pos c.2 ?_)
    rw [e, ws, wi]
    clear ws wi
    by_cases h : m < x.f1.length + x.f2.length
    · rw [decide_eq_true h]
      exact Ev_pos (by omega) (Ev.now _)
    · rw [decide_eq_false h, Bool.false_or]
      exact Ev_neg (by omega) step
theorem long02_f (m : Nat) (l : List S67) (hl : l.length < 4611686018427387904) (hs : ∀ x ∈ l, x.f1.length < 2305843009213693952 ∧ x.f2.length < 2305843009213693952) :
    Ev (fun k => codewrightlaw02_long.f k (m : Int) l) (l.any fun x => decide (m < x.f1.length + x.f2.length)) := long02_l0 m l hl hs l.length 0 (by omega)
def v67 (x : S67) : Rat := rv x.f0 x.f1 x.f2
def Ok67 (m : Nat) (l : List S67) : Prop := ∀ x ∈ l, U x.f1 ∧ U x.f2 ∧ x.f1.length ≤ m ∧ x.f2.length ≤ m
def prodq : List S67 → Rat
  | [] => 1
  | x :: l => v67 x * prodq l
theorem rep_one : rep 1 = (false, [1], [1]) := by
  have e : rep 1 = (false, lb 1, lb 1) := rfl
  rw [e, lb_one]
theorem mul_rv (p q : Rat) : rv ((rep p).1 != (rep q).1) (lb (p.num.natAbs * q.num.natAbs)) (lb (p.den * q.den)) = p * q := by
  rw [rv, valn_lb, valn_lb]; exact (mul_parts p q).symm
theorem lb_sz {m : Nat} {q : Rat} (h : Sz m q) : (lb q.num.natAbs).length ≤ m ∧ (lb q.den).length ≤ m := ⟨lb_len_le h.1, lb_len_le h.2⟩
theorem rd67 {l : List S67} {i : Nat} (h : i < l.length) : rd_T67 l (i : Int) = l[i] := by simp [rd_T67, h]
theorem Mul02_l0 {m : Nat} {l : List S67} (hl : Ok67 m l) (hm : 1 ≤ m) (hn : l.length < 4611686018427387904) (n : Nat) : ∀ (i s : Nat) (p : Rat), i + n = l.length → Sz s p → 1 ≤ s → s + m * n ≤ 1000000 →
    Ev (fun k => rational_Mul.l0 k (rep p).1 (rep p).2.1 (rep p).2.2 l (l.length : Int) (i : Int)) (rep (p * prodq (l.drop i))) := by
  induction n with
  | zero =>
    intro i s p hi hp h1 hs
    rw [List.drop_eq_nil_of_le (by omega)]
    refine Ev_succ ?_
    simp only [rational_Mul.l0]
    exact Ev_neg (by omega) (Ev_as (Ev.now _) (by rw [prodq, Rat.mul_one]))
  | succ n ih =>
    intro i s p hi hp h1 hs
    have hs' : s + m + m * n ≤ 1000000 := by rw [Nat.mul_succ] at hs; omega
    have hi' : i < l.length := by omega
    have c1 : (i : Int) < (l.length : Int) := by omega
    have c0 : (0 : Int) ≤ (i : Int) := by omega
    obtain ⟨u1, u2, l1, l2⟩ := hl _ (List.getElem_mem hi')
    have hq : Sz m (v67 l[i]) := Sz_rv u1 u2 l1 l2 hm
    have hd : l.drop i = l[i] :: l.drop (i + 1) := by rw [List.drop_eq_getElem_cons]
    have ht : Ev (fun k => rational_Trim.f k l[i].f0 l[i].f1 l[i].f2) (rep (v67 l[i])) := Trim02_f u1 u2 (by omega) (by omega)
    have hrd := rd67 hi'
    have lp := lb_sz hp
    have lq := lb_sz hq
    have m1 : Ev (fun k => nat_Mul.f k [(rep p).2.1, (rep (v67 l[i])).2.1]) (lb (p.num.natAbs * (v67 l[i]).num.natAbs)) := by
      have m1 := Mul_two (U_lb p.num.natAbs) (U_lb (v67 l[i]).num.natAbs) (by omega)
      rw [valn_lb, valn_lb] at m1; exact m1
    have m2 : Ev (fun k => nat_Mul.f k [(rep p).2.2, (rep (v67 l[i])).2.2]) (lb (p.den * (v67 l[i]).den)) := by
      have m2 := Mul_two (U_lb p.den) (U_lb (v67 l[i]).den) (by omega)
      rw [valn_lb, valn_lb] at m2; exact m2
    have hpq : Sz (s + m) (p * v67 l[i]) := Sz_mul hp hq h1
    have b1 : (lb (p.num.natAbs * (v67 l[i]).num.natAbs)).length ≤ 1000000 := Nat.le_trans (lb_len_le (mul_pw' hp.1 hq.1)) (by omega)
    have b2 : (lb (p.den * (v67 l[i]).den)).length ≤ 1000000 := Nat.le_trans (lb_len_le (mul_pw' hp.2 hq.2)) (by omega)
    have hc := canonical_f (neg := (rep p).1 != (rep (v67 l[i])).1) (U_lb (p.num.natAbs * (v67 l[i]).num.natAbs)) (U_lb (p.den * (v67 l[i]).den)) b1 b2
    rw [mul_rv] at hc
    have step := ih (i + 1) (s + m) (p * v67 l[i]) (by omega) hpq (by omega) (by omega)
    rw [hd, prodq, ← Rat.mul_assoc]
    have wi : wrap64 ((i : Int) + 1) = ((i + 1 : Nat) : Int) := up i (by omega)
    refine Ev_succ ?_
    simp only [rational_Mul.l0]
    refine Ev_pos c1 (Ev_pos c0 (Ev_pos c1 ?_))
    rw [hrd, wi]
    clear wi hrd hd hi hs hs' lp lq b1 b2 hpq hp hq ih
    generalize v67 l[i] = q at *
    generalize p * q = pq at *
    exact Ev.bind ht (Ev.bind m1 (Ev.bind m2 (Ev.bind hc step)))
theorem Sz_one : Sz 1 1 := by
  have h1 : 1 < pw 1 := by rw [pw_succ, pw_zero]; decide
  exact ⟨h1, h1⟩
theorem Mul02_f {m : Nat} {l : List S67} (hl : Ok67 m l) (hm : 1 ≤ m) (hs : m * l.length ≤ 999999) : Ev (fun k => rational_Mul.f k l) (rep (prodq l)) := by
  have hn : l.length ≤ m * l.length := Nat.le_mul_of_pos_left _ hm
  have h := Mul02_l0 hl hm (by omega) l.length 0 1 1 (by omega) Sz_one (by omega) (by omega)
  rw [rep_one, Rat.one_mul] at h
  exact Ev.bind (Ev.now _) (Ev.bind (Ev.now _) h)
theorem prodq_two (x y : S67) : prodq [x, y] = v67 x * v67 y := by rw [prodq, prodq, prodq, Rat.mul_one]
theorem Ok67_two {m : Nat} {x y : S67} (hx : U x.f1 ∧ U x.f2 ∧ x.f1.length ≤ m ∧ x.f2.length ≤ m) (hy : U y.f1 ∧ U y.f2 ∧ y.f1.length ≤ m ∧ y.f2.length ≤ m) : Ok67 m [x, y] := by
  intro z hz
  simp only [List.mem_cons, List.not_mem_nil, or_false] at hz
  rcases hz with rfl | rfl
  · exact hx
  · exact hy
theorem Mul02_two {x y : S67} {m : Nat} (hx : U x.f1 ∧ U x.f2 ∧ x.f1.length ≤ m ∧ x.f2.length ≤ m) (hy : U y.f1 ∧ U y.f2 ∧ y.f1.length ≤ m ∧ y.f2.length ≤ m) (hm : 1 ≤ m) (hs : m ≤ 400000) :
    Ev (fun k => rational_Mul.f k [x, y]) (rep (v67 x * v67 y)) := by
  have h := Mul02_f (Ok67_two hx hy) hm (by simp only [List.length_cons, List.length_nil]; omega)
  rw [prodq_two] at h; exact h
theorem ok_rep {m : Nat} {q : Rat} (h : Sz m q) : U (rep q).2.1 ∧ U (rep q).2.2 ∧ (rep q).2.1.length ≤ m ∧ (rep q).2.2.length ≤ m := ⟨U_lb _, U_lb _, (rep_len h).1, (rep_len h).2⟩
theorem v67_rep (q : Rat) : v67 ⟨(rep q).1, (rep q).2.1, (rep q).2.2⟩ = q := rv_rep q
theorem sub_digit {x y c : Nat} (hx : x < 4294967296) (hy : y < 4294967296) (hc : c ≤ 1) :
    ∃ d h : Nat, d < 4294967296 ∧ h ≤ 1 ∧ x + 4294967296 * h = d + y + c ∧
      IntKind.u64.wrap (IntKind.u64.wrap (IntKind.u64.wrap (x : Int) - (c : Int)) - IntKind.u64.wrap (y : Int)) % 4294967296 = (d : Int) ∧
      IntKind.u64.wrap (IntKind.u64.wrap (IntKind.u64.wrap (x : Int) - (c : Int)) - IntKind.u64.wrap (y : Int)) / 9223372036854775808 = (h : Int) := by
  have e : ∀ z : Int, IntKind.u64.wrap z = z % 18446744073709551616 := fun z => rfl
  simp only [e]
  refine ⟨if x < y + c then x + 4294967296 - (y + c) else x - (y + c), if x < y + c then 1 else 0, ?_, ?_, ?_, ?_, ?_⟩ <;> split <;> omega
theorem sub_digit0 {x c : Nat} (hx : x < 4294967296) (hc : c ≤ 1) :
    ∃ d h : Nat, d < 4294967296 ∧ h ≤ 1 ∧ x + 4294967296 * h = d + 0 + c ∧
      IntKind.u64.wrap (IntKind.u64.wrap (x : Int) - (c : Int)) % 4294967296 = (d : Int) ∧
      IntKind.u64.wrap (IntKind.u64.wrap (x : Int) - (c : Int)) / 9223372036854775808 = (h : Int) := by
  have e : ∀ z : Int, IntKind.u64.wrap z = z % 18446744073709551616 := fun z => rfl
  simp only [e]
  refine ⟨if x < c then x + 4294967296 - c else x - c, if x < c then 1 else 0, ?_, ?_, ?_, ?_, ?_⟩ <;> split <;> omega
theorem Sub_l0 {a b : List Int} (ua : U a) (ub : U b) (hs : a.length ≤ 100000000) (hle : valn b ≤ valn a) (n : Nat) : ∀ (i : Nat) (z : List Int) (c : Nat), i + n = a.length → z.length = a.length → U z → c ≤ 1 → z.drop i = a.drop i →
    valn (a.take i) + pw i * c = valn (z.take i) + valn (b.take i) → Ev (fun k => nat_Sub.l0 k b z (c : Int) (a.length : Int) (i : Int)) (lb (valn a - valn b), 0) := by
  induction n with
  | zero =>
    intro i z c hi hz uz hc hd hv
    obtain rfl : i = a.length := by omega
    have hzl := valn_lt uz
    rw [hz] at hzl
    have va := valn_lt ua
    rw [List.take_of_length_le (Nat.le_refl _), List.take_of_length_le (by omega)] at hv
    have hb : valn (b.take a.length) = valn b := by
      have h1 := valn_split b a.length
      rcases Nat.eq_zero_or_pos (valn (b.drop a.length)) with h | h
      · rw [h] at h1; omega
      · exfalso
        have := Nat.mul_le_mul_left (pw a.length) h
        omega
    rw [hb] at hv
    have key : valn z = valn a - valn b := by
      rcases Nat.eq_zero_or_pos c with h | h
      · subst h; omega
      · obtain rfl : c = 1 := by omega
        omega
    have ht := short_f uz (by omega)
    rw [key] at ht
    have c1 : ¬ ((a.length : Int) < (a.length : Int)) := by omega
    refine Ev_succ ?_
    simp only [nat_Sub.l0]
    exact Ev_neg c1 (Ev.bind ht (Ev.now _))
  | succ n ih =>
    intro i z c hi hz uz hc hdr hv
    have hi1 : i < a.length := by omega
    have hi2 : i < z.length := by omega
    obtain ⟨x, ex, hx⟩ := rd_nat ua (i : Int)
    obtain ⟨y, ey, hy⟩ := rd_nat ub (i : Int)
    have exz : rd z (i : Int) = (x : Int) := by
      have h1 := drop_rd z i hi2
      have h2 := drop_rd a i hi1
      rw [hdr, h2] at h1
      injection h1 with h1 _
      rw [← h1]; exact ex
    have c1 : (i : Int) < (a.length : Int) := by omega
    have c0 : (0 : Int) ≤ (i : Int) := by omega
    have c2 : (i : Int) < (z.length : Int) := by omega
    have wi : wrap64 ((i : Int) + 1) = ((i + 1 : Nat) : Int) := up i (by omega)
    have ti : ((i : Int)).toNat = i := Int.toNat_natCast i
    have main : ∀ d h : Nat, d < 4294967296 → h ≤ 1 → x + 4294967296 * h = d + y + c → Ev (fun k => nat_Sub.l0 k b (z.set i (d : Int)) (h : Int) (a.length : Int) ((i + 1 : Nat) : Int)) (lb (valn a - valn b), 0) := by
      intro d h hd hh heq
      refine ih (i + 1) (z.set i (d : Int)) h (by omega) (by rw [List.length_set]; exact hz) (U_set uz (by omega) i) hh ?_ ?_
      · have e1 := drop_rd z i hi2
        have e2 := drop_rd a i hi1
        rw [hdr, e2] at e1
        injection e1 with _ e1
        rw [List.drop_set_of_lt (by omega)]; exact e1.symm
      · rw [valn_set_take z i d hi2, valn_take_succ, valn_take_succ b, ex, ey, Int.toNat_natCast, Int.toNat_natCast, Int.toNat_natCast, pw_succ]
        have h3 : pw i * (x + 4294967296 * h) = pw i * (d + y + c) := by rw [heq]
        rw [Nat.mul_add, Nat.mul_add, Nat.mul_add, ← Nat.mul_assoc] at h3
        omega
    refine Ev_succ ?_
    simp only [nat_Sub.l0]
    refine Ev_pos c1 (Ev_pos c0 (Ev_pos c2 ?_))
    by_cases hb : i < b.length
    · obtain ⟨d, h, hd, hh, heq, e1, e2⟩ := sub_digit hx hy hc
      have c3 : (i : Int) < (b.length : Int) := by clear wi e1 e2; omega
      refine Ev_pos c3 ?_
      rw [exz, ey, e1, e2, wi, ti]; exact main d h hd hh heq
    · obtain ⟨d, h, hd, hh, heq, e1, e2⟩ := sub_digit0 hx hc
      have c3 : ¬ (i : Int) < (b.length : Int) := by clear wi e1 e2; omega
      have y0 : y = 0 := by have := rd_ge b i (by clear wi e1 e2; omega); rw [ey] at this; clear wi e1 e2; omega
      refine Ev_neg c3 ?_
      rw [exz, e1, e2, wi, ti]; exact main d h hd hh (by rw [y0]; exact heq)
theorem Sub_f {a b : List Int} (ua : U a) (ub : U b) (la : a.length ≤ 1000000) (lb' : b.length ≤ 1000000) (hle : valn b ≤ valn a) : Ev (fun k => nat_Sub.f k a b) (lb (valn a - valn b), 0) := by
  have hc := Cmp_f ua ub (by omega) (by omega)
  have ht := Trim_f ua (by omega)
  have hl := lb_len ua
  have h := Sub_l0 (a := lb (valn a)) (U_lb _) ub (by omega) (by rw [valn_lb]; exact hle) (lb (valn a)).length 0 (lb (valn a)) 0 (by omega) rfl (U_lb _) (by omega) rfl (by simp [valn_nil])
  rw [valn_lb] at h
  refine Ev.bind hc (Ev_neg ?_ (Ev.bind ht h))
  unfold cmpn
  split
  · omega
  · split <;> decide
theorem sum_same {p q : Rat} (h : decide (p.num < 0) = decide (q.num < 0)) : rv (decide (p.num < 0)) (lb (p.num.natAbs * q.den + q.num.natAbs * p.den)) (lb (p.den * q.den)) = p + q := by
  rw [rv, valn_lb, valn_lb, sg_add, add_parts p q, ← h]
theorem sum_less {p q : Rat} (h : decide (p.num < 0) ≠ decide (q.num < 0)) (hl : p.num.natAbs * q.den ≤ q.num.natAbs * p.den) : rv (decide (q.num < 0)) (lb (q.num.natAbs * p.den - p.num.natAbs * q.den)) (lb (p.den * q.den)) = p + q := by
  have e : (!decide (q.num < 0)) = decide (p.num < 0) := by
    revert h; cases decide (p.num < 0) <;> cases decide (q.num < 0) <;> decide
  rw [rv, valn_lb, valn_lb, sg_sub _ hl, e, Int.add_comm, add_parts p q]
theorem sum_more {p q : Rat} (h : decide (p.num < 0) ≠ decide (q.num < 0)) (hl : q.num.natAbs * p.den ≤ p.num.natAbs * q.den) : rv (decide (p.num < 0)) (lb (p.num.natAbs * q.den - q.num.natAbs * p.den)) (lb (p.den * q.den)) = p + q := by
  have e : (!decide (p.num < 0)) = decide (q.num < 0) := by
    revert h; cases decide (p.num < 0) <;> cases decide (q.num < 0) <;> decide
  rw [rv, valn_lb, valn_lb, sg_sub _ hl, e, add_parts p q]
theorem plus_q {p q : Rat} {s m : Nat} (hp : Sz s p) (hq : Sz m q) (hs : s + m ≤ 400000) : Ev (fun k => rational_plus.f k (rep p).1 (rep p).2.1 (rep p).2.2 (rep q).1 (rep q).2.1 (rep q).2.2) (rep (p + q)) := by
  have lp := lb_sz hp
  have lq := lb_sz hq
  have m1 : Ev (fun k => nat_Mul.f k [(rep p).2.1, (rep q).2.2]) (lb (p.num.natAbs * q.den)) := by
    have h := Mul_two (U_lb p.num.natAbs) (U_lb q.den) (by omega)
    rw [valn_lb, valn_lb] at h; exact h
  have m2 : Ev (fun k => nat_Mul.f k [(rep q).2.1, (rep p).2.2]) (lb (q.num.natAbs * p.den)) := by
    have h := Mul_two (U_lb q.num.natAbs) (U_lb p.den) (by omega)
    rw [valn_lb, valn_lb] at h; exact h
  have m3 : Ev (fun k => nat_Mul.f k [(rep p).2.2, (rep q).2.2]) (lb (p.den * q.den)) := by
    have h := Mul_two (U_lb p.den) (U_lb q.den) (by omega)
    rw [valn_lb, valn_lb] at h; exact h
  have bx : p.num.natAbs * q.den < pw (s + m) := mul_pw' hp.1 hq.2
  have by' : q.num.natAbs * p.den < pw (s + m) := by rw [Nat.add_comm s m]; exact mul_pw' hq.1 hp.2
  have lx := lb_len_le bx
  have ly := lb_len_le by'
  have ld := lb_len_le (mul_pw' hp.2 hq.2)
  have e1 : (rep p).1 = decide (p.num < 0) := rfl
  have e2 : (rep q).1 = decide (q.num < 0) := rfl
  have hsame : decide (p.num < 0) = decide (q.num < 0) → rv (decide (p.num < 0)) (lb (p.num.natAbs * q.den + q.num.natAbs * p.den)) (lb (p.den * q.den)) = p + q := sum_same
  have hless := @sum_less p q
  have hmore := @sum_more p q
  refine Ev.bind m1 (Ev.bind m2 (Ev.bind m3 ?_))
  clear m1 m2 m3
  rw [e1, e2]
  generalize p.num.natAbs * q.den = x at *
  generalize q.num.natAbs * p.den = y at *
  generalize p.den * q.den = d at *
  generalize decide (p.num < 0) = a at *
  generalize decide (q.num < 0) = b at *
  generalize p + q = r at *
  have C : ∀ (g : Bool) (n : Nat), (lb n).length ≤ 1000000 → rv g (lb n) (lb d) = r → Ev (fun k => rational_canonical.f k g (lb n) (lb d)) (rep r) := by
    intro g n hn he
    rw [← he]; exact canonical_f (U_lb _) (U_lb _) hn (by omega)
  by_cases c : a = b
  · refine Ev_pos (by rw [c]; exact beq_self_eq_true b) ?_
    have ha := Add_two (U_lb x) (U_lb y) (by omega) (by omega)
    rw [valn_lb, valn_lb] at ha
    have hxy : (lb (x + y)).length ≤ 1000000 := Nat.le_trans (lb_len_le (m := s + m + 1) (by rw [pw_succ]; omega)) (by omega)
    exact Ev.bind ha (Ev.bind (C a (x + y) hxy (hsame c)) (Ev.now _))
  · refine Ev_neg (fun h => c (beq_iff_eq.mp h)) ?_
    have hc := Cmp_f (U_lb x) (U_lb y) (by omega) (by omega)
    rw [valn_lb, valn_lb] at hc
    refine Ev.bind hc ?_
    by_cases hlt : x < y
    · have hs := Sub_f (U_lb y) (U_lb x) (by omega) (by omega) (by rw [valn_lb, valn_lb]; omega)
      rw [valn_lb, valn_lb] at hs
      have hn : (lb (y - x)).length ≤ 1000000 := Nat.le_trans (lb_len_le (m := s + m) (by omega)) (by omega)
      exact Ev_pos (by unfold cmpn; rw [if_pos hlt]; decide) (Ev.bind hs (Ev.bind (C b (y - x) hn (hless c (by omega))) (Ev.now _)))
    · have hs := Sub_f (U_lb x) (U_lb y) (by omega) (by omega) (by rw [valn_lb, valn_lb]; omega)
      rw [valn_lb, valn_lb] at hs
      have hn : (lb (x - y)).length ≤ 1000000 := Nat.le_trans (lb_len_le (m := s + m) (by omega)) (by omega)
      exact Ev_neg (by unfold cmpn; rw [if_neg hlt]; split <;> decide) (Ev.bind hs (Ev.bind (C a (x - y) hn (hmore c (by omega))) (Ev.now _)))
theorem rAdd02_f {a b : S67} {m : Nat} (ha : U a.f1 ∧ U a.f2 ∧ a.f1.length ≤ m ∧ a.f2.length ≤ m) (hb : U b.f1 ∧ U b.f2 ∧ b.f1.length ≤ m ∧ b.f2.length ≤ m) (hm : 1 ≤ m) (hs : m ≤ 200000) :
    Ev (fun k => codewrightref02_Add.f k a.f0 a.f1 a.f2 b.f0 b.f1 b.f2) (rep (v67 a + v67 b)) := by
  have hp : Sz m (v67 a) := Sz_rv ha.1 ha.2.1 ha.2.2.1 ha.2.2.2 hm
  have hq : Sz m (v67 b) := Sz_rv hb.1 hb.2.1 hb.2.2.1 hb.2.2.2 hm
  have t1 : Ev (fun k => codewrightref02_Trim.f k a.f0 a.f1 a.f2) (rep (v67 a)) := rTrim02_f ha.1 ha.2.1 (by omega) (by omega)
  have t2 : Ev (fun k => codewrightref02_Trim.f k b.f0 b.f1 b.f2) (rep (v67 b)) := rTrim02_f hb.1 hb.2.1 (by omega) (by omega)
  refine Ev.bind t1 (Ev.bind t2 ?_)
  clear t1 t2
  generalize v67 a = p at *
  generalize v67 b = q at *
  have lp := lb_sz hp
  have lq := lb_sz hq
  have m1 : Ev (fun k => codewrightref01_Mul.f k (rep p).2.1 (rep q).2.2) (lb (p.num.natAbs * q.den)) := by
    have h := rMul_f (U_lb p.num.natAbs) (U_lb q.den) (by omega)
    rw [valn_lb, valn_lb] at h; exact h
  have m2 : Ev (fun k => codewrightref01_Mul.f k (rep q).2.1 (rep p).2.2) (lb (q.num.natAbs * p.den)) := by
    have h := rMul_f (U_lb q.num.natAbs) (U_lb p.den) (by omega)
    rw [valn_lb, valn_lb] at h; exact h
  have m3 : Ev (fun k => codewrightref01_Mul.f k (rep p).2.2 (rep q).2.2) (lb (p.den * q.den)) := by
    have h := rMul_f (U_lb p.den) (U_lb q.den) (by omega)
    rw [valn_lb, valn_lb] at h; exact h
  have bx : p.num.natAbs * q.den < pw (m + m) := mul_pw' hp.1 hq.2
  have by' : q.num.natAbs * p.den < pw (m + m) := mul_pw' hq.1 hp.2
  have lx := lb_len_le bx
  have ly := lb_len_le by'
  have ld := lb_len_le (mul_pw' hp.2 hq.2)
  have e1 : (rep p).1 = decide (p.num < 0) := rfl
  have e2 : (rep q).1 = decide (q.num < 0) := rfl
  have hsame : decide (p.num < 0) = decide (q.num < 0) → rv (decide (p.num < 0)) (lb (p.num.natAbs * q.den + q.num.natAbs * p.den)) (lb (p.den * q.den)) = p + q := sum_same
  have hless := @sum_less p q
  have hmore := @sum_more p q
  refine Ev.bind m1 (Ev.bind m2 (Ev.bind m3 ?_))
  clear m1 m2 m3
  rw [e1, e2]
  generalize p.num.natAbs * q.den = x at *
  generalize q.num.natAbs * p.den = y at *
  generalize p.den * q.den = d at *
  generalize decide (p.num < 0) = a at *
  generalize decide (q.num < 0) = b at *
  generalize p + q = r at *
  have C : ∀ (g : Bool) (n : Nat), (lb n).length ≤ 1000000 → rv g (lb n) (lb d) = r → Ev (fun k => codewrightref02_Make.f k g (lb n) (lb d)) (rep r) := by
    intro g n hn he
    rw [← he]; exact Make_f (U_lb _) (U_lb _) hn (by omega)
  by_cases c : a = b
  · refine Ev_pos (by rw [c]; exact beq_self_eq_true b) ?_
    have ha := rAdd_f (U_lb x) (U_lb y) (by omega) (by omega)
    rw [valn_lb, valn_lb] at ha
    have hxy : (lb (x + y)).length ≤ 1000000 := Nat.le_trans (lb_len_le (m := m + m + 1) (by rw [pw_succ]; omega)) (by omega)
    exact Ev.bind ha (Ev.bind (C a (x + y) hxy (hsame c)) (Ev.now _))
  · refine Ev_neg (fun h => c (beq_iff_eq.mp h)) ?_
    have hc := rCmp_f (U_lb x) (U_lb y) (by omega) (by omega)
    rw [valn_lb, valn_lb] at hc
    refine Ev.bind hc ?_
    by_cases hlt : x < y
    · have hs := rSub_f (U_lb y) (U_lb x) (by omega) (by rw [valn_lb, valn_lb]; omega)
      rw [valn_lb, valn_lb] at hs
      have hn : (lb (y - x)).length ≤ 1000000 := Nat.le_trans (lb_len_le (m := m + m) (by omega)) (by omega)
      exact Ev_neg (by unfold cmpn; rw [if_pos hlt]; decide) (Ev.bind hs (Ev.bind (C b (y - x) hn (hless c (by omega))) (Ev.now _)))
    · have hs := rSub_f (U_lb x) (U_lb y) (by omega) (by rw [valn_lb, valn_lb]; omega)
      rw [valn_lb, valn_lb] at hs
      have hn : (lb (x - y)).length ≤ 1000000 := Nat.le_trans (lb_len_le (m := m + m) (by omega)) (by omega)
      exact Ev_pos (by unfold cmpn; rw [if_neg hlt]; split <;> decide) (Ev.bind hs (Ev.bind (C a (x - y) hn (hmore c (by omega))) (Ev.now _)))
theorem rMul02_f {a b : S67} {m : Nat} (ha : U a.f1 ∧ U a.f2 ∧ a.f1.length ≤ m ∧ a.f2.length ≤ m) (hb : U b.f1 ∧ U b.f2 ∧ b.f1.length ≤ m ∧ b.f2.length ≤ m) (hm : 1 ≤ m) (hs : m ≤ 200000) :
    Ev (fun k => codewrightref02_Mul.f k a.f0 a.f1 a.f2 b.f0 b.f1 b.f2) (rep (v67 a * v67 b)) := by
  have hp : Sz m (v67 a) := Sz_rv ha.1 ha.2.1 ha.2.2.1 ha.2.2.2 hm
  have hq : Sz m (v67 b) := Sz_rv hb.1 hb.2.1 hb.2.2.1 hb.2.2.2 hm
  have t1 : Ev (fun k => codewrightref02_Trim.f k a.f0 a.f1 a.f2) (rep (v67 a)) := rTrim02_f ha.1 ha.2.1 (by omega) (by omega)
  have t2 : Ev (fun k => codewrightref02_Trim.f k b.f0 b.f1 b.f2) (rep (v67 b)) := rTrim02_f hb.1 hb.2.1 (by omega) (by omega)
  refine Ev.bind t1 (Ev.bind t2 ?_)
  clear t1 t2
  generalize v67 a = p at *
  generalize v67 b = q at *
  have lp := lb_sz hp
  have lq := lb_sz hq
  have m1 : Ev (fun k => codewrightref01_Mul.f k (rep p).2.1 (rep q).2.1) (lb (p.num.natAbs * q.num.natAbs)) := by
    have h := rMul_f (U_lb p.num.natAbs) (U_lb q.num.natAbs) (by omega)
    rw [valn_lb, valn_lb] at h; exact h
  have m3 : Ev (fun k => codewrightref01_Mul.f k (rep p).2.2 (rep q).2.2) (lb (p.den * q.den)) := by
    have h := rMul_f (U_lb p.den) (U_lb q.den) (by omega)
    rw [valn_lb, valn_lb] at h; exact h
  have b1 : (lb (p.num.natAbs * q.num.natAbs)).length ≤ 1000000 := Nat.le_trans (lb_len_le (mul_pw' hp.1 hq.1)) (by omega)
  have b2 : (lb (p.den * q.den)).length ≤ 1000000 := Nat.le_trans (lb_len_le (mul_pw' hp.2 hq.2)) (by omega)
  have hc := Make_f (neg := (rep p).1 != (rep q).1) (U_lb (p.num.natAbs * q.num.natAbs)) (U_lb (p.den * q.den)) b1 b2
  rw [mul_rv] at hc
  exact Ev.bind m1 (Ev.bind m3 (Ev.bind hc (Ev.now _)))
theorem rInt_f {x : Int} (h : I64 x) : Ev (fun k => codewrightref02_Int.f k x) (rep (divq x 1)) := Ev.bind (rOf02_f h ⟨by decide, by decide⟩) (Ev.now _)
theorem divq_zero : divq 0 1 = 0 := by rfl
end Go.Proofs.Ytecfdemglbfnoaa.Num
end
section
namespace Go.Proofs.Ytecfdemglbfnoaa.Num
open Go.RowKit Go.Proofs.Ytecfdemglbfnoaa.PT Go.Proofs.YtecfdemglbfnoaaW.PrintWords Go.Proofs.YtecfdemglbfnoaaW.PrintLast Go.Proofs.YtecfdemglbfnoaaW.PrintMore
theorem Ok67_of {l : List S67} (hu : ∀ x ∈ l, U x.f1 ∧ U x.f2) {m : Nat} (h : (l.any fun x => decide (m < x.f1.length + x.f2.length)) = false) : Ok67 m l := by
  intro x hx
  have h1 := List.any_eq_false.mp h x hx
  rw [decide_eq_true_eq] at h1
  exact ⟨(hu x hx).1, (hu x hx).2, by omega, by omega⟩
theorem rAdd_q {p q : Rat} {s : Nat} (hp : Sz s p) (hq : Sz s q) (h1 : 1 ≤ s) (hs : s ≤ 200000) : Ev (fun k => codewrightref02_Add.f k (rep p).1 (rep p).2.1 (rep p).2.2 (rep q).1 (rep q).2.1 (rep q).2.2) (rep (p + q)) := by
  have h := rAdd02_f (a := ⟨(rep p).1, (rep p).2.1, (rep p).2.2⟩) (b := ⟨(rep q).1, (rep q).2.1, (rep q).2.2⟩) (ok_rep hp) (ok_rep hq) h1 hs
  rw [v67_rep, v67_rep] at h; exact h
end Go.Proofs.Ytecfdemglbfnoaa.Num
namespace Go.Proofs.Ytecfdemglbfnoaa.Pure
open Go.RowKit Go.Proofs.Ytecfdemglbfnoaa.PT Go.Proofs.Ytecfdemglbfnoaa.Num
theorem u32_U {l : List Int} (h : ∀ x ∈ l, IntKind.u32.min ≤ x ∧ x ≤ IntKind.u32.max) : U l := by
  intro x hx
  have h1 := h x hx
  have e1 : IntKind.u32.min = 0 := rfl
  have e2 : IntKind.u32.max = 4294967295 := rfl
  omega
abbrev QL67 (l : List S67) : Prop := l.length * 56 ≤ reachBytes ∧ ∀ x ∈ l, (True ∧ (x.f1.length * 4 ≤ reachBytes ∧ ∀ y ∈ x.f1, IntKind.u32.min ≤ y ∧ y ≤ IntKind.u32.max) ∧ (x.f2.length * 4 ≤ reachBytes ∧ ∀ y ∈ x.f2, IntKind.u32.min ≤ y ∧ y ≤ IntKind.u32.max))
theorem QL67_U {l : List S67} (h : QL67 l) : ∀ x ∈ l, U x.f1 ∧ U x.f2 := fun x hx => ⟨u32_U (h.2 x hx).2.1.2, u32_U (h.2 x hx).2.2.2⟩
theorem QL67_len {l : List S67} (h : QL67 l) : l.length < 2305843009213693952 ∧ ∀ x ∈ l, x.f1.length < 2305843009213693952 ∧ x.f2.length < 2305843009213693952 := by
  have hR : reachBytes = 140737488351232 := rfl
  exact ⟨by have := h.1; omega, fun x hx => ⟨by have := (h.2 x hx).2.1.1; omega, by have := (h.2 x hx).2.2.1; omega⟩⟩
end Go.Proofs.Ytecfdemglbfnoaa.Pure
end
section
namespace Go.Proofs.Ytecfdemglbfnoaa.Num
open Go.RowKit Go.Proofs.Ytecfdemglbfnoaa.PT Go.Proofs.YtecfdemglbfnoaaW.PrintWords Go.Proofs.YtecfdemglbfnoaaW.PrintLast Go.Proofs.YtecfdemglbfnoaaW.PrintMore
def dotq : List S67 → List S67 → Rat
  | x :: a, y :: b => v67 x * v67 y + dotq a b
  | _, _ => 0
theorem Dot02_l0 {m : Nat} {a b : List S67} (oa : Ok67 m a) (ob : Ok67 m b) (hm : 1 ≤ m) (hl : a.length = b.length) (hn : a.length < 4611686018427387904) (n : Nat) : ∀ (i s : Nat) (p : Rat), i + n = a.length → Sz s p → 1 ≤ s → s + (m + m + 1) * n ≤ 200000 →
    Ev (fun k => rational_Dot.l0 k a b (a.length : Int) (i : Int) (rep p).1 (rep p).2.1 (rep p).2.2) ((rep (p + dotq (a.drop i) (b.drop i))).1, (rep (p + dotq (a.drop i) (b.drop i))).2.1, (rep (p + dotq (a.drop i) (b.drop i))).2.2, 0) := by
  induction n with
  | zero =>
    intro i s p hi hp h1 hs
    have c1 : ¬ ((i : Int) < (a.length : Int)) := by omega
    refine Ev_succ ?_
    simp only [rational_Dot.l0]
    refine Ev_neg c1 (Ev_as (Ev.now _) ?_)
    rw [List.drop_eq_nil_of_le (show a.length ≤ i by omega), dotq]
    · rw [Rat.add_zero]
    · intro _ _ _ _ h; cases h
  | succ n ih =>
    intro i s p hi hp h1 hs
    have hs' : s + (m + m) + 1 + (m + m + 1) * n ≤ 200000 := by rw [Nat.mul_succ] at hs; omega
    have hia : i < a.length := by omega
    have hib : i < b.length := by omega
    have c1 : (i : Int) < (a.length : Int) := by omega
    have c2 : (i : Int) < (b.length : Int) := by omega
    have c0 : (0 : Int) ≤ (i : Int) := by omega
    have xa := oa _ (List.getElem_mem hia)
    have xb := ob _ (List.getElem_mem hib)
    have sx : Sz m (v67 a[i]) := Sz_rv xa.1 xa.2.1 xa.2.2.1 xa.2.2.2 hm
    have sy : Sz m (v67 b[i]) := Sz_rv xb.1 xb.2.1 xb.2.2.1 xb.2.2.2 hm
    have sq := Sz_mul sx sy hm
    have hm2 := Mul02_two (x := ⟨a[i].f0, a[i].f1, a[i].f2⟩) (y := ⟨b[i].f0, b[i].f1, b[i].f2⟩) xa xb hm (by omega)
    have hp' := plus_q hp sq (by omega)
    have step := ih (i + 1) (s + (m + m) + 1) (p + v67 a[i] * v67 b[i]) (by omega) (Sz_add hp sq h1) (by omega) (by omega)
    have da : a.drop i = a[i] :: a.drop (i + 1) := by rw [List.drop_eq_getElem_cons]
    have db : b.drop i = b[i] :: b.drop (i + 1) := by rw [List.drop_eq_getElem_cons]
    have ra := rd67 hia
    have rb := rd67 hib
    rw [da, db, dotq, ← Rat.add_assoc]
    have wi : wrap64 ((i : Int) + 1) = ((i + 1 : Nat) : Int) := up i (by omega)
    refine Ev_succ ?_
    simp only [rational_Dot.l0]
    refine Ev_pos c1 (Ev_pos c0 (Ev_pos c1 (Ev_pos c2 ?_)))
    rw [ra, rb, wi]
    exact Ev.bind hm2 (Ev.bind hp' step)
theorem rDot02_l0 {m : Nat} {a b : List S67} (oa : Ok67 m a) (ob : Ok67 m b) (hm : 1 ≤ m) (hl : a.length = b.length) (hn : a.length < 4611686018427387904) (n : Nat) : ∀ (i s : Nat) (p : Rat), i + n = a.length → Sz s p → 1 ≤ s → s + (m + m + 1) * n ≤ 200000 →
    Ev (fun k => codewrightref02_Dot.l0 k a b (i : Int) (rep p).1 (rep p).2.1 (rep p).2.2) (rep (p + dotq (a.drop i) (b.drop i))) := by
  induction n with
  | zero =>
    intro i s p hi hp h1 hs
    have c1 : ¬ ((i : Int) < (a.length : Int)) := by omega
    refine Ev_succ ?_
    simp only [codewrightref02_Dot.l0]
    refine Ev_neg c1 (Ev_succ ?_)
    simp only [codewrightref02_Dot.j1]
    refine Ev_neg (by decide) (Ev_as (Ev.now _) ?_)
    rw [List.drop_eq_nil_of_le (show a.length ≤ i by omega), dotq]
    · rw [Rat.add_zero]
    · intro _ _ _ _ h; cases h
  | succ n ih =>
    intro i s p hi hp h1 hs
    have hs' : s + (m + m) + 1 + (m + m + 1) * n ≤ 200000 := by rw [Nat.mul_succ] at hs; omega
    have hia : i < a.length := by omega
    have hib : i < b.length := by omega
    have c1 : (i : Int) < (a.length : Int) := by omega
    have c2 : (i : Int) < (b.length : Int) := by omega
    have c0 : (0 : Int) ≤ (i : Int) := by omega
    have xa := oa _ (List.getElem_mem hia)
    have xb := ob _ (List.getElem_mem hib)
    have sx : Sz m (v67 a[i]) := Sz_rv xa.1 xa.2.1 xa.2.2.1 xa.2.2.2 hm
    have sy : Sz m (v67 b[i]) := Sz_rv xb.1 xb.2.1 xb.2.2.1 xb.2.2.2 hm
    have sq := Sz_mul sx sy hm
    have hm2 := rMul02_f (a := a[i]) (b := b[i]) xa xb hm (by omega)
    have hp' := rAdd_q (s := s + (m + m)) (Sz_mono hp (by omega)) (Sz_mono sq (by omega)) (by omega) (by omega)
    have step := ih (i + 1) (s + (m + m) + 1) (p + v67 a[i] * v67 b[i]) (by omega) (Sz_add hp sq h1) (by omega) (by omega)
    have da : a.drop i = a[i] :: a.drop (i + 1) := by rw [List.drop_eq_getElem_cons]
    have db : b.drop i = b[i] :: b.drop (i + 1) := by rw [List.drop_eq_getElem_cons]
    have ra := rd67 hia
    have rb := rd67 hib
    rw [da, db, dotq, ← Rat.add_assoc]
    have wi : wrap64 ((i : Int) + 1) = ((i + 1 : Nat) : Int) := up i (by omega)
    refine Ev_succ ?_
    simp only [codewrightref02_Dot.l0]
    refine Ev_pos c1 (Ev_succ ?_)
    simp only [codewrightref02_Dot.j1]
    refine Ev_pos (decide_eq_true c2) (Ev_pos c0 (Ev_pos c1 (Ev_pos c2 ?_)))
    rw [ra, rb, wi]
    exact Ev.bind hm2 (Ev.bind hp' step)
theorem Sz_dotq {m : Nat} {a b : List S67} (oa : Ok67 m a) (ob : Ok67 m b) (hm : 1 ≤ m) : Sz ((m + m + 1) * a.length + 1) (dotq a b) := by
  induction a generalizing b with
  | nil => rw [dotq]; · exact Sz_zero (by omega)
           · intro _ _ _ _ h; cases h
  | cons x a ih =>
    cases b with
    | nil => rw [dotq]; · exact Sz_zero (by omega)
             · intro _ _ _ _ _ h; cases h
    | cons y b =>
      have xa := oa x (List.mem_cons_self ..)
      have xb := ob y (List.mem_cons_self ..)
      have sx : Sz m (v67 x) := Sz_rv xa.1 xa.2.1 xa.2.2.1 xa.2.2.2 hm
      have sy : Sz m (v67 y) := Sz_rv xb.1 xb.2.1 xb.2.2.1 xb.2.2.2 hm
      have h2 := ih (b := b) (fun z hz => oa z (List.mem_cons_of_mem _ hz)) (fun z hz => ob z (List.mem_cons_of_mem _ hz))
      rw [dotq]
      refine Sz_mono (Sz_add (Sz_mul sx sy hm) h2 (by omega)) ?_
      rw [List.length_cons, Nat.mul_succ]; omega
theorem Dot02_f {m : Nat} {a b : List S67} (oa : Ok67 m a) (ob : Ok67 m b) (hm : 1 ≤ m) (hl : a.length = b.length) (hs : (m + m + 1) * a.length ≤ 199999) :
    Ev (fun k => rational_Dot.f k a b) ((rep (dotq a b)).1, (rep (dotq a b)).2.1, (rep (dotq a b)).2.2, 0) := by
  have hn : a.length ≤ (m + m + 1) * a.length := Nat.le_mul_of_pos_left _ (by omega)
  have h := Dot02_l0 oa ob hm hl (by omega) a.length 0 1 0 (by omega) (Sz_zero (by omega)) (by omega) (by omega)
  rw [rep_zero, Rat.zero_add] at h
  exact Ev_pos (by omega) (Ev.bind (Ev.now _) h)
theorem Dot02_shape {a b : List S67} (hl : a.length ≠ b.length) : Ev (fun k => rational_Dot.f k a b) (false, [], [], 3) := Ev_neg (by omega) (Ev.now _)
theorem rDot02_f {m : Nat} {a b : List S67} (oa : Ok67 m a) (ob : Ok67 m b) (hm : 1 ≤ m) (hl : a.length = b.length) (hs : (m + m + 1) * a.length ≤ 199999) : Ev (fun k => codewrightref02_Dot.f k a b) (rep (dotq a b)) := by
  have hn : a.length ≤ (m + m + 1) * a.length := Nat.le_mul_of_pos_left _ (by omega)
  have h := rDot02_l0 oa ob hm hl (by omega) a.length 0 1 0 (by omega) (Sz_zero (by omega)) (by omega) (by omega)
  rw [Rat.zero_add] at h
  have i1 := rInt_f (x := 0) ⟨by decide, by decide⟩
  rw [divq_zero] at i1
  exact Ev.bind i1 h
theorem dots_j1 {a b : List S67} (c : Bool) (h : c = true ∨ (Ok67 4 a ∧ Ok67 4 b ∧ a.length ≤ 16 ∧ b.length ≤ 16)) : Ev (fun k => codewrightlaw02_RationalDots.j1 k a b c) true := by
  refine Ev_succ ?_
  simp only [codewrightlaw02_RationalDots.j1]
  cases c with
  | true => exact Ev_pos rfl (Ev.now _)
  | false =>
    obtain ⟨oa, ob, la, lb'⟩ := h.resolve_left (by decide)
    refine Ev_neg (by decide) ?_
    by_cases hl : a.length = b.length
    · have d1 := Dot02_f oa ob (by omega) hl (by omega)
      have d2 := rDot02_f oa ob (by omega) hl (by omega)
      have sd : Sz 200 (dotq a b) := Sz_mono (Sz_dotq oa ob (by omega)) (by omega)
      exact Ev.bind d1 (Ev_pos (by omega) (Ev_pos rfl (Ev.bind d2 (Ev.bind (same_self sd (by omega)) (Ev.now _)))))
    · exact Ev.bind (Dot02_shape hl) (Ev_neg (by omega) (Ev_pos rfl (Ev.bind (Ev.now _) (Ev.now _))))
theorem dots_j0 {a b : List S67} (c : Bool) (h : c = true ∨ (Ok67 4 a ∧ Ok67 4 b)) : Ev (fun k => codewrightlaw02_RationalDots.j0 k a b c) true := by
  refine Ev_succ ?_
  simp only [codewrightlaw02_RationalDots.j0]
  cases c with
  | true => exact Ev_pos rfl (Ev.now _)
  | false =>
    obtain ⟨oa, ob⟩ := h.resolve_left (by decide)
    refine Ev_neg (by decide) ?_
    by_cases h1 : (a.length : Int) > 16
    · exact Ev_pos h1 (dots_j1 true (.inl rfl))
    · refine Ev_neg h1 (dots_j1 _ ?_)
      by_cases h2 : (b.length : Int) > 16
      · exact .inl (decide_eq_true h2)
      · exact .inr ⟨oa, ob, by omega, by omega⟩
theorem dots_f {a b : List S67} (la : a.length < 2305843009213693952) (lb' : b.length < 2305843009213693952) (ua : ∀ x ∈ a, U x.f1 ∧ U x.f2) (ub : ∀ x ∈ b, U x.f1 ∧ U x.f2)
    (ha : ∀ x ∈ a, x.f1.length < 2305843009213693952 ∧ x.f2.length < 2305843009213693952) (hb : ∀ x ∈ b, x.f1.length < 2305843009213693952 ∧ x.f2.length < 2305843009213693952) : Ev (fun k => codewrightlaw02_RationalDots.f k a b) true := by
  have g1 := long02_f 4 a (by omega) ha
  have g2 := long02_f 4 b (by omega) hb
  refine Ev.bind g1 ?_
  by_cases c : (a.any fun x => decide (4 < x.f1.length + x.f2.length)) = true
  · exact Ev_pos c (dots_j0 true (.inl rfl))
  · refine Ev_neg c (Ev.bind g2 (dots_j0 _ ?_))
    by_cases d : (b.any fun x => decide (4 < x.f1.length + x.f2.length)) = true
    · exact .inl d
    · exact .inr ⟨Ok67_of ua (Bool.eq_false_iff.mpr c), Ok67_of ub (Bool.eq_false_iff.mpr d)⟩
end Go.Proofs.Ytecfdemglbfnoaa.Num
namespace Go.Proofs.Ytecfdemglbfnoaa.Pure
open Go.RowKit Go.Proofs.Ytecfdemglbfnoaa.PT Go.Proofs.Ytecfdemglbfnoaa.Num
theorem RationalDots (l : List S67) (h : QL67 l) (m : List S67) (h' : QL67 m) : ∃ k, codewrightlaw02_RationalDots.f k l m = some true :=
  (dots_f (QL67_len h).1 (QL67_len h').1 (QL67_U h) (QL67_U h') (QL67_len h).2 (QL67_len h').2).rounds
end Go.Proofs.Ytecfdemglbfnoaa.Pure
end
section
namespace Go.Proofs.Ytecfdemglbfnoaa.Open
open Go.ChangeShapes Go.WideShapes Go.Deep Go.Proofs.YtecfdemglbfnoaaW.PrintWords
section
variable {H : Type} (enc : TypeId × Value → H) (P : Program) (W : World)
def Op {α : Type} (d : Kd α) (Q : α → Prop) (t : TypeId) : Prop :=
  ∀ (fuel : Nat) (cs : List Value) (x : DataW H × List MemPlace), DataW.trod enc P W 0 (fun _ => true) true fuel t cs = some x → (∀ n ∈ x.1.weights P t, n ≤ reachBytes) → ∃ y, d.K W y cs ∧ Q y
end
section
variable {H : Type} {enc : TypeId × Value → H} {P : Program} {W : World}
theorem op_int {t : TypeId} {k : IntKind} (ht : P.underlying t = some (.int k)) : Op enc P W (Kd.int k) (fun n => k.min ≤ n ∧ n ≤ k.max) t := by
  intro fuel cs x h _
  obtain ⟨n, rfl, _, hw⟩ := DataW.trod_int ht h
  exact ⟨n, rfl, by simpa [Lit.wf] using hw⟩
theorem op_bool {t : TypeId} (ht : P.underlying t = some .bool) : Op enc P W Kd.bool (fun _ => True) t := by
  intro fuel cs x h _
  obtain ⟨n, rfl, _⟩ := DataW.trod_bool ht h
  exact ⟨n, rfl, trivial⟩
theorem mem_weightsAll {e : TypeId} {D : DataW H} : ∀ {l : List (DataW H)}, D ∈ l → ∀ n ∈ D.weights P e, n ∈ DataW.weightsAll P e l
  | d :: r, h, n, hn => by
    simp only [DataW.weightsAll, List.mem_append]
    rcases List.mem_cons.1 h with rfl | h
    · exact .inl hn
    · exact .inr (mem_weightsAll h n hn)
theorem op_slice {α : Type} {d : Kd α} {Q : α → Prop} {t e B : Nat} (ht : P.underlying t = some (.slice e)) (he : Op enc P W d Q e) (hc : P.cellsOf e = d.sz) (hB : P.bytesOf e = B) :
    Op enc P W (Kd.slice e d) (fun l => l.length * B ≤ reachBytes ∧ ∀ x ∈ l, Q x) t := by
  intro fuel cs x h hw
  rcases open_slice ht h with ⟨rfl, _⟩ | ⟨a, len, cap, m, n, D, Pl, rfl, _, hl, hm, hmm, rfl, hi⟩
  · exact ⟨[], ⟨none, 0, rfl, Nat.le_refl _, Kd.C_nil d W⟩, by simp, by simp⟩
  · simp only [if_true] at hmm
    subst hmm
    have hwl : ((DataW.slice ((List.range len).map D) ((List.range (m - len)).map fun j => D (len + j))).weights P t) = ((List.range len).map D).length.add ((List.range (m - len)).map fun j => D (len + j)).length * P.bytesOf e :: (DataW.weightsAll P e ((List.range len).map D) ++ DataW.weightsAll P e ((List.range (m - len)).map fun j => D (len + j))) := by
      simp only [DataW.weights, ht]; rfl
    rw [hwl] at hw
    have each : ∀ i, i < len → ∃ y : α, (∃ cs', W.cells? 0 (a.add (i * P.cellsOf e)) (P.cellsOf e) = some cs' ∧ d.K W y cs') ∧ Q y := by
      intro i hlt
      obtain ⟨cs', h1, h2⟩ := hi i (by omega)
      obtain ⟨y, hK, hq⟩ := he _ _ _ h2 (fun n hn => hw n (List.mem_cons_of_mem _ (List.mem_append.2 (.inl (mem_weightsAll (List.mem_map.2 ⟨i, List.mem_range.2 hlt, rfl⟩) n hn)))))
      exact ⟨y, ⟨cs', h1, hK⟩, hq⟩
    have hf : ∃ f : Nat → Option α, ∀ i, i < len → ∃ y, f i = some y ∧ (∃ cs', W.cells? 0 (a.add (i * P.cellsOf e)) (P.cellsOf e) = some cs' ∧ d.K W y cs') ∧ Q y := by
      refine ⟨fun i => if h : i < len then some (Classical.choose (each i h)) else none, fun i hlt => ⟨_, dif_pos hlt, Classical.choose_spec (each i hlt)⟩⟩
    obtain ⟨f, hf⟩ := hf
    have hl1 : ((List.range len).filterMap f).length = len ∧ ∀ i, i < len → ((List.range len).filterMap f)[i]? = f i := by
      clear hw hwl each hi h hl hm
      induction len with
      | zero => simp
      | succ k ih =>
        obtain ⟨h1, h2⟩ := ih (fun i hi => hf i (by omega))
        obtain ⟨y, hy, _⟩ := hf k (by omega)
        rw [List.range_succ, List.filterMap_append]
        have e : List.filterMap f [k] = [y] := by simp [List.filterMap, hy]
        rw [e]
        refine ⟨by simp [h1], fun i hi => ?_⟩
        by_cases hk : i < k
        · rw [List.getElem?_append_left (by omega), h2 i hk]
        · obtain rfl : i = k := by omega
          rw [List.getElem?_append_right (by omega), h1]; simp [hy]
    refine ⟨(List.range len).filterMap f, ⟨some a, m, by rw [hl1.1], by rw [hl1.1]; exact hl, rfl, ?_, fun hp => ⟨a, rfl, fun j p hj => ?_⟩⟩, ?_, fun y hy => ?_⟩
    · rw [hl1.1]; unfold maxLen at hm; omega
    · have hjl : j < len := by have := (List.getElem?_eq_some_iff.1 hj).1; rw [hl1.1] at this; exact this
      obtain ⟨y, hy, ⟨cs', hc1, hK⟩, _⟩ := hf j hjl
      rw [hl1.2 j hjl, hy] at hj
      obtain rfl := Option.some.inj hj
      obtain ⟨_, hcl, hat⟩ := World.cells?_some hc1
      refine ⟨cs', d.K_len hK, hK, fun i u hu => ?_⟩
      have hil : i < P.cellsOf e := by have := (List.getElem?_eq_some_iff.1 hu).1; omega
      rw [← hc, ← Go.Deep.add_add]
      rw [hat i hil, hu]
    · have := hw _ (List.mem_cons_self ..)
      rw [hl1.1]
      have h3 : ((List.range len).map D).length.add ((List.range (m - len)).map fun j => D (len + j)).length = m := by simp; omega
      rw [h3, hB] at this
      exact Nat.le_trans (Nat.mul_le_mul_right _ hl) this
    · obtain ⟨i, hi1, hi2⟩ := List.mem_filterMap.1 hy
      obtain ⟨y', hy', _, hq⟩ := hf i (List.mem_range.1 hi1)
      rw [hy'] at hi2
      obtain rfl := Option.some.inj hi2
      exact hq
theorem op_iso {α β : Type} {d : Kd α} {Q : α → Prop} {t : TypeId} (f : β → α) (g : α → β) (hfg : ∀ x, f (g x) = x) (h : Op enc P W d Q t) : Op enc P W (Kd.iso d f) (fun y => Q (f y)) t := by
  intro fuel cs x hx hw
  obtain ⟨y, hK, hq⟩ := h fuel cs x hx hw
  exact ⟨g y, by show d.K W (f (g y)) cs; rw [hfg]; exact hK, by show Q (f (g y)); rw [hfg]; exact hq⟩
theorem take_split {cs : List Value} {a b : Nat} (h : cs.length = a + b) : cs = (cs.drop 0).take a ++ (cs.drop a).take b := by
  rw [List.drop_zero, List.take_of_length_le (l := cs.drop a) (by rw [List.length_drop]; omega), List.take_append_drop]
theorem op_triple {α β γ : Type} {a : Kd α} {b : Kd β} {c : Kd γ} {Qa : α → Prop} {Qb : β → Prop} {Qc : γ → Prop} {t : TypeId} {f0 f1 f2 : Field} (ht : P.underlying t = some (.struct #[f0, f1, f2])) (h0 : Op enc P W a Qa f0.type) (h1 : Op enc P W b Qb f1.type) (h2 : Op enc P W c Qc f2.type)
    (o0 : f0.offset = 0) (s0 : P.cellsOf f0.type = a.sz) (o1 : f1.offset = a.sz) (s1 : P.cellsOf f1.type = b.sz) (o2 : f2.offset = a.sz + b.sz) (s2 : P.cellsOf f2.type = c.sz) (st : P.cellsOf t = a.sz + (b.sz + c.sz)) :
    Op enc P W (Kd.pair a (Kd.pair b c)) (fun y => Qa y.1 ∧ Qb y.2.1 ∧ Qc y.2.2) t := by
  intro fuel cs x hx hw
  obtain ⟨xs, n, _, rfl, hcl, hlen, hf⟩ := DataW.trod_struct ht hx
  have hwl : ((DataW.agg (xs.map (·.1)) : DataW H).weights P t) = DataW.weightsEach P [f0.type, f1.type, f2.type] (xs.map (·.1)) := by
    simp only [DataW.weights, ht]; rfl
  rw [hwl] at hw
  obtain ⟨y0, y1, y2, rfl⟩ : ∃ y0 y1 y2, xs = [y0, y1, y2] := by
    match xs, hlen with
    | [y0, y1, y2], _ => exact ⟨y0, y1, y2, rfl⟩
  · have e0 := hf 0 f0 rfl
    have e1 := hf 1 f1 rfl
    have e2 := hf 2 f2 rfl
    rw [o0, s0] at e0
    rw [o1, s1] at e1
    rw [o2, s2] at e2
    simp only [List.map_cons, List.map_nil, DataW.weightsEach, List.mem_append] at hw
    obtain ⟨z0, k0, q0⟩ := h0 _ _ _ e0 (fun n hn => hw n (.inl hn))
    obtain ⟨z1, k1, q1⟩ := h1 _ _ _ e1 (fun n hn => hw n (.inr (.inl hn)))
    obtain ⟨z2, k2, q2⟩ := h2 _ _ _ e2 (fun n hn => hw n (.inr (.inr (.inl hn))))
    refine ⟨(z0, z1, z2), ⟨_, _, take_split (a := a.sz) (b := b.sz + c.sz) (by rw [hcl, st]), k0, _, _, ?_, k1, k2⟩, q0, q1, q2⟩
    rw [List.take_of_length_le (l := cs.drop a.sz) (by rw [List.length_drop, hcl, st]; omega)]
    have h4 := take_split (cs := cs.drop a.sz) (a := b.sz) (b := c.sz) (by rw [List.length_drop, hcl, st]; omega)
    rw [List.drop_zero, List.drop_drop] at h4
    exact h4
end
end Go.Proofs.Ytecfdemglbfnoaa.Open
end
