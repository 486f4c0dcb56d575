/- Walks and plain facts for the law RationalDots, several texts in one: each theorem says what it shows; no condition beyond those that it names. -/
import Derived.Test.YtecfdemglbfnoaaMRationalDotsB
section
namespace Go.Proofs.Ytecfdemglbfnoaa.PT
open Go.RowKit Go.Proofs.YtecfdemglbfnoaaW.PrintWords Go.Proofs.YtecfdemglbfnoaaW.PrintLast Go.Proofs.YtecfdemglbfnoaaW.PrintMore
attribute [local go_sem] max2_int min2_int max_two min_two max_three min_three max_four min_four
set_option linter.unusedVariables false
set_option linter.unusedSimpArgs false
set_option maxHeartbeats 8000000
set_option maxRecDepth 100000
mutual
def codewrightref01_Mul.l0 : Nat → List Int → List Int → List Int → Int → Option (List Int)
 | 0, _, _, _, _ => none
 | k + 1, x0, x1, x5, x6 => if x6 < (x0.length : Int) then (codewrightref01_Mul.l1 k x0 x1 x5 x6 0 0) else ((codewrightref01_Trim.f k x5).bind fun t369 => (some t369))
def codewrightref01_Mul.l1 : Nat → List Int → List Int → List Int → Int → Int → Int → Option (List Int)
 | 0, _, _, _, _, _, _ => none
 | k + 1, x0, x1, x5, x6, x7, x8 => if x8 < (x1.length : Int) then (if 0 ≤ x6 then (if x6 < (x0.length : Int) then (if 0 ≤ x8 then (if 0 ≤ (wrap64 (x6 + x8)) then (if (wrap64 (x6 + x8)) < (x5.length : Int) then (codewrightref01_Mul.l1 k x0 x1 (x5.set ((wrap64 (x6 + x8)) : Int).toNat ((Int.tmod (IntKind.u64.wrap ((IntKind.u64.wrap ((IntKind.u64.wrap ((IntKind.u64.wrap (rd x0 x6)) * (IntKind.u64.wrap (rd x1 x8)))) + (IntKind.u64.wrap (rd x5 (wrap64 (x6 + x8)))))) + x7)) 4294967296) % 4294967296)) x6 (IntKind.u64.wrap (Int.tdiv (IntKind.u64.wrap ((IntKind.u64.wrap ((IntKind.u64.wrap ((IntKind.u64.wrap (rd x0 x6)) * (IntKind.u64.wrap (rd x1 x8)))) + (IntKind.u64.wrap (rd x5 (wrap64 (x6 + x8)))))) + x7)) 4294967296)) (wrap64 (x8 + 1))) else (none)) else (none)) else (none)) else (none)) else (none)) else (if 0 ≤ (wrap64 (x6 + (x1.length : Int))) then (if (wrap64 (x6 + (x1.length : Int))) < (x5.length : Int) then (codewrightref01_Mul.l0 k x0 x1 (x5.set ((wrap64 (x6 + (x1.length : Int))) : Int).toNat ((x7) % 4294967296)) (wrap64 (x6 + 1))) else (none)) else (none))
end
def codewrightref01_Mul.f (k : Nat) (l0 : List Int) (l1 : List Int) : Option (List Int) := if 0 ≤ (wrap64 ((l0.length : Int) + (l1.length : Int))) then (if (wrap64 ((l0.length : Int) + (l1.length : Int)) : Int).toNat ≤ 70368744177664 then (codewrightref01_Mul.l0 k l0 l1 (List.replicate (wrap64 ((l0.length : Int) + (l1.length : Int)) : Int).toNat 0) 0) else (none)) else (none)
theorem codewrightref01_Mul.calls (k : Nat) (A0 : Option Addr) (c0 : Nat) (l0 : List Int) (A1 : Option Addr) (c1 : Nat) (l1 : List Int) (r : List Int) (w : World) (hr0 : Kd.C (Kd.int .u32) w A0 l0.length l0) (hc0 : l0.length ≤ c0) (hr1 : Kd.C (Kd.int .u32) w A1 l1.length l1) (hc1 : l1.length ≤ c1) (h : codewrightref01_Mul.f k l0 l1 = some r) :
 Calls Try.prog 57 #[.slice A0 l0.length c0, .slice A1 l1.length c1] w fun e w' => ∃ v0_ : Value, e = .returned (v0_) ∧ Kd.R (Kd.int .u32) 48 w' w.heap.size (fun _ => True) v0_ r ∧ Below w.heap.size w w' := by
 have bl := am hr0
 have br := am hc0
 clear hr0 hc0
 have bm := am hr1
 have bv := am hc1
 clear hr1 hc1
 have HB := am (Below.refl w.heap.size w)
 have H : (if 0 ≤ (wrap64 ((l0.length : Int) + (l1.length : Int))) then (if (wrap64 ((l0.length : Int) + (l1.length : Int)) : Int).toNat ≤ 70368744177664 then (codewrightref01_Mul.l0 k l0 l1 (List.replicate (wrap64 ((l0.length : Int) + (l1.length : Int)) : Int).toNat 0) 0) else (none)) else (none)) = some r := h
 clear h
 obtain ⟨ji3, hji3⟩ : ∃ j_ : Int, (wrap64 ((l0.length : Int) + (l1.length : Int))) = j_ := ⟨_, rfl⟩
 replace H : (if 0 ≤ (ji3) then (if (ji3 : Int).toNat ≤ 70368744177664 then (codewrightref01_Mul.l0 k l0 l1 (List.replicate (ji3 : Int).toNat 0) 0) else (none)) else (none)) = some r := by first | (rw [hji3] at H; exact H) | (simp only [hji3] at H ⊢; exact H)
 have hji3w : (IntKind.i64.wrap ((l0.length : Int) + (l1.length : Int))) = ji3 := (i64_w _).trans hji3
 by_cases c4 : 0 ≤ (ji3)
 ·
  rw [if_pos c4] at H
  have aL := eq_true c4
  have aM : decide (0 ≤ (ji3)) = true := decide_eq_true c4
  clear c4
  by_cases c5 : (ji3 : Int).toNat ≤ 70368744177664
  ·
   rw [if_pos c5] at H
   have aN := eq_true c5
   have aO : decide ((ji3 : Int).toNat ≤ 70368744177664) = true := decide_eq_true c5
   clear c5
   obtain ⟨aP, ak⟩ : ∃ y_ : List Int, y_ = (List.replicate (ji3 : Int).toNat 0) := ⟨_, rfl⟩
   replace H : (codewrightref01_Mul.l0 k l0 l1 aP 0) = some r := by first | (rw [ak]; with_reducible exact H) | (have H2_ := (Option.bind_some _ _).symm.trans H; rw [ak]; with_reducible exact H2_) | (have H2_ := (Option.bind_some _ _).symm.trans H; with_reducible exact H2_) | with_reducible exact H | (rw [ak]; exact H) | exact H
   have ah := am ak
   clear ak
   have H' := am H
   clear H
   go_enter Try.func57, Try.ntmps57
   go_wp2_with (first | ((with_reducible refine gate_dst (N := 15) rfl ?_); refine Kd.R_make (Kd.int .u32) _ 48 rfl (N := 15) rfl 42 _ _ rfl ji3 rfl rfl Try.underlying42 (.int .u32 0) 4 info48 rfl (by decide) (by omega) 0 (ok := fun _ => True) (okp := fun _ => True) rfl (fun _ hk => hk) trivial (of_decide_eq_true (by first | (with_reducible assumption) | assumption)) (Nat.le_trans (Nat.mul_le_mul_right _ (of_decide_eq_true (by first | (with_reducible assumption) | assumption) : ji3.toNat ≤ 70368744177664)) (by omega)) (Below.refl _ _) (Nat.le_refl _) ?_; intro aG w6 al hb hg_ hnew_; clear hg_ hnew_; (first | rw [← ah.out] at al | (simp only [Int.reduceToNat] at al; rw [← ah.out] at al)); have av := am (Kd.R_lower al (below_size (bu HB.out))); replace HB := be HB hb; clear hb al))
   repeat (go_quiet (first | ((with_reducible refine gate_dst (N := 15) rfl ?_); refine Kd.R_make (Kd.int .u32) _ 48 rfl (N := 15) rfl 42 _ _ rfl ji3 rfl rfl Try.underlying42 (.int .u32 0) 4 info48 rfl (by decide) (by omega) 0 (ok := fun _ => True) (okp := fun _ => True) rfl (fun _ hk => hk) trivial (of_decide_eq_true (by first | (with_reducible assumption) | assumption)) (Nat.le_trans (Nat.mul_le_mul_right _ (of_decide_eq_true (by first | (with_reducible assumption) | assumption) : ji3.toNat ≤ 70368744177664)) (by omega)) (Below.refl _ _) (Nat.le_refl _) ?_; intro aG w6 al hb hg_ hnew_; clear hg_ hnew_; (first | rw [← ah.out] at al | (simp only [Int.reduceToNat] at al; rw [← ah.out] at al)); have av := am (Kd.R_lower al (below_size (bu HB.out))); replace HB := be HB hb; clear hb al)); try go_wp2_with (first | ((with_reducible refine gate_dst (N := 15) rfl ?_); refine Kd.R_make (Kd.int .u32) _ 48 rfl (N := 15) rfl 42 _ _ rfl ji3 rfl rfl Try.underlying42 (.int .u32 0) 4 info48 rfl (by decide) (by omega) 0 (ok := fun _ => True) (okp := fun _ => True) rfl (fun _ hk => hk) trivial (of_decide_eq_true (by first | (with_reducible assumption) | assumption)) (Nat.le_trans (Nat.mul_le_mul_right _ (of_decide_eq_true (by first | (with_reducible assumption) | assumption) : ji3.toNat ≤ 70368744177664)) (by omega)) (Below.refl _ _) (Nat.le_refl _) ?_; intro aG w6 al hb hg_ hnew_; clear hg_ hnew_; (first | rw [← ah.out] at al | (simp only [Int.reduceToNat] at al; rw [← ah.out] at al)); have av := am (Kd.R_lower al (below_size (bu HB.out))); replace HB := be HB hb; clear hb al)))
   go_loopg [6] k (fun kq v6 w' => ∃ (au : List Int) (ab : Int), v6 = .int .i64 ab ∧ Aside0 (codewrightref01_Mul.l0 kq l0 l1 au ab = some r) ∧ Aside0 (kq ≤ k) ∧ Aside0 (Kd.R (Kd.int .u32) 48 w' w.heap.size (fun _ => True) aG au) ∧ Aside0 (Below w.heap.size w w'))
   case atStart => exact ⟨(aP), (0), (by first | rfl | (simp; done) | (simp [*]; done)), H', ⟨Nat.le_refl _⟩, ⟨by (with_reducible repeat (first | apply Kd.R_alloc | apply Kd.R_drewN | apply Kd.R_drew)); exact av.out⟩, ⟨by repeat (first | (with_reducible first | exact HB.out | apply below_alloc | apply pw_below_drewN | apply below_drew1) | exact HB.out)⟩⟩
   case round =>
    clear H'
    try clear c1
    try clear p2
    try clear c4
    try clear aL
    try clear aM
    try clear c5
    try clear aN
    try clear aO
    try clear p6
    obtain ⟨au, ab, rfl, HA, HK1, aa, HB⟩ := hrel
    cases gk with
    | zero => exact absurd HA.out (by simp [codewrightref01_Mul.l0])
    | succ k1 =>
     have H := HA.out
     clear HA
     simp only [codewrightref01_Mul.l0] at H
     by_cases c8 : ab < (l0.length : Int)
     ·
      rw [if_pos c8] at H
      have aQ : decide (ab < (l0.length : Int)) = true := decide_eq_true c8
      clear c8
      have H' := am H
      clear H
      go_wp2
      repeat (go_quiet (fail); try go_wp2)
      go_loopg [7, 8] k1 (fun kq v7 v8 w' => ∃ (ac : List Int) (ae : Int) (ad : Int), v7 = .int .u64 ae ∧ v8 = .int .i64 ad ∧ Aside0 (codewrightref01_Mul.l1 kq l0 l1 ac ab ae ad = some r) ∧ Aside0 (kq ≤ k1) ∧ Aside0 (Kd.R (Kd.int .u32) 48 w' w.heap.size (fun _ => True) aG ac) ∧ Aside0 (Below w.heap.size w w'))
      case atStart => exact ⟨(au), (0), (0), (by first | rfl | (simp; done) | (simp [*]; done)), (by first | rfl | (simp; done) | (simp [*]; done)), H', ⟨Nat.le_refl _⟩, ⟨by (with_reducible repeat (first | apply Kd.R_alloc | apply Kd.R_drewN | apply Kd.R_drew)); exact aa.out⟩, ⟨by repeat (first | (with_reducible first | exact HB.out | apply below_alloc | apply pw_below_drewN | apply below_drew1) | exact HB.out)⟩⟩
      case round =>
       clear H'
       try clear c1
       try clear p2
       try clear c4
       try clear aL
       try clear aM
       try clear c5
       try clear aN
       try clear aO
       try clear p6
       try clear c8
       try clear aQ
       try clear p2
       try clear p6
       obtain ⟨ac, ae, ad, rfl, rfl, HA, HK2, aa, HB⟩ := hrel
       cases gk with
       | zero => exact absurd HA.out (by simp [codewrightref01_Mul.l1])
       | succ k2 =>
        have H := HA.out
        clear HA
        simp only [codewrightref01_Mul.l1] at H
        by_cases c9 : ad < (l1.length : Int)
        ·
         rw [if_pos c9] at H
         have a3 : decide (ad < (l1.length : Int)) = true := decide_eq_true c9
         clear c9
         by_cases aW : 0 ≤ ab
         ·
          rw [if_pos aW] at H
          have bb : decide (0 ≤ ab) = true := decide_eq_true aW
          clear aW
          by_cases aX : ab < (l0.length : Int)
          ·
           rw [if_pos aX] at H
           have bd : decide (ab < (l0.length : Int)) = true := decide_eq_true aX
           clear aX
           by_cases aY : 0 ≤ ad
           ·
            rw [if_pos aY] at H
            have bf : decide (0 ≤ ad) = true := decide_eq_true aY
            clear aY
            obtain ⟨ji13, hji13⟩ : ∃ j_ : Int, (wrap64 (ab + ad)) = j_ := ⟨_, rfl⟩
            replace H : (if 0 ≤ (ji13) then (if (ji13) < (ac.length : Int) then (codewrightref01_Mul.l1 k2 l0 l1 (ac.set ((ji13) : Int).toNat ((Int.tmod (IntKind.u64.wrap ((IntKind.u64.wrap ((IntKind.u64.wrap ((IntKind.u64.wrap (rd l0 ab)) * (IntKind.u64.wrap (rd l1 ad)))) + (IntKind.u64.wrap (rd ac (ji13))))) + ae)) 4294967296) % 4294967296)) ab (IntKind.u64.wrap (Int.tdiv (IntKind.u64.wrap ((IntKind.u64.wrap ((IntKind.u64.wrap ((IntKind.u64.wrap (rd l0 ab)) * (IntKind.u64.wrap (rd l1 ad)))) + (IntKind.u64.wrap (rd ac (ji13))))) + ae)) 4294967296)) (wrap64 (ad + 1))) else (none)) else (none)) = some r := by first | (rw [hji13] at H; exact H) | (simp only [hji13] at H ⊢; exact H)
            have hji13w : (IntKind.i64.wrap (ab + ad)) = ji13 := (i64_w _).trans hji13
            by_cases aZ : 0 ≤ (ji13)
            ·
             rw [if_pos aZ] at H
             have bg : decide (0 ≤ (ji13)) = true := decide_eq_true aZ
             clear aZ
             by_cases a0 : (ji13) < (ac.length : Int)
             ·
              rw [if_pos a0] at H
              have bh : decide ((ji13) < (ac.length : Int)) = true := decide_eq_true a0
              clear a0
              obtain ⟨aw, an⟩ : ∃ y_ : List Int, y_ = (ac.set ((ji13) : Int).toNat ((Int.tmod (IntKind.u64.wrap ((IntKind.u64.wrap ((IntKind.u64.wrap ((IntKind.u64.wrap (rd l0 ab)) * (IntKind.u64.wrap (rd l1 ad)))) + (IntKind.u64.wrap (rd ac (ji13))))) + ae)) 4294967296) % 4294967296)) := ⟨_, rfl⟩
              replace H : (codewrightref01_Mul.l1 k2 l0 l1 aw ab (IntKind.u64.wrap (Int.tdiv (IntKind.u64.wrap ((IntKind.u64.wrap ((IntKind.u64.wrap ((IntKind.u64.wrap (rd l0 ab)) * (IntKind.u64.wrap (rd l1 ad)))) + (IntKind.u64.wrap (rd ac (ji13))))) + ae)) 4294967296)) (wrap64 (ad + 1))) = some r := by first | (rw [an]; with_reducible exact H) | (have H2_ := (Option.bind_some _ _).symm.trans H; rw [an]; with_reducible exact H2_) | (have H2_ := (Option.bind_some _ _).symm.trans H; with_reducible exact H2_) | with_reducible exact H | (rw [an]; exact H) | exact H
              have ax := am an
              clear an
              have H' := am H
              clear H
              have p372 : 0 ≤ (ab : Int) := of_decide_eq_true (by first | (with_reducible assumption) | assumption)
              have q372 : ab < (l0.length : Int) := of_decide_eq_true (by first | (with_reducible assumption) | assumption)
              obtain ⟨ad372, e372, ai⟩ := Kd.at_int bl.out ab p372 q372
              cases e372
              replace ai := (HB.out.cell (World.block_lt_of_cell? w _ ai)).trans ai
              replace p372 := eq_true p372
              replace q372 := eq_true q372
              have p373 : 0 ≤ (ad : Int) := of_decide_eq_true (by first | (with_reducible assumption) | assumption)
              have q373 : ad < (l1.length : Int) := of_decide_eq_true (by first | (with_reducible assumption) | assumption)
              obtain ⟨ad373, e373, aj⟩ := Kd.at_int bm.out ad p373 q373
              cases e373
              replace aj := (HB.out.cell (World.block_lt_of_cell? w _ aj)).trans aj
              replace p373 := eq_true p373
              replace q373 := eq_true q373
              obtain ⟨bn, aJ, a4⟩ := Kd.R_slice aa.out
              subst a4
              have p374 : 0 ≤ ((ji13) : Int) := of_decide_eq_true (by first | (with_reducible assumption) | assumption)
              have q374 : (ji13) < (ac.length : Int) := of_decide_eq_true (by first | (with_reducible assumption) | assumption)
              obtain ⟨ad374, e374, aH⟩ := Kd.at_int (Kd.R_reads' aa.out).2.2 (ji13) p374 q374
              cases e374
              replace p374 := eq_true p374
              replace q374 := eq_true q374
              have p16 : 0 ≤ ((ji13) : Int) := of_decide_eq_true (by first | (with_reducible assumption) | assumption)
              have q16 : ((ji13) : Int) < ((ac.length : Int) : Int) := of_decide_eq_true (by first | (with_reducible assumption) | assumption)
              obtain ⟨go16, bo, aR, aS, gl16, cl16, HG16⟩ := Kd.R_form aa.out (by omega)
              (first | cases aR | (injection aR with ea_ en_ ec_; (first | subst ea_ | (injection ea_ with ea_; subst ea_)); subst ec_; clear en_))
              have GB16 := am aS
              have GG16 := am HG16
              clear aS gl16 HG16
              (first | simp only [add_plain] at aH | skip)
              obtain ⟨a5, a6⟩ := Kd.R_celln 0 aa.out ((ji13) : Int) p16 q16
              replace p16 := eq_true p16
              replace q16 := eq_true q16
              obtain ⟨ay, hz18_⟩ := Kd.R_celln 0 aa.out ((ji13) : Int) (of_decide_eq_true (by first | (with_reducible assumption) | assumption)) (of_decide_eq_true (by first | (with_reducible assumption) | assumption))
              have af := Kd.R_putg aa.out ((ji13) : Int) ((Int.tmod (IntKind.u64.wrap ((IntKind.u64.wrap ((IntKind.u64.wrap ((IntKind.u64.wrap (rd l0 ab)) * (IntKind.u64.wrap (rd l1 ad)))) + (IntKind.u64.wrap (rd ac (ji13))))) + ae)) 4294967296) % 4294967296)
              go_wp2_with (first | ((with_reducible refine gate_store (t := 48) (p := 56) rfl ?_); (try (rw [drewN_self wr]; generalize hq_ : World.drewN wr _ = wr; have ao := am (Kd.R_at hq_ aa.out); have ap := am (below_at hq_ HB.out); clear hq_ aa HB; have aa := ao; have HB := ap; clear ao ap; (try (obtain ⟨ay, hz18_⟩ := Kd.R_celln 0 aa.out ((ji13) : Int) (of_decide_eq_true (by first | (with_reducible assumption) | assumption)) (of_decide_eq_true (by first | (with_reducible assumption) | assumption)))); (try (have af := Kd.R_putg aa.out ((ji13) : Int) ((Int.tmod (IntKind.u64.wrap ((IntKind.u64.wrap ((IntKind.u64.wrap ((IntKind.u64.wrap (rd l0 ab)) * (IntKind.u64.wrap (rd l1 ad)))) + (IntKind.u64.wrap (rd ac (ji13))))) + ae)) 4294967296) % 4294967296))))); refine store_event (t := 48) (p := 56) (v := ?vo_w19) (w1 := (wr.setCell ⟨go16, ((ji13) : Int).toNat, none⟩ (.int .u32 ((Int.tmod (IntKind.u64.wrap ((IntKind.u64.wrap ((IntKind.u64.wrap ((IntKind.u64.wrap (rd l0 ab)) * (IntKind.u64.wrap (rd l1 ad)))) + (IntKind.u64.wrap (rd ac (ji13))))) + ae)) 4294967296) % 4294967296)))) ?hg ?ho ?hn ?hr ?_; (case ho => rfl); (case hg => rfl); (case hn => rfl); (case hr => first | (go_simp; done) | (go_simp; rfl)); intro az hw; have hg : wr.grownBy az (some go16) := (by rw [hw]; exact af.2); have hp_ : Kd.R (Kd.int .u32) 48 az w.heap.size (fun _ => True) (.slice (some ⟨go16, 0, none⟩) ac.length aJ) aw := (by rw [hw, ax.out]; exact af.1); clear af; replace aa := am (hp_); replace HB := am ((by rw [hw]; exact below_set (HB.out) GB16.out : Below w.heap.size w az)); clear hg hw hp_))
              repeat (go_quiet (first | ((with_reducible refine gate_store (t := 48) (p := 56) rfl ?_); (try (rw [drewN_self wr]; generalize hq_ : World.drewN wr _ = wr; have ao := am (Kd.R_at hq_ aa.out); have ap := am (below_at hq_ HB.out); clear hq_ aa HB; have aa := ao; have HB := ap; clear ao ap; (try (obtain ⟨ay, hz18_⟩ := Kd.R_celln 0 aa.out ((ji13) : Int) (of_decide_eq_true (by first | (with_reducible assumption) | assumption)) (of_decide_eq_true (by first | (with_reducible assumption) | assumption)))); (try (have af := Kd.R_putg aa.out ((ji13) : Int) ((Int.tmod (IntKind.u64.wrap ((IntKind.u64.wrap ((IntKind.u64.wrap ((IntKind.u64.wrap (rd l0 ab)) * (IntKind.u64.wrap (rd l1 ad)))) + (IntKind.u64.wrap (rd ac (ji13))))) + ae)) 4294967296) % 4294967296))))); refine store_event (t := 48) (p := 56) (v := ?vo_w19) (w1 := (wr.setCell ⟨go16, ((ji13) : Int).toNat, none⟩ (.int .u32 ((Int.tmod (IntKind.u64.wrap ((IntKind.u64.wrap ((IntKind.u64.wrap ((IntKind.u64.wrap (rd l0 ab)) * (IntKind.u64.wrap (rd l1 ad)))) + (IntKind.u64.wrap (rd ac (ji13))))) + ae)) 4294967296) % 4294967296)))) ?hg ?ho ?hn ?hr ?_; (case ho => rfl); (case hg => rfl); (case hn => rfl); (case hr => first | (go_simp; done) | (go_simp; rfl)); intro az hw; have hg : wr.grownBy az (some go16) := (by rw [hw]; exact af.2); have hp_ : Kd.R (Kd.int .u32) 48 az w.heap.size (fun _ => True) (.slice (some ⟨go16, 0, none⟩) ac.length aJ) aw := (by rw [hw, ax.out]; exact af.1); clear af; replace aa := am (hp_); replace HB := am ((by rw [hw]; exact below_set (HB.out) GB16.out : Below w.heap.size w az)); clear hg hw hp_)); try go_wp2_with (first | ((with_reducible refine gate_store (t := 48) (p := 56) rfl ?_); (try (rw [drewN_self wr]; generalize hq_ : World.drewN wr _ = wr; have ao := am (Kd.R_at hq_ aa.out); have ap := am (below_at hq_ HB.out); clear hq_ aa HB; have aa := ao; have HB := ap; clear ao ap; (try (obtain ⟨ay, hz18_⟩ := Kd.R_celln 0 aa.out ((ji13) : Int) (of_decide_eq_true (by first | (with_reducible assumption) | assumption)) (of_decide_eq_true (by first | (with_reducible assumption) | assumption)))); (try (have af := Kd.R_putg aa.out ((ji13) : Int) ((Int.tmod (IntKind.u64.wrap ((IntKind.u64.wrap ((IntKind.u64.wrap ((IntKind.u64.wrap (rd l0 ab)) * (IntKind.u64.wrap (rd l1 ad)))) + (IntKind.u64.wrap (rd ac (ji13))))) + ae)) 4294967296) % 4294967296))))); refine store_event (t := 48) (p := 56) (v := ?vo_w19) (w1 := (wr.setCell ⟨go16, ((ji13) : Int).toNat, none⟩ (.int .u32 ((Int.tmod (IntKind.u64.wrap ((IntKind.u64.wrap ((IntKind.u64.wrap ((IntKind.u64.wrap (rd l0 ab)) * (IntKind.u64.wrap (rd l1 ad)))) + (IntKind.u64.wrap (rd ac (ji13))))) + ae)) 4294967296) % 4294967296)))) ?hg ?ho ?hn ?hr ?_; (case ho => rfl); (case hg => rfl); (case hn => rfl); (case hr => first | (go_simp; done) | (go_simp; rfl)); intro az hw; have hg : wr.grownBy az (some go16) := (by rw [hw]; exact af.2); have hp_ : Kd.R (Kd.int .u32) 48 az w.heap.size (fun _ => True) (.slice (some ⟨go16, 0, none⟩) ac.length aJ) aw := (by rw [hw, ax.out]; exact af.1); clear af; replace aa := am (hp_); replace HB := am ((by rw [hw]; exact below_set (HB.out) GB16.out : Below w.heap.size w az)); clear hg hw hp_)))
              go_roundg k2
              case measure => have := HK1.out; have := HK2.out; omega
              case rel => exact ⟨(aw), (IntKind.u64.wrap (Int.tdiv (IntKind.u64.wrap ((IntKind.u64.wrap ((IntKind.u64.wrap ((IntKind.u64.wrap (rd l0 ab)) * (IntKind.u64.wrap (rd l1 ad)))) + (IntKind.u64.wrap (rd ac (ji13))))) + ae)) 4294967296)), (wrap64 (ad + 1)), (by first | rfl | (simp; done) | (simp only [← hji13] <;> (first | rfl | simp)) | (simp [*]; done)), (by first | rfl | (simp; done) | (simp [*]; done)), H', ⟨by have := HK1.out; have := HK2.out; omega⟩, ⟨by (with_reducible repeat (first | apply Kd.R_alloc | apply Kd.R_drewN | apply Kd.R_drew)); exact aa.out⟩, ⟨by repeat (first | (with_reducible first | exact HB.out | apply below_alloc | apply pw_below_drewN | apply below_drew1) | exact HB.out)⟩⟩
             ·
              rw [if_neg a0] at H
              exact absurd H (by simp)
            ·
             rw [if_neg aZ] at H
             exact absurd H (by simp)
           ·
            rw [if_neg aY] at H
            exact absurd H (by simp)
          ·
           rw [if_neg aX] at H
           exact absurd H (by simp)
         ·
          rw [if_neg aW] at H
          exact absurd H (by simp)
        ·
         rw [if_neg c9] at H
         have a3 : decide (ad < (l1.length : Int)) = false := decide_eq_false c9
         clear c9
         obtain ⟨ji20, hji20⟩ : ∃ j_ : Int, (wrap64 (ab + (l1.length : Int))) = j_ := ⟨_, rfl⟩
         replace H : (if 0 ≤ (ji20) then (if (ji20) < (ac.length : Int) then (codewrightref01_Mul.l0 k2 l0 l1 (ac.set ((ji20) : Int).toNat ((ae) % 4294967296)) (wrap64 (ab + 1))) else (none)) else (none)) = some r := by first | (rw [hji20] at H; exact H) | (simp only [hji20] at H ⊢; exact H)
         have hji20w : (IntKind.i64.wrap (ab + (l1.length : Int))) = ji20 := (i64_w _).trans hji20
         by_cases a1 : 0 ≤ (ji20)
         ·
          rw [if_pos a1] at H
          have bi : decide (0 ≤ (ji20)) = true := decide_eq_true a1
          clear a1
          by_cases a2 : (ji20) < (ac.length : Int)
          ·
           rw [if_pos a2] at H
           have bj : decide ((ji20) < (ac.length : Int)) = true := decide_eq_true a2
           clear a2
           obtain ⟨aA, aq⟩ : ∃ y_ : List Int, y_ = (ac.set ((ji20) : Int).toNat ((ae) % 4294967296)) := ⟨_, rfl⟩
           replace H : (codewrightref01_Mul.l0 k2 l0 l1 aA (wrap64 (ab + 1))) = some r := by first | (rw [aq]; with_reducible exact H) | (have H2_ := (Option.bind_some _ _).symm.trans H; rw [aq]; with_reducible exact H2_) | (have H2_ := (Option.bind_some _ _).symm.trans H; with_reducible exact H2_) | with_reducible exact H | (rw [aq]; exact H) | exact H
           have aB := am aq
           clear aq
           have H' := am H
           clear H
           have p23 : 0 ≤ ((ji20) : Int) := of_decide_eq_true (by first | (with_reducible assumption) | assumption)
           have q23 : ((ji20) : Int) < ((ac.length : Int) : Int) := of_decide_eq_true (by first | (with_reducible assumption) | assumption)
           obtain ⟨go23, aK, aT, aU, gl23, cl23, HG23⟩ := Kd.R_form aa.out (by omega)
           (first | cases aT | (injection aT with ea_ en_ ec_; (first | subst ea_ | (injection ea_ with ea_; subst ea_)); subst ec_; clear en_))
           have GB23 := am aU
           have GG23 := am HG23
           clear aU gl23 HG23
           obtain ⟨a7, a8⟩ := Kd.R_celln 0 aa.out ((ji20) : Int) p23 q23
           replace p23 := eq_true p23
           replace q23 := eq_true q23
           obtain ⟨aC, hz24_⟩ := Kd.R_celln 0 aa.out ((ji20) : Int) (of_decide_eq_true (by first | (with_reducible assumption) | assumption)) (of_decide_eq_true (by first | (with_reducible assumption) | assumption))
           have ag := Kd.R_putg aa.out ((ji20) : Int) ((ae) % 4294967296)
           go_wp2_with (first | ((with_reducible refine gate_store (t := 48) (p := 66) rfl ?_); (try (rw [drewN_self wr]; generalize hq_ : World.drewN wr _ = wr; have ao := am (Kd.R_at hq_ aa.out); have ap := am (below_at hq_ HB.out); clear hq_ aa HB; have aa := ao; have HB := ap; clear ao ap; (try (obtain ⟨aC, hz24_⟩ := Kd.R_celln 0 aa.out ((ji20) : Int) (of_decide_eq_true (by first | (with_reducible assumption) | assumption)) (of_decide_eq_true (by first | (with_reducible assumption) | assumption)))); (try (have ag := Kd.R_putg aa.out ((ji20) : Int) ((ae) % 4294967296))))); refine store_event (t := 48) (p := 66) (v := ?vo_w25) (w1 := (wr.setCell ⟨go23, ((ji20) : Int).toNat, none⟩ (.int .u32 ((ae) % 4294967296)))) ?hg ?ho ?hn ?hr ?_; (case ho => rfl); (case hg => rfl); (case hn => rfl); (case hr => first | (go_simp; done) | (go_simp; rfl)); intro aD hw; have hg : wr.grownBy aD (some go23) := (by rw [hw]; exact ag.2); have hp_ : Kd.R (Kd.int .u32) 48 aD w.heap.size (fun _ => True) (.slice (some ⟨go23, 0, none⟩) ac.length aK) aA := (by rw [hw, aB.out]; exact ag.1); clear ag; replace aa := am (hp_); replace HB := am ((by rw [hw]; exact below_set (HB.out) GB23.out : Below w.heap.size w aD)); clear hg hw hp_))
           repeat (go_quiet (first | ((with_reducible refine gate_store (t := 48) (p := 66) rfl ?_); (try (rw [drewN_self wr]; generalize hq_ : World.drewN wr _ = wr; have ao := am (Kd.R_at hq_ aa.out); have ap := am (below_at hq_ HB.out); clear hq_ aa HB; have aa := ao; have HB := ap; clear ao ap; (try (obtain ⟨aC, hz24_⟩ := Kd.R_celln 0 aa.out ((ji20) : Int) (of_decide_eq_true (by first | (with_reducible assumption) | assumption)) (of_decide_eq_true (by first | (with_reducible assumption) | assumption)))); (try (have ag := Kd.R_putg aa.out ((ji20) : Int) ((ae) % 4294967296))))); refine store_event (t := 48) (p := 66) (v := ?vo_w25) (w1 := (wr.setCell ⟨go23, ((ji20) : Int).toNat, none⟩ (.int .u32 ((ae) % 4294967296)))) ?hg ?ho ?hn ?hr ?_; (case ho => rfl); (case hg => rfl); (case hn => rfl); (case hr => first | (go_simp; done) | (go_simp; rfl)); intro aD hw; have hg : wr.grownBy aD (some go23) := (by rw [hw]; exact ag.2); have hp_ : Kd.R (Kd.int .u32) 48 aD w.heap.size (fun _ => True) (.slice (some ⟨go23, 0, none⟩) ac.length aK) aA := (by rw [hw, aB.out]; exact ag.1); clear ag; replace aa := am (hp_); replace HB := am ((by rw [hw]; exact below_set (HB.out) GB23.out : Below w.heap.size w aD)); clear hg hw hp_)); try go_wp2_with (first | ((with_reducible refine gate_store (t := 48) (p := 66) rfl ?_); (try (rw [drewN_self wr]; generalize hq_ : World.drewN wr _ = wr; have ao := am (Kd.R_at hq_ aa.out); have ap := am (below_at hq_ HB.out); clear hq_ aa HB; have aa := ao; have HB := ap; clear ao ap; (try (obtain ⟨aC, hz24_⟩ := Kd.R_celln 0 aa.out ((ji20) : Int) (of_decide_eq_true (by first | (with_reducible assumption) | assumption)) (of_decide_eq_true (by first | (with_reducible assumption) | assumption)))); (try (have ag := Kd.R_putg aa.out ((ji20) : Int) ((ae) % 4294967296))))); refine store_event (t := 48) (p := 66) (v := ?vo_w25) (w1 := (wr.setCell ⟨go23, ((ji20) : Int).toNat, none⟩ (.int .u32 ((ae) % 4294967296)))) ?hg ?ho ?hn ?hr ?_; (case ho => rfl); (case hg => rfl); (case hn => rfl); (case hr => first | (go_simp; done) | (go_simp; rfl)); intro aD hw; have hg : wr.grownBy aD (some go23) := (by rw [hw]; exact ag.2); have hp_ : Kd.R (Kd.int .u32) 48 aD w.heap.size (fun _ => True) (.slice (some ⟨go23, 0, none⟩) ac.length aK) aA := (by rw [hw, aB.out]; exact ag.1); clear ag; replace aa := am (hp_); replace HB := am ((by rw [hw]; exact below_set (HB.out) GB23.out : Below w.heap.size w aD)); clear hg hw hp_)))
           go_roundg k2
           case measure => have := HK1.out; have := HK2.out; omega
           case rel => exact ⟨(aA), (wrap64 (ab + 1)), (by first | rfl | (simp; done) | (simp [*]; done)), H', ⟨by have := HK1.out; have := HK2.out; omega⟩, ⟨by (with_reducible repeat (first | apply Kd.R_alloc | apply Kd.R_drewN | apply Kd.R_drew)); exact aa.out⟩, ⟨by repeat (first | (with_reducible first | exact HB.out | apply below_alloc | apply pw_below_drewN | apply below_drew1) | exact HB.out)⟩⟩
          ·
           rw [if_neg a2] at H
           exact absurd H (by simp)
         ·
          rw [if_neg a1] at H
          exact absurd H (by simp)
     ·
      rw [if_neg c8] at H
      have aQ : decide (ab < (l0.length : Int)) = false := decide_eq_false c8
      clear c8
      obtain ⟨aI, a9, H⟩ := bs H
      replace H : (some aI) = some r := H
      obtain rfl := Option.some.inj H
      obtain ⟨bp, bq, ba⟩ := Kd.R_slice aa.out
      subst ba
      go_wp2_with (first | (go_at_call 144; (with_reducible refine (codewrightref01_Trim.calls k1 _ _ au aI _ ?side1 ?side2 a9.out).mono ?_); (case side1 => exact cu (Kd.R_reads' aa.out).2.2); (case side2 => exact (Kd.R_reads' aa.out).2.1); rintro e bk ⟨aV, rfl, aE, hb⟩; have aF := am (Kd.R_lower (Kd.R_new' aE (Kd.R_lt (by (with_reducible repeat (first | apply Kd.R_alloc | apply Kd.R_drewN | apply Kd.R_drew)); exact aa.out))) (below_size (bu HB.out))); replace aa := am (Kd.R_elder' (by (with_reducible repeat (first | apply Kd.R_alloc | apply Kd.R_drewN | apply Kd.R_drew)); exact aa.out) (Kd.R_base aE) hb); replace HB := be HB hb; (try clear hb); (try clear aE)))
      repeat (go_quiet (first | (go_at_call 144; (with_reducible refine (codewrightref01_Trim.calls k1 _ _ au aI _ ?side1 ?side2 a9.out).mono ?_); (case side1 => exact cu (Kd.R_reads' aa.out).2.2); (case side2 => exact (Kd.R_reads' aa.out).2.1); rintro e bk ⟨aV, rfl, aE, hb⟩; have aF := am (Kd.R_lower (Kd.R_new' aE (Kd.R_lt (by (with_reducible repeat (first | apply Kd.R_alloc | apply Kd.R_drewN | apply Kd.R_drew)); exact aa.out))) (below_size (bu HB.out))); replace aa := am (Kd.R_elder' (by (with_reducible repeat (first | apply Kd.R_alloc | apply Kd.R_drewN | apply Kd.R_drew)); exact aa.out) (Kd.R_base aE) hb); replace HB := be HB hb; (try clear hb); (try clear aE))); try go_wp2_with (first | (go_at_call 144; (with_reducible refine (codewrightref01_Trim.calls k1 _ _ au aI _ ?side1 ?side2 a9.out).mono ?_); (case side1 => exact cu (Kd.R_reads' aa.out).2.2); (case side2 => exact (Kd.R_reads' aa.out).2.1); rintro e bk ⟨aV, rfl, aE, hb⟩; have aF := am (Kd.R_lower (Kd.R_new' aE (Kd.R_lt (by (with_reducible repeat (first | apply Kd.R_alloc | apply Kd.R_drewN | apply Kd.R_drew)); exact aa.out))) (below_size (bu HB.out))); replace aa := am (Kd.R_elder' (by (with_reducible repeat (first | apply Kd.R_alloc | apply Kd.R_drewN | apply Kd.R_drew)); exact aa.out) (Kd.R_base aE) hb); replace HB := be HB hb; (try clear hb); (try clear aE))))
      go_ret
      exact ⟨_, by first | rfl | (simp [errW_none, errW_some] <;> rfl) | (simp only [← hji3]; first | rfl | (simp [errW_none, errW_some] <;> rfl)) | (simp [*, errW_none, errW_some] <;> rfl), by (with_reducible repeat (first | apply Kd.R_alloc | apply Kd.R_drewN | apply Kd.R_drew)); exact Kd.R_mono aF.out (fun _ hk => trivial), by repeat (first | (with_reducible first | exact HB.out | apply below_alloc | apply pw_below_drewN | apply below_drew1) | exact HB.out)⟩
  ·
   rw [if_neg c5] at H
   exact absurd H (by simp)
 ·
  rw [if_neg c4] at H
  exact absurd H (by simp)
def codewrightref01_Cmp.l0 : Nat → List Int → List Int → Int → Option (Int)
 | 0, _, _, _ => none
 | k + 1, x0, x1, x5 => if x5 ≥ 0 then ((codewrightref01_limb.f x0 x5).bind fun t389 => ((codewrightref01_limb.f x1 x5).bind fun t390 => (if t389 < t390 then (some (-1)) else ((codewrightref01_limb.f x0 x5).bind fun t391 => ((codewrightref01_limb.f x1 x5).bind fun t392 => (if t391 > t392 then (some 1) else (codewrightref01_Cmp.l0 k x0 x1 (wrap64 (x5 - 1))))))))) else (some 0)
def codewrightref01_Cmp.f (k : Nat) (l0 : List Int) (l1 : List Int) : Option (Int) := codewrightref01_Cmp.l0 k l0 l1 (wrap64 ((mx (l0.length : Int) (l1.length : Int)) - 1))
theorem codewrightref01_Cmp.calls (k : Nat) (A0 : Option Addr) (c0 : Nat) (l0 : List Int) (A1 : Option Addr) (c1 : Nat) (l1 : List Int) (r : Int) (w : World) (hr0 : Kd.C (Kd.int .u32) w A0 l0.length l0) (hc0 : l0.length ≤ c0) (hr1 : Kd.C (Kd.int .u32) w A1 l1.length l1) (hc1 : l1.length ≤ c1) (h : codewrightref01_Cmp.f k l0 l1 = some r) :
 Calls Try.prog 59 #[.slice A0 l0.length c0, .slice A1 l1.length c1] w fun e w' => e = .returned (.int .i64 r) ∧ Below w.heap.size w w' := by
 have ai := am hr0
 have af := am hc0
 clear hr0 hc0
 have aj := am hr1
 have ag := am hc1
 clear hr1 hc1
 have HB := am (Below.refl w.heap.size w)
 have H : (codewrightref01_Cmp.l0 k l0 l1 (wrap64 ((mx (l0.length : Int) (l1.length : Int)) - 1))) = some r := h
 clear h
 obtain ⟨ji3, hji3⟩ : ∃ j_ : Int, (mx (l0.length : Int) (l1.length : Int)) = j_ := ⟨_, rfl⟩
 replace H : (codewrightref01_Cmp.l0 k l0 l1 (wrap64 ((ji3) - 1))) = some r := by first | (rw [hji3] at H; exact H) | (simp only [hji3] at H ⊢; exact H)
 (try (have hji3l : 0 ≤ ji3 := by (rw [← hji3]; unfold mx; (repeat' split) <;> omega)))
 (try (have hji3m : 0 ≤ ji3 := by omega))
 have hji3n : (if l0.length < l1.length then (l1.length : Int) else (l0.length : Int)) = ji3 := by (rw [← hji3]; unfold mx; (repeat' split) <;> omega)
 have hji3_ : (if (l0.length : Int) < (l1.length : Int) then (l1.length : Int) else (l0.length : Int)) = ji3 := hji3
 have H' := am H
 clear H
 go_enter Try.func59, Try.ntmps59
 go_wp2
 go_loopg [5] k (fun kq v5 w' => ∃ (aa : Int), v5 = .int .i64 aa ∧ Aside0 (codewrightref01_Cmp.l0 kq l0 l1 aa = some r) ∧ Aside0 (kq ≤ k) ∧ Aside0 (Below w.heap.size w w'))
 case atStart => exact ⟨(wrap64 ((ji3) - 1)), (by first | rfl | (simp; done) | (simp only [← hji3] <;> (first | rfl | simp)) | (simp [*]; done)), H', ⟨Nat.le_refl _⟩, ⟨by repeat (first | (with_reducible first | exact HB.out | apply below_alloc | apply pw_below_drewN | apply below_drew1) | exact HB.out)⟩⟩
 case round =>
  clear H'
  try clear c1
  try clear p2
  obtain ⟨aa, rfl, HA, HK1, HB⟩ := hrel
  cases gk with
  | zero => exact absurd HA.out (by simp [codewrightref01_Cmp.l0])
  | succ k1 =>
   have H := HA.out
   clear HA
   simp only [codewrightref01_Cmp.l0] at H
   by_cases c4 : aa ≥ 0
   ·
    rw [if_pos c4] at H
    have al : decide (0 ≤ aa) = true := decide_eq_true c4
    clear c4
    obtain ⟨ab, A5, H⟩ := bs H
    (try dsimp -simprocs only at H)
    obtain ⟨ac, A6, H⟩ := bs H
    (try dsimp -simprocs only at H)
    by_cases c7 : ab < ac
    ·
     rw [if_pos c7] at H
     have an : decide (ab < ac) = true := decide_eq_true c7
     clear c7
     obtain rfl := Option.some.inj H
     go_wp2_with (first | ((with_reducible refine gate_callee (f := 143) rfl ?_); refine goesL_ (some 18) rfl rfl Try.func143 (by kernel_rfl) rfl #[.slice A0 l0.length c0, .int .i64 aa] rfl lu ?_; (with_reducible refine (codewrightref01_limb.calls _ _ l0 aa ab _ ?side1 ?side2 A5.out).mono ?_); (case side1 => repeat (first | exact (Kd.C_below ai.out HB.out) | (with_reducible refine Kd.C_alloc ?_ _) | (with_reducible refine Kd.C_drewN ?_ _) | (with_reducible refine Kd.C_drew ?_))); (case side2 => first | exact af.out | exact vz af.out); rintro e w' ⟨rfl, ⟨nd, rfl⟩⟩; refine ⟨_, rfl, ?_⟩) | ((with_reducible refine gate_callee (f := 143) rfl ?_); refine goesL_ (some 21) rfl rfl Try.func143 (by kernel_rfl) rfl #[.slice A1 l1.length c1, .int .i64 aa] rfl lu ?_; (with_reducible refine (codewrightref01_limb.calls _ _ l1 aa ac _ ?side1 ?side2 A6.out).mono ?_); (case side1 => repeat (first | exact (Kd.C_below aj.out (bu HB.out)) | (with_reducible refine Kd.C_alloc ?_ _) | (with_reducible refine Kd.C_drewN ?_ _) | (with_reducible refine Kd.C_drew ?_))); (case side2 => first | exact ag.out | exact vz ag.out); rintro e w' ⟨rfl, ⟨nd, rfl⟩⟩; refine ⟨_, rfl, ?_⟩))
     go_ret
     exact ⟨by first | rfl | (simp [errW_none, errW_some] <;> rfl) | (simp only [← hji3]; first | rfl | (simp [errW_none, errW_some] <;> rfl)) | (simp [*, errW_none, errW_some] <;> rfl), by repeat (first | (with_reducible first | exact HB.out | apply below_alloc | apply pw_below_drewN | apply below_drew1) | exact HB.out)⟩
    ·
     rw [if_neg c7] at H
     have an : decide (ab < ac) = false := decide_eq_false c7
     clear c7
     obtain ⟨ad, A8, H⟩ := bs H
     (try dsimp -simprocs only at H)
     obtain ⟨ae, A9, H⟩ := bs H
     (try dsimp -simprocs only at H)
     by_cases ah : ad > ae
     ·
      rw [if_pos ah] at H
      have ak : decide (ae < ad) = true := decide_eq_true ah
      clear ah
      obtain rfl := Option.some.inj H
      go_wp2_with (first | ((with_reducible refine gate_callee (f := 143) rfl ?_); refine goesL_ (some 18) rfl rfl Try.func143 (by kernel_rfl) rfl #[.slice A0 l0.length c0, .int .i64 aa] rfl lu ?_; (with_reducible refine (codewrightref01_limb.calls _ _ l0 aa ab _ ?side1 ?side2 A5.out).mono ?_); (case side1 => repeat (first | exact (Kd.C_below ai.out HB.out) | (with_reducible refine Kd.C_alloc ?_ _) | (with_reducible refine Kd.C_drewN ?_ _) | (with_reducible refine Kd.C_drew ?_))); (case side2 => first | exact af.out | exact vz af.out); rintro e w' ⟨rfl, ⟨nd, rfl⟩⟩; refine ⟨_, rfl, ?_⟩) | ((with_reducible refine gate_callee (f := 143) rfl ?_); refine goesL_ (some 21) rfl rfl Try.func143 (by kernel_rfl) rfl #[.slice A1 l1.length c1, .int .i64 aa] rfl lu ?_; (with_reducible refine (codewrightref01_limb.calls _ _ l1 aa ac _ ?side1 ?side2 A6.out).mono ?_); (case side1 => repeat (first | exact (Kd.C_below aj.out (bu HB.out)) | (with_reducible refine Kd.C_alloc ?_ _) | (with_reducible refine Kd.C_drewN ?_ _) | (with_reducible refine Kd.C_drew ?_))); (case side2 => first | exact ag.out | exact vz ag.out); rintro e w' ⟨rfl, ⟨nd, rfl⟩⟩; refine ⟨_, rfl, ?_⟩) | ((with_reducible refine gate_callee (f := 143) rfl ?_); refine goesL_ (some 25) rfl rfl Try.func143 (by kernel_rfl) rfl #[.slice A0 l0.length c0, .int .i64 aa] rfl lu ?_; (with_reducible refine (codewrightref01_limb.calls _ _ l0 aa ad _ ?side1 ?side2 A8.out).mono ?_); (case side1 => repeat (first | exact (Kd.C_below ai.out (bu HB.out)) | (with_reducible refine Kd.C_alloc ?_ _) | (with_reducible refine Kd.C_drewN ?_ _) | (with_reducible refine Kd.C_drew ?_))); (case side2 => first | exact af.out | exact vz af.out); rintro e w' ⟨rfl, ⟨nd, rfl⟩⟩; refine ⟨_, rfl, ?_⟩) | ((with_reducible refine gate_callee (f := 143) rfl ?_); refine goesL_ (some 28) rfl rfl Try.func143 (by kernel_rfl) rfl #[.slice A1 l1.length c1, .int .i64 aa] rfl lu ?_; (with_reducible refine (codewrightref01_limb.calls _ _ l1 aa ae _ ?side1 ?side2 A9.out).mono ?_); (case side1 => repeat (first | exact (Kd.C_below aj.out (bu HB.out)) | (with_reducible refine Kd.C_alloc ?_ _) | (with_reducible refine Kd.C_drewN ?_ _) | (with_reducible refine Kd.C_drew ?_))); (case side2 => first | exact ag.out | exact vz ag.out); rintro e w' ⟨rfl, ⟨nd, rfl⟩⟩; refine ⟨_, rfl, ?_⟩))
      go_ret
      exact ⟨by first | rfl | (simp [errW_none, errW_some] <;> rfl) | (simp only [← hji3]; first | rfl | (simp [errW_none, errW_some] <;> rfl)) | (simp [*, errW_none, errW_some] <;> rfl), by repeat (first | (with_reducible first | exact HB.out | apply below_alloc | apply pw_below_drewN | apply below_drew1) | exact HB.out)⟩
     ·
      rw [if_neg ah] at H
      have ak : decide (ae < ad) = false := decide_eq_false ah
      clear ah
      have H' := am H
      clear H
      go_wp2_with (first | ((with_reducible refine gate_callee (f := 143) rfl ?_); refine goesL_ (some 18) rfl rfl Try.func143 (by kernel_rfl) rfl #[.slice A0 l0.length c0, .int .i64 aa] rfl lu ?_; (with_reducible refine (codewrightref01_limb.calls _ _ l0 aa ab _ ?side1 ?side2 A5.out).mono ?_); (case side1 => repeat (first | exact (Kd.C_below ai.out HB.out) | (with_reducible refine Kd.C_alloc ?_ _) | (with_reducible refine Kd.C_drewN ?_ _) | (with_reducible refine Kd.C_drew ?_))); (case side2 => first | exact af.out | exact vz af.out); rintro e w' ⟨rfl, ⟨nd, rfl⟩⟩; refine ⟨_, rfl, ?_⟩) | ((with_reducible refine gate_callee (f := 143) rfl ?_); refine goesL_ (some 21) rfl rfl Try.func143 (by kernel_rfl) rfl #[.slice A1 l1.length c1, .int .i64 aa] rfl lu ?_; (with_reducible refine (codewrightref01_limb.calls _ _ l1 aa ac _ ?side1 ?side2 A6.out).mono ?_); (case side1 => repeat (first | exact (Kd.C_below aj.out (bu HB.out)) | (with_reducible refine Kd.C_alloc ?_ _) | (with_reducible refine Kd.C_drewN ?_ _) | (with_reducible refine Kd.C_drew ?_))); (case side2 => first | exact ag.out | exact vz ag.out); rintro e w' ⟨rfl, ⟨nd, rfl⟩⟩; refine ⟨_, rfl, ?_⟩) | ((with_reducible refine gate_callee (f := 143) rfl ?_); refine goesL_ (some 25) rfl rfl Try.func143 (by kernel_rfl) rfl #[.slice A0 l0.length c0, .int .i64 aa] rfl lu ?_; (with_reducible refine (codewrightref01_limb.calls _ _ l0 aa ad _ ?side1 ?side2 A8.out).mono ?_); (case side1 => repeat (first | exact (Kd.C_below ai.out (bu HB.out)) | (with_reducible refine Kd.C_alloc ?_ _) | (with_reducible refine Kd.C_drewN ?_ _) | (with_reducible refine Kd.C_drew ?_))); (case side2 => first | exact af.out | exact vz af.out); rintro e w' ⟨rfl, ⟨nd, rfl⟩⟩; refine ⟨_, rfl, ?_⟩) | ((with_reducible refine gate_callee (f := 143) rfl ?_); refine goesL_ (some 28) rfl rfl Try.func143 (by kernel_rfl) rfl #[.slice A1 l1.length c1, .int .i64 aa] rfl lu ?_; (with_reducible refine (codewrightref01_limb.calls _ _ l1 aa ae _ ?side1 ?side2 A9.out).mono ?_); (case side1 => repeat (first | exact (Kd.C_below aj.out (bu HB.out)) | (with_reducible refine Kd.C_alloc ?_ _) | (with_reducible refine Kd.C_drewN ?_ _) | (with_reducible refine Kd.C_drew ?_))); (case side2 => first | exact ag.out | exact vz ag.out); rintro e w' ⟨rfl, ⟨nd, rfl⟩⟩; refine ⟨_, rfl, ?_⟩))
      go_roundg k1
      case measure => have := HK1.out; omega
      case rel => exact ⟨(wrap64 (aa - 1)), (by first | rfl | (simp; done) | (simp [*]; done)), H', ⟨by have := HK1.out; omega⟩, ⟨by repeat (first | (with_reducible first | exact HB.out | apply below_alloc | apply pw_below_drewN | apply below_drew1) | exact HB.out)⟩⟩
   ·
    rw [if_neg c4] at H
    have al : decide (0 ≤ aa) = false := decide_eq_false c4
    clear c4
    obtain rfl := Option.some.inj H
    go_wp2
    go_ret
    exact ⟨by first | rfl | (simp [errW_none, errW_some] <;> rfl) | (simp only [← hji3]; first | rfl | (simp [errW_none, errW_some] <;> rfl)) | (simp [*, errW_none, errW_some] <;> rfl), by repeat (first | (with_reducible first | exact HB.out | apply below_alloc | apply pw_below_drewN | apply below_drew1) | exact HB.out)⟩
def nat_shift.l0 : Nat → List Int → Int → List Int → Int → List Int → Int → Int → Option (List Int)
 | 0, _, _, _, _, _, _, _ => none
 | k + 1, x0, x1, x5, x6, x14, x15, x16 => if x16 < x15 then (if 0 ≤ x16 then (if x16 < (x14.length : Int) then (if 0 ≤ x1 then (if x16 < (x5.length : Int) then (nat_shift.l0 k x0 x1 (x5.set (x16 : Int).toNat ((Go.bits .or .u64 (shl .u64 (IntKind.u64.wrap (rd x14 x16)) x1) x6) % 4294967296)) ((Go.bits .or .u64 (shl .u64 (IntKind.u64.wrap (rd x14 x16)) x1) x6) / 4294967296) x14 x15 (wrap64 (x16 + 1))) else (none)) else (none)) else (none)) else (none)) else (if 0 ≤ (x0.length : Int) then (if (x0.length : Int) < (x5.length : Int) then (some (x5.set ((x0.length : Int) : Int).toNat ((x6) % 4294967296))) else (none)) else (none))
def nat_shift.f (k : Nat) (l0 : List Int) (a1 : Int) : Option (List Int) := if 0 ≤ (wrap64 ((l0.length : Int) + 1)) then (if (wrap64 ((l0.length : Int) + 1) : Int).toNat ≤ 70368744177664 then (nat_shift.l0 k l0 a1 (List.replicate (wrap64 ((l0.length : Int) + 1) : Int).toNat 0) 0 l0 (l0.length : Int) 0) else (none)) else (none)
theorem nat_shift.calls (k : Nat) (A0 : Option Addr) (c0 : Nat) (l0 : List Int) (a1 : Int) (r : List Int) (w : World) (hr0 : Kd.C (Kd.int .u32) w A0 l0.length l0) (hc0 : l0.length ≤ c0) (h : nat_shift.f k l0 a1 = some r) :
 Calls Try.prog 189 #[.slice A0 l0.length c0, .int .i64 a1] w fun e w' => ∃ v0_ : Value, e = .returned (v0_) ∧ Kd.R (Kd.int .u32) 48 w' w.heap.size (fun _ => True) v0_ r ∧ Below w.heap.size w w' := by
 have a2 := am hr0
 have a5 := am hc0
 clear hr0 hc0
 have HB := am (Below.refl w.heap.size w)
 have H : (if 0 ≤ (wrap64 ((l0.length : Int) + 1)) then (if (wrap64 ((l0.length : Int) + 1) : Int).toNat ≤ 70368744177664 then (nat_shift.l0 k l0 a1 (List.replicate (wrap64 ((l0.length : Int) + 1) : Int).toNat 0) 0 l0 (l0.length : Int) 0) else (none)) else (none)) = some r := h
 clear h
 obtain ⟨ji3, hji3⟩ : ∃ j_ : Int, (wrap64 ((l0.length : Int) + 1)) = j_ := ⟨_, rfl⟩
 replace H : (if 0 ≤ (ji3) then (if (ji3 : Int).toNat ≤ 70368744177664 then (nat_shift.l0 k l0 a1 (List.replicate (ji3 : Int).toNat 0) 0 l0 (l0.length : Int) 0) else (none)) else (none)) = some r := by first | (rw [hji3] at H; exact H) | (simp only [hji3] at H ⊢; exact H)
 have hji3w : (IntKind.i64.wrap ((l0.length : Int) + 1)) = ji3 := (i64_w _).trans hji3
 by_cases c4 : 0 ≤ (ji3)
 ·
  rw [if_pos c4] at H
  have aH := eq_true c4
  have aI : decide (0 ≤ (ji3)) = true := decide_eq_true c4
  clear c4
  by_cases c5 : (ji3 : Int).toNat ≤ 70368744177664
  ·
   rw [if_pos c5] at H
   have aJ := eq_true c5
   have aK : decide ((ji3 : Int).toNat ≤ 70368744177664) = true := decide_eq_true c5
   clear c5
   obtain ⟨ap, af⟩ : ∃ y_ : List Int, y_ = (List.replicate (ji3 : Int).toNat 0) := ⟨_, rfl⟩
   replace H : (nat_shift.l0 k l0 a1 ap 0 l0 (l0.length : Int) 0) = some r := by first | (rw [af]; with_reducible exact H) | (have H2_ := (Option.bind_some _ _).symm.trans H; rw [af]; with_reducible exact H2_) | (have H2_ := (Option.bind_some _ _).symm.trans H; with_reducible exact H2_) | with_reducible exact H | (rw [af]; exact H) | exact H
   have ai := am af
   clear af
   have H' := am H
   clear H
   go_enter Try.func189, Try.ntmps189
   go_wp2_with (first | ((with_reducible refine gate_dst (N := 13) rfl ?_); refine Kd.R_make (Kd.int .u32) _ 48 rfl (N := 13) rfl 42 _ _ rfl ji3 rfl rfl Try.underlying42 (.int .u32 0) 4 info48 rfl (by decide) (by omega) 0 (ok := fun _ => True) (okp := fun _ => True) rfl (fun _ hk => hk) trivial (of_decide_eq_true (by first | (with_reducible assumption) | assumption)) (Nat.le_trans (Nat.mul_le_mul_right _ (of_decide_eq_true (by first | (with_reducible assumption) | assumption) : ji3.toNat ≤ 70368744177664)) (by omega)) (Below.refl _ _) (Nat.le_refl _) ?_; intro aL w6 aq hb hg_ hnew_; clear hg_ hnew_; (first | rw [← ai.out] at aq | (simp only [Int.reduceToNat] at aq; rw [← ai.out] at aq)); have au := am (Kd.R_lower aq (below_size (bu HB.out))); replace HB := be HB hb; clear hb aq))
   go_loopg [6, 16] k (fun kq v6 a3 w' => ∃ (ab : List Int) (ac : Int) (aa : Int), v6 = .int .u64 ac ∧ a3 = .int .i64 aa ∧ Aside0 (nat_shift.l0 kq l0 a1 ab ac l0 (l0.length : Int) aa = some r) ∧ Aside0 (kq ≤ k) ∧ Aside0 (Kd.R (Kd.int .u32) 48 w' w.heap.size (fun _ => True) aL ab) ∧ Aside0 (Below w.heap.size w w'))
   case atStart => exact ⟨(ap), (0), (0), (by first | rfl | (simp; done) | (simp [*]; done)), (by first | rfl | (simp; done) | (simp [*]; done)), H', ⟨Nat.le_refl _⟩, ⟨by (with_reducible repeat (first | apply Kd.R_alloc | apply Kd.R_drewN | apply Kd.R_drew)); exact au.out⟩, ⟨by repeat (first | (with_reducible first | exact HB.out | apply below_alloc | apply pw_below_drewN | apply below_drew1) | exact HB.out)⟩⟩
   case round =>
    clear H'
    try clear c1
    try clear p2
    try clear c4
    try clear aH
    try clear aI
    try clear c5
    try clear aJ
    try clear aK
    try clear p6
    obtain ⟨ab, ac, aa, rfl, rfl, HA, HK1, ad, HB⟩ := hrel
    cases gk with
    | zero => exact absurd HA.out (by simp [nat_shift.l0])
    | succ k1 =>
     have H := HA.out
     clear HA
     simp only [nat_shift.l0] at H
     by_cases c8 : aa < (l0.length : Int)
     ·
      rw [if_pos c8] at H
      have aM : decide (aa < (l0.length : Int)) = true := decide_eq_true c8
      clear c8
      by_cases c9 : 0 ≤ aa
      ·
       rw [if_pos c9] at H
       have a4 : decide (0 ≤ aa) = true := decide_eq_true c9
       clear c9
       by_cases aE : aa < (l0.length : Int)
       ·
        rw [if_pos aE] at H
        have aT : decide (aa < (l0.length : Int)) = true := decide_eq_true aE
        clear aE
        by_cases av : 0 ≤ a1
        ·
         rw [if_pos av] at H
         have aU := eq_true av
         have aV : decide (0 ≤ a1) = true := decide_eq_true av
         clear av
         obtain ⟨ji12, hji12⟩ : ∃ j_ : Int, (shl .u64 (IntKind.u64.wrap (rd l0 aa)) a1) = j_ := ⟨_, rfl⟩
         replace H : (if aa < (ab.length : Int) then (nat_shift.l0 k1 l0 a1 (ab.set (aa : Int).toNat ((Go.bits .or .u64 (ji12) ac) % 4294967296)) ((Go.bits .or .u64 (ji12) ac) / 4294967296) l0 (l0.length : Int) (wrap64 (aa + 1))) else (none)) = some r := by first | (rw [hji12] at H; exact H) | (simp only [hji12] at H ⊢; exact H)
         have hji12_ : (IntKind.u64.wrap ((IntKind.u64.wrap (rd l0 aa)) * 2 ^ min a1.toNat 64)) = ji12 := hji12
         have hji12z : a1 ≤ 64 → (IntKind.u64.wrap ((IntKind.u64.wrap (rd l0 aa)) * 2 ^ a1.toNat)) = ji12 := shl_small hji12
         by_cases aF : aa < (ab.length : Int)
         ·
          rw [if_pos aF] at H
          have aW : decide (aa < (ab.length : Int)) = true := decide_eq_true aF
          clear aF
          obtain ⟨aj, ag⟩ : ∃ y_ : List Int, y_ = (ab.set (aa : Int).toNat ((Go.bits .or .u64 (ji12) ac) % 4294967296)) := ⟨_, rfl⟩
          replace H : (nat_shift.l0 k1 l0 a1 aj ((Go.bits .or .u64 (ji12) ac) / 4294967296) l0 (l0.length : Int) (wrap64 (aa + 1))) = some r := by first | (rw [ag]; with_reducible exact H) | (have H2_ := (Option.bind_some _ _).symm.trans H; rw [ag]; with_reducible exact H2_) | (have H2_ := (Option.bind_some _ _).symm.trans H; with_reducible exact H2_) | with_reducible exact H | (rw [ag]; exact H) | exact H
          have aw := am ag
          clear ag
          have H' := am H
          clear H
          have p945 : 0 ≤ (aa : Int) := of_decide_eq_true (by first | (with_reducible assumption) | assumption)
          have q945 : aa < (l0.length : Int) := of_decide_eq_true (by first | (with_reducible assumption) | assumption)
          obtain ⟨ad945, e945, ae⟩ := Kd.at_int a2.out aa p945 q945
          cases e945
          replace ae := (HB.out.cell (World.block_lt_of_cell? w _ ae)).trans ae
          replace p945 := eq_true p945
          replace q945 := eq_true q945
          have p14 : 0 ≤ (aa : Int) := of_decide_eq_true (by first | (with_reducible assumption) | assumption)
          have q14 : (aa : Int) < ((ab.length : Int) : Int) := of_decide_eq_true (by first | (with_reducible assumption) | assumption)
          obtain ⟨go14, aN, ax, ay, gl14, cl14, HG14⟩ := Kd.R_form ad.out (by omega)
          (first | cases ax | (injection ax with ea_ en_ ec_; (first | subst ea_ | (injection ea_ with ea_; subst ea_)); subst ec_; clear en_))
          have GB14 := am ay
          have GG14 := am HG14
          clear ay gl14 HG14
          obtain ⟨aO, aP⟩ := Kd.R_celln 0 ad.out (aa : Int) p14 q14
          replace p14 := eq_true p14
          replace q14 := eq_true q14
          have ak := Kd.R_putg ad.out (aa : Int) ((Go.bits .or .u64 (ji12) ac) % 4294967296)
          go_wp2_with (first | ((with_reducible refine gate_store (t := 48) (p := 31) rfl ?_); refine store_event (t := 48) (p := 31) (v := ?vo_w16) (w1 := (wr.setCell ⟨go14, (aa : Int).toNat, none⟩ (.int .u32 ((Go.bits .or .u64 (ji12) ac) % 4294967296)))) ?hg ?ho ?hn ?hr ?_; (case ho => rfl); (case hg => rfl); (case hn => rfl); (case hr => first | (go_simp; done) | (go_simp; rfl)); intro aQ hw; have hg : wr.grownBy aQ (some go14) := (by rw [hw]; exact ak.2); have hp_ : Kd.R (Kd.int .u32) 48 aQ w.heap.size (fun _ => True) (.slice (some ⟨go14, 0, none⟩) ab.length aN) aj := (by rw [hw, aw.out]; exact ak.1); clear ak; replace ad := am (hp_); replace HB := am ((by rw [hw]; exact below_set (HB.out) GB14.out : Below w.heap.size w aQ)); clear hg hw hp_))
          go_roundg k1
          case measure => have := HK1.out; omega
          case rel => exact ⟨(aj), ((Go.bits .or .u64 (ji12) ac) / 4294967296), (wrap64 (aa + 1)), (by first | rfl | (simp; done) | (simp only [← hji12] <;> (first | rfl | simp)) | (simp [*]; done)), (by first | rfl | (simp; done) | (simp [*]; done)), H', ⟨by have := HK1.out; omega⟩, ⟨by (with_reducible repeat (first | apply Kd.R_alloc | apply Kd.R_drewN | apply Kd.R_drew)); exact ad.out⟩, ⟨by repeat (first | (with_reducible first | exact HB.out | apply below_alloc | apply pw_below_drewN | apply below_drew1) | exact HB.out)⟩⟩
         ·
          rw [if_neg aF] at H
          exact absurd H (by simp)
        ·
         rw [if_neg av] at H
         exact absurd H (by simp)
       ·
        rw [if_neg aE] at H
        exact absurd H (by simp)
      ·
       rw [if_neg c9] at H
       exact absurd H (by simp)
     ·
      rw [if_neg c8] at H
      have aM : decide (aa < (l0.length : Int)) = false := decide_eq_false c8
      clear c8
      by_cases aG : 0 ≤ (l0.length : Int)
      ·
       rw [if_pos aG] at H
       have aX : decide (0 ≤ (l0.length : Int)) = true := decide_eq_true aG
       have aY : decide (0 ≤ l0.length) = true := decide_eq_true (by omega)
       clear aG
       by_cases az : (l0.length : Int) < (ab.length : Int)
       ·
        rw [if_pos az] at H
        have aZ : decide ((l0.length : Int) < (ab.length : Int)) = true := decide_eq_true az
        have a0 : decide (l0.length < ab.length) = true := decide_eq_true (Int.ofNat_lt.mp az)
        clear az
        obtain ⟨aA, ah⟩ : ∃ y_ : List Int, y_ = (ab.set ((l0.length : Int) : Int).toNat ((ac) % 4294967296)) := ⟨_, rfl⟩
        replace H : (some aA) = some r := by first | (rw [ah]; with_reducible exact H) | (have H2_ := (Option.bind_some _ _).symm.trans H; rw [ah]; with_reducible exact H2_) | (have H2_ := (Option.bind_some _ _).symm.trans H; with_reducible exact H2_) | with_reducible exact H | (rw [ah]; exact H) | exact H
        have aB := am ah
        clear ah
        obtain rfl := Option.some.inj H
        have p19 : 0 ≤ ((l0.length : Int) : Int) := of_decide_eq_true (by first | (with_reducible assumption) | assumption)
        have q19 : ((l0.length : Int) : Int) < ((ab.length : Int) : Int) := of_decide_eq_true (by first | (with_reducible assumption) | assumption)
        obtain ⟨go19, aR, aC, aD, gl19, cl19, HG19⟩ := Kd.R_form ad.out (by omega)
        (first | cases aC | (injection aC with ea_ en_ ec_; (first | subst ea_ | (injection ea_ with ea_; subst ea_)); subst ec_; clear en_))
        have GB19 := am aD
        have GG19 := am HG19
        clear aD gl19 HG19
        obtain ⟨al, an⟩ := Kd.R_celln 0 ad.out ((l0.length : Int) : Int) p19 q19
        (try simp only [Go.IntWalk.toNatUp] at al an)
        replace p19 := eq_true p19
        replace q19 := eq_true q19
        have ao := Kd.R_putg ad.out ((l0.length : Int) : Int) ((ac) % 4294967296)
        go_wp2_with (first | ((with_reducible refine gate_store (t := 48) (p := 40) rfl ?_); refine store_event (t := 48) (p := 40) (v := ?vo_w21) (w1 := (wr.setCell ⟨go19, ((l0.length : Int) : Int).toNat, none⟩ (.int .u32 ((ac) % 4294967296)))) ?hg ?ho ?hn ?hr ?_; (case ho => rfl); (case hg => rfl); (case hn => rfl); (case hr => first | (go_simp; done) | (go_simp; rfl)); intro aS hw; have hg : wr.grownBy aS (some go19) := (by rw [hw]; exact ao.2); have hp_ : Kd.R (Kd.int .u32) 48 aS w.heap.size (fun _ => True) (.slice (some ⟨go19, 0, none⟩) ab.length aR) aA := (by rw [hw, aB.out]; exact ao.1); clear ao; replace ad := am (hp_); replace HB := am ((by rw [hw]; exact below_set (HB.out) GB19.out : Below w.heap.size w aS)); clear hg hw hp_))
        go_ret
        exact ⟨_, by first | rfl | (simp [errW_none, errW_some] <;> rfl) | (simp only [← hji3]; first | rfl | (simp [errW_none, errW_some] <;> rfl)) | (simp [*, errW_none, errW_some] <;> rfl), by (with_reducible repeat (first | apply Kd.R_alloc | apply Kd.R_drewN | apply Kd.R_drew)); exact ad.out, by repeat (first | (with_reducible first | exact HB.out | apply below_alloc | apply pw_below_drewN | apply below_drew1) | exact HB.out)⟩
       ·
        rw [if_neg az] at H
        exact absurd H (by simp)
      ·
       rw [if_neg aG] at H
       exact absurd H (by simp)
  ·
   rw [if_neg c5] at H
   exact absurd H (by simp)
 ·
  rw [if_neg c4] at H
  exact absurd H (by simp)
def bits_LeadingZeros32.f (a0 : Int) : Option (Int) := (bits_Len32.f a0).bind fun t941 => (some (wrap64 (32 - t941)))
theorem bits_LeadingZeros32.calls (a0 : Int) (r : Int) (w : World) (h : bits_LeadingZeros32.f a0 = some r) :
 Calls Try.prog 188 #[.int .u32 a0] w fun e w' => e = .returned (.int .i64 r) ∧ Drawn0 w w' := by
 have H : ((bits_Len32.f a0).bind fun aa => (some (wrap64 (32 - aa)))) = some r := h
 clear h
 obtain ⟨aa, A2, H⟩ := bs H
 replace H : (some (wrap64 (32 - aa))) = some r := H
 obtain rfl := Option.some.inj H
 go_enter Try.func188, Try.ntmps188
 go_wp2_with (first | ((with_reducible refine gate_callee (f := 181) rfl ?_); refine goesL_ (some 4) rfl rfl Try.func181 (by kernel_rfl) rfl #[.int .u32 a0] rfl lu ?_; (with_reducible refine (bits_Len32.calls a0 aa _ A2.out).mono ?_); rintro e w' ⟨rfl, ⟨nd, rfl⟩⟩; refine ⟨_, rfl, ?_⟩))
 go_ret
 exact ⟨by first | rfl | (simp; done) | (simp [*]; done), by repeat (first | exact Drawn0.refl _ | apply Drawn0.step)⟩
def semiring_cost.f (a0 : Int) : Option (Int) := some (mn (mx a0 0) 4611686018427387904)
def semiring_MinPlus_Add.f  (a1 : Int) (a2 : Int) : Option (Int) := (semiring_cost.f a1).bind fun t130 => ((semiring_cost.f a2).bind fun t131 => (some (mn t130 t131)))
def semiring_capped.f (a0 : Int) (a1 : Int) : Option (Int) := if a0 > (wrap64 (4611686018427387904 - a1)) then (some 4611686018427387904) else (some (wrap64 (a0 + a1)))
def semiring_MinPlus_Mul.f  (a1 : Int) (a2 : Int) : Option (Int) := (semiring_cost.f a1).bind fun t133 => ((semiring_cost.f a2).bind fun t134 => ((semiring_capped.f t133 t134).bind fun t135 => (some t135)))
def semiring_MinPlus_Same.f  (a1 : Int) (a2 : Int) : Option (Bool) := (semiring_cost.f a1).bind fun t139 => ((semiring_cost.f a2).bind fun t140 => (some (t139 == t140)))
def nat_Sub.l0 : Nat → List Int → List Int → Int → Int → Int → Option (List Int × Int)
 | 0, _, _, _, _, _ => none
 | k + 1, x1, x6, x7, x17, x18 => if x18 < x17 then (if 0 ≤ x18 then (if x18 < (x6.length : Int) then (if x18 < (x1.length : Int) then (nat_Sub.l0 k x1 (x6.set (x18 : Int).toNat ((IntKind.u64.wrap ((IntKind.u64.wrap ((IntKind.u64.wrap (rd x6 x18)) - x7)) - (IntKind.u64.wrap (rd x1 x18)))) % 4294967296)) ((IntKind.u64.wrap ((IntKind.u64.wrap ((IntKind.u64.wrap (rd x6 x18)) - x7)) - (IntKind.u64.wrap (rd x1 x18)))) / 9223372036854775808) x17 (wrap64 (x18 + 1))) else (nat_Sub.l0 k x1 (x6.set (x18 : Int).toNat ((IntKind.u64.wrap ((IntKind.u64.wrap (rd x6 x18)) - x7)) % 4294967296)) ((IntKind.u64.wrap ((IntKind.u64.wrap (rd x6 x18)) - x7)) / 9223372036854775808) x17 (wrap64 (x18 + 1)))) else (none)) else (none)) else ((nat_short.f k x6).bind fun t1624 => (some (t1624, 0)))
def nat_Sub.f (k : Nat) (l0 : List Int) (l1 : List Int) : Option (List Int × Int) := (nat_Cmp.f k l0 l1).bind fun t1616 => (if t1616 < 0 then (some (([] : List Int), 6)) else ((nat_Trim.f k l0).bind fun t1617 => (nat_Sub.l0 k l1 t1617 0 (t1617.length : Int) 0)))
theorem nat_Sub.calls (k : Nat) (A0 : Option Addr) (c0 : Nat) (l0 : List Int) (A1 : Option Addr) (c1 : Nat) (l1 : List Int) (r1 : List Int) (r2 : Int) (w : World) (hr0 : Kd.C (Kd.int .u32) w A0 l0.length l0) (hc0 : l0.length ≤ c0) (hr1 : Kd.C (Kd.int .u32) w A1 l1.length l1) (hc1 : l1.length ≤ c1) (h : nat_Sub.f k l0 l1 = some (r1, r2)) :
 Calls Try.prog 185 #[.slice A0 l0.length c0, .slice A1 l1.length c1] w fun e w' => ∃ v0_ : Value, e = .returned (.tuple #[v0_, .int .i64 r2]) ∧ Kd.V (Kd.int .u32) 48 w' w.heap.size (fun k_ => (w.heap.size ≤ k_)) v0_ r1 ∧ Below w.heap.size w w' := by
 have aQ := am hr0
 have aC := am hc0
 clear hr0 hc0
 have aR := am hr1
 have aN := am hc1
 clear hr1 hc1
 have HB := am (Below.refl w.heap.size w)
 have H : ((nat_Cmp.f k l0 l1).bind fun af => (if af < 0 then (some (([] : List Int), 6)) else ((nat_Trim.f k l0).bind fun ac => (nat_Sub.l0 k l1 ac 0 (ac.length : Int) 0)))) = some (r1, r2) := h
 clear h
 obtain ⟨af, A3, H⟩ := bs H
 (try dsimp -simprocs only at H)
 by_cases c4 : af < 0
 ·
  rw [if_pos c4] at H
  have aF : decide (af < 0) = true := decide_eq_true c4
  clear c4
  simp only [Option.some.injEq, Prod.mk.injEq] at H
  obtain ⟨rfl, rfl⟩ := H
  go_enter Try.func185, Try.ntmps185
  go_wp2_with (first | ((with_reducible refine gate_callee (f := 146) rfl ?_); refine goesL_ (some 12) rfl rfl Try.func146 (by kernel_rfl) rfl #[.slice A0 l0.length c0, .slice A1 l1.length c1] rfl lu ?_; (with_reducible refine (nat_Cmp.calls k _ _ l0 _ _ l1 af _ ?side1 ?side2 ?side3 ?side4 A3.out).mono ?_); (case side1 => repeat (first | exact aQ.out | (with_reducible refine Kd.C_alloc ?_ _) | (with_reducible refine Kd.C_drewN ?_ _) | (with_reducible refine Kd.C_drew ?_))); (case side2 => first | exact aC.out | exact vz aC.out); (case side3 => repeat (first | exact aR.out | (with_reducible refine Kd.C_alloc ?_ _) | (with_reducible refine Kd.C_drewN ?_ _) | (with_reducible refine Kd.C_drew ?_))); (case side4 => first | exact aN.out | exact vz aN.out); rintro e w5 ⟨rfl, hb⟩; refine ⟨_, rfl, ?_⟩; replace HB := be HB hb; (try clear hb)))
  go_ret2
  exact ⟨_, by first | rfl | (simp [errW_none, errW_some] <;> rfl) | (simp [*, errW_none, errW_some] <;> rfl), Kd.V_nil _ _ _ _ _, by repeat (first | (with_reducible first | exact HB.out | apply below_alloc | apply pw_below_drewN | apply below_drew1) | exact HB.out)⟩
 ·
  rw [if_neg c4] at H
  have aF : decide (af < 0) = false := decide_eq_false c4
  clear c4
  obtain ⟨ac, A6, H⟩ := bs H
  (try dsimp -simprocs only at H)
  have H' := am H
  clear H
  go_enter Try.func185, Try.ntmps185
  go_wp2_with (first | ((with_reducible refine gate_callee (f := 146) rfl ?_); refine goesL_ (some 12) rfl rfl Try.func146 (by kernel_rfl) rfl #[.slice A0 l0.length c0, .slice A1 l1.length c1] rfl lu ?_; (with_reducible refine (nat_Cmp.calls k _ _ l0 _ _ l1 af _ ?side1 ?side2 ?side3 ?side4 A3.out).mono ?_); (case side1 => repeat (first | exact aQ.out | (with_reducible refine Kd.C_alloc ?_ _) | (with_reducible refine Kd.C_drewN ?_ _) | (with_reducible refine Kd.C_drew ?_))); (case side2 => first | exact aC.out | exact vz aC.out); (case side3 => repeat (first | exact aR.out | (with_reducible refine Kd.C_alloc ?_ _) | (with_reducible refine Kd.C_drewN ?_ _) | (with_reducible refine Kd.C_drew ?_))); (case side4 => first | exact aN.out | exact vz aN.out); rintro e w7 ⟨rfl, hb⟩; refine ⟨_, rfl, ?_⟩; replace HB := be HB hb; (try clear hb)) | ((with_reducible refine gate_callee (f := 177) rfl ?_); refine goesL_ (some 15) rfl rfl Try.func177 (by kernel_rfl) rfl #[.slice A0 l0.length c0] rfl lu ?_; (with_reducible refine (nat_Trim.calls k _ _ l0 ac _ ?side1 ?side2 A6.out).mono ?_); (case side1 => repeat (first | exact (Kd.C_below aQ.out HB.out) | (with_reducible refine Kd.C_alloc ?_ _) | (with_reducible refine Kd.C_drewN ?_ _) | (with_reducible refine Kd.C_drew ?_))); (case side2 => first | exact aC.out | exact vz aC.out); rintro e w8 ⟨aZ, rfl, aG, hb⟩; refine ⟨_, rfl, ?_⟩; have an := am (Kd.R_lower (Kd.R_newM (M := fun k_ => (w.heap.size ≤ k_)) aG (below_size (bu HB.out)) (fun k_ h_ => h_)) (below_size (bu HB.out))); replace HB := be HB hb; (try clear hb); (try clear aG); obtain ⟨aS, aH, a2⟩ := Kd.R_slice an.out; subst a2))
  go_loopg [7, 18] k (fun kq v7 a3 w' => ∃ (ab : List Int) (ae : Int) (aa : Int), v7 = .int .u64 ae ∧ a3 = .int .i64 aa ∧ Aside0 (nat_Sub.l0 kq l1 ab ae (ac.length : Int) aa = some (r1, r2)) ∧ Aside0 (kq ≤ k) ∧ Aside0 (Kd.R (Kd.int .u32) 48 w' w.heap.size (fun k_ => (w.heap.size ≤ k_)) (.slice aS ac.length aH) ab) ∧ Aside0 (Below w.heap.size w w'))
  case atStart => exact ⟨(ac), (0), (0), (by first | rfl | (simp; done) | (simp [*]; done)), (by first | rfl | (simp; done) | (simp [*]; done)), H', ⟨Nat.le_refl _⟩, ⟨by (with_reducible repeat (first | apply Kd.R_alloc | apply Kd.R_drewN | apply Kd.R_drew)); exact Kd.R_mono an.out (fun _ hk => hk.1)⟩, ⟨by repeat (first | (with_reducible first | exact HB.out | apply below_alloc | apply pw_below_drewN | apply below_drew1) | exact HB.out)⟩⟩
  case round =>
   clear H'
   try clear c1
   try clear p2
   try clear c4
   try clear aF
   obtain ⟨ab, ae, aa, rfl, rfl, HA, HK1, ad, HB⟩ := hrel
   have hl6_1 := (Kd.R_reads' ad.out).1
   rw [hl6_1] at ad
   (try simp only [hl6_1])
   cases gk with
   | zero => exact absurd HA.out (by simp [nat_Sub.l0])
   | succ k1 =>
    have H := HA.out
    clear HA
    simp only [nat_Sub.l0] at H
    by_cases aD : aa < (ac.length : Int)
    ·
     rw [if_pos aD] at H
     have ao : decide (aa < (ac.length : Int)) = true := decide_eq_true aD
     clear aD
     (try (have ak := ao; simp only [hl6_1] at ak))
     by_cases aO : 0 ≤ aa
     ·
      rw [if_pos aO] at H
      have a0 : decide (0 ≤ aa) = true := decide_eq_true aO
      clear aO
      by_cases aP : aa < (ab.length : Int)
      ·
       rw [if_pos aP] at H
       have aI : decide (aa < (ab.length : Int)) = true := decide_eq_true aP
       clear aP
       (try (have aw := aI; simp only [hl6_1] at aw))
       by_cases aE : aa < (l1.length : Int)
       ·
        rw [if_pos aE] at H
        have ap : decide (aa < (l1.length : Int)) = true := decide_eq_true aE
        clear aE
        (try (have al := ap; simp only [hl6_1] at al))
        obtain ⟨aq, ag⟩ : ∃ y_ : List Int, y_ = (ab.set (aa : Int).toNat ((IntKind.u64.wrap ((IntKind.u64.wrap ((IntKind.u64.wrap (rd ab aa)) - ae)) - (IntKind.u64.wrap (rd l1 aa)))) % 4294967296)) := ⟨_, rfl⟩
        replace H : (nat_Sub.l0 k1 l1 aq ((IntKind.u64.wrap ((IntKind.u64.wrap ((IntKind.u64.wrap (rd ab aa)) - ae)) - (IntKind.u64.wrap (rd l1 aa)))) / 9223372036854775808) (ac.length : Int) (wrap64 (aa + 1))) = some (r1, r2) := by first | (rw [ag]; with_reducible exact H) | (have H2_ := (Option.bind_some _ _).symm.trans H; rw [ag]; with_reducible exact H2_) | (have H2_ := (Option.bind_some _ _).symm.trans H; with_reducible exact H2_) | with_reducible exact H | (rw [ag]; exact H) | exact H
        have ax := am ag
        clear ag
        have H' := am H
        clear H
        have p1620 : 0 ≤ (aa : Int) := of_decide_eq_true (by first | (with_reducible assumption) | assumption)
        have q1620 : aa < (ab.length : Int) := of_decide_eq_true (by first | (with_reducible assumption) | assumption)
        obtain ⟨ad1620, e1620, ah⟩ := Kd.at_int (Kd.R_reads' ad.out).2.2 aa p1620 q1620
        cases e1620
        replace p1620 := eq_true p1620
        replace q1620 := eq_true q1620
        have p1621 : 0 ≤ (aa : Int) := of_decide_eq_true (by first | (with_reducible assumption) | assumption)
        have q1621 : aa < (l1.length : Int) := of_decide_eq_true (by first | (with_reducible assumption) | assumption)
        obtain ⟨ad1621, e1621, ai⟩ := Kd.at_int aR.out aa p1621 q1621
        cases e1621
        replace ai := (HB.out.cell (World.block_lt_of_cell? w _ ai)).trans ai
        replace p1621 := eq_true p1621
        replace q1621 := eq_true q1621
        have p14 : 0 ≤ (aa : Int) := of_decide_eq_true (by first | (with_reducible assumption) | assumption)
        have q14 : (aa : Int) < ((ab.length : Int) : Int) := of_decide_eq_true (by first | (with_reducible assumption) | assumption)
        obtain ⟨go14, a4, aJ, aK, gl14, cl14, HG14⟩ := Kd.R_form ad.out (by omega)
        (first | cases aJ | (injection aJ with ea_ en_ ec_; (first | subst ea_ | (injection ea_ with ea_; subst ea_)); subst ec_; clear en_))
        have GB14 := am aK
        have GG14 := am HG14
        clear aK gl14 HG14
        (first | simp only [add_plain] at ah | skip)
        obtain ⟨aT, aU⟩ := Kd.R_celln 0 ad.out (aa : Int) p14 q14
        replace p14 := eq_true p14
        replace q14 := eq_true q14
        have ay := Kd.R_putg ad.out (aa : Int) ((IntKind.u64.wrap ((IntKind.u64.wrap ((IntKind.u64.wrap (rd ab aa)) - ae)) - (IntKind.u64.wrap (rd l1 aa)))) % 4294967296)
        go_wp2_with (first | ((with_reducible refine gate_store (t := 48) (p := 43) rfl ?_); refine store_event (t := 48) (p := 43) (v := ?vo_w16) (w1 := (wr.setCell ⟨go14, (aa : Int).toNat, none⟩ (.int .u32 ((IntKind.u64.wrap ((IntKind.u64.wrap ((IntKind.u64.wrap (rd ab aa)) - ae)) - (IntKind.u64.wrap (rd l1 aa)))) % 4294967296)))) ?hg ?ho ?hn ?hr ?_; (case ho => rfl); (case hg => rfl); (case hn => rfl); (case hr => first | (go_simp; done) | (go_simp; rfl)); intro aV hw; have hg : wr.grownBy aV (some go14) := (by rw [hw]; exact ay.2); have hp_ : Kd.R (Kd.int .u32) 48 aV w.heap.size (fun k_ => (w.heap.size ≤ k_)) (.slice (some ⟨go14, 0, none⟩) ab.length aH) aq := (by rw [hw, ax.out]; exact ay.1); clear ay; replace ad := am (hp_); replace HB := am ((by rw [hw]; exact below_set (HB.out) GB14.out : Below w.heap.size w aV)); clear hg hw hp_))
        (try simp only [← hl6_1])
        go_roundg k1
        case measure => have := HK1.out; omega
        case rel => exact ⟨(aq), ((IntKind.u64.wrap ((IntKind.u64.wrap ((IntKind.u64.wrap (rd ab aa)) - ae)) - (IntKind.u64.wrap (rd l1 aa)))) / 9223372036854775808), (wrap64 (aa + 1)), (by first | rfl | (simp; done) | (simp [*]; done)), (by first | rfl | (simp; done) | (simp [*]; done)), H', ⟨by have := HK1.out; omega⟩, ⟨by (try simp only [hl6_1]); (with_reducible repeat (first | apply Kd.R_alloc | apply Kd.R_drewN | apply Kd.R_drew)); exact ad.out⟩, ⟨by repeat (first | (with_reducible first | exact HB.out | apply below_alloc | apply pw_below_drewN | apply below_drew1) | exact HB.out)⟩⟩
       ·
        rw [if_neg aE] at H
        have ap : decide (aa < (l1.length : Int)) = false := decide_eq_false aE
        clear aE
        (try (have al := ap; simp only [hl6_1] at al))
        obtain ⟨au, aj⟩ : ∃ y_ : List Int, y_ = (ab.set (aa : Int).toNat ((IntKind.u64.wrap ((IntKind.u64.wrap (rd ab aa)) - ae)) % 4294967296)) := ⟨_, rfl⟩
        replace H : (nat_Sub.l0 k1 l1 au ((IntKind.u64.wrap ((IntKind.u64.wrap (rd ab aa)) - ae)) / 9223372036854775808) (ac.length : Int) (wrap64 (aa + 1))) = some (r1, r2) := by first | (rw [aj]; with_reducible exact H) | (have H2_ := (Option.bind_some _ _).symm.trans H; rw [aj]; with_reducible exact H2_) | (have H2_ := (Option.bind_some _ _).symm.trans H; with_reducible exact H2_) | with_reducible exact H | (rw [aj]; exact H) | exact H
        have az := am aj
        clear aj
        have H' := am H
        clear H
        have p1620 : 0 ≤ (aa : Int) := of_decide_eq_true (by first | (with_reducible assumption) | assumption)
        have q1620 : aa < (ab.length : Int) := of_decide_eq_true (by first | (with_reducible assumption) | assumption)
        obtain ⟨ad1620, e1620, ah⟩ := Kd.at_int (Kd.R_reads' ad.out).2.2 aa p1620 q1620
        cases e1620
        replace p1620 := eq_true p1620
        replace q1620 := eq_true q1620
        have p17 : 0 ≤ (aa : Int) := of_decide_eq_true (by first | (with_reducible assumption) | assumption)
        have q17 : (aa : Int) < ((ab.length : Int) : Int) := of_decide_eq_true (by first | (with_reducible assumption) | assumption)
        obtain ⟨go17, a5, aL, aM, gl17, cl17, HG17⟩ := Kd.R_form ad.out (by omega)
        (first | cases aL | (injection aL with ea_ en_ ec_; (first | subst ea_ | (injection ea_ with ea_; subst ea_)); subst ec_; clear en_))
        have GB17 := am aM
        have GG17 := am HG17
        clear aM gl17 HG17
        (first | simp only [add_plain] at ah | skip)
        obtain ⟨aW, aX⟩ := Kd.R_celln 0 ad.out (aa : Int) p17 q17
        replace p17 := eq_true p17
        replace q17 := eq_true q17
        have aA := Kd.R_putg ad.out (aa : Int) ((IntKind.u64.wrap ((IntKind.u64.wrap (rd ab aa)) - ae)) % 4294967296)
        go_wp2_with (first | ((with_reducible refine gate_store (t := 48) (p := 43) rfl ?_); refine store_event (t := 48) (p := 43) (v := ?vo_w19) (w1 := (wr.setCell ⟨go17, (aa : Int).toNat, none⟩ (.int .u32 ((IntKind.u64.wrap ((IntKind.u64.wrap (rd ab aa)) - ae)) % 4294967296)))) ?hg ?ho ?hn ?hr ?_; (case ho => rfl); (case hg => rfl); (case hn => rfl); (case hr => first | (go_simp; done) | (go_simp; rfl)); intro aY hw; have hg : wr.grownBy aY (some go17) := (by rw [hw]; exact aA.2); have hp_ : Kd.R (Kd.int .u32) 48 aY w.heap.size (fun k_ => (w.heap.size ≤ k_)) (.slice (some ⟨go17, 0, none⟩) ab.length aH) au := (by rw [hw, az.out]; exact aA.1); clear aA; replace ad := am (hp_); replace HB := am ((by rw [hw]; exact below_set (HB.out) GB17.out : Below w.heap.size w aY)); clear hg hw hp_))
        (try simp only [← hl6_1])
        go_roundg k1
        case measure => have := HK1.out; omega
        case rel => exact ⟨(au), ((IntKind.u64.wrap ((IntKind.u64.wrap (rd ab aa)) - ae)) / 9223372036854775808), (wrap64 (aa + 1)), (by first | rfl | (simp; done) | (simp [*]; done)), (by first | rfl | (simp; done) | (simp [*]; done)), H', ⟨by have := HK1.out; omega⟩, ⟨by (try simp only [hl6_1]); (with_reducible repeat (first | apply Kd.R_alloc | apply Kd.R_drewN | apply Kd.R_drew)); exact ad.out⟩, ⟨by repeat (first | (with_reducible first | exact HB.out | apply below_alloc | apply pw_below_drewN | apply below_drew1) | exact HB.out)⟩⟩
      ·
       rw [if_neg aP] at H
       exact absurd H (by simp)
     ·
      rw [if_neg aO] at H
      exact absurd H (by simp)
    ·
     rw [if_neg aD] at H
     have ao : decide (aa < (ac.length : Int)) = false := decide_eq_false aD
     clear aD
     (try (have ak := ao; simp only [hl6_1] at ak))
     obtain ⟨av, a6, H⟩ := bs H
     replace H : (some (av, 0)) = some (r1, r2) := H
     simp only [Option.some.injEq, Prod.mk.injEq] at H
     obtain ⟨rfl, rfl⟩ := H
     go_wp2_with (first | ((with_reducible refine gate_callee (f := 179) rfl ?_); refine goesL_ (some 48) rfl rfl Try.func179 (by kernel_rfl) rfl #[.slice aS ab.length aH] rfl lu ?_; (with_reducible refine (nat_short.calls k1 (fun k_ => some k_ = (.slice aS ab.length aH : Value).ownBlock) _ _ ab av _ ?side1 a6.out).mono ?_); (case side1 => exact Kd.R_V (Kd.R_tight rfl (ad.out))); rintro e a7 ⟨a1, rfl, aG, hb⟩; refine ⟨_, rfl, ?_⟩; have aB := am (Kd.V_lower (Kd.V_mono (ok' := fun k_ => (w.heap.size ≤ k_)) aG (fun k_ hk_ => Or.elim hk_ (fun hs_ => ((ad.out).1 k_ hs_.symm)) (fun hn_ => (Nat.le_trans (below_size (bu HB.out)) hn_)))) (below_size (bu HB.out))); replace ad := am (Kd.R_below (by (with_reducible repeat (first | apply Kd.R_alloc | apply Kd.R_drewN | apply Kd.R_drew)); exact ad.out) hb); replace HB := be HB hb; (try clear hb); (try clear aG)))
     go_ret2
     exact ⟨_, by first | rfl | (simp [errW_none, errW_some] <;> rfl) | (simp [*, errW_none, errW_some] <;> rfl), by (with_reducible repeat (first | apply Kd.V_alloc | apply Kd.V_drewN | apply Kd.V_drew)); exact aB.out, by repeat (first | (with_reducible first | exact HB.out | apply below_alloc | apply pw_below_drewN | apply below_drew1) | exact HB.out)⟩
def codewrightref01_Zero.f (k : Nat) (l0 : List Int) : Option (Bool) := (codewrightref01_Trim.f k l0).bind fun t538 => (some ((t538.length : Int) == 0))
theorem codewrightref01_Zero.calls (k : Nat) (A0 : Option Addr) (c0 : Nat) (l0 : List Int) (r : Bool) (w : World) (hr0 : Kd.C (Kd.int .u32) w A0 l0.length l0) (hc0 : l0.length ≤ c0) (h : codewrightref01_Zero.f k l0 = some r) :
 Calls Try.prog 150 #[.slice A0 l0.length c0] w fun e w' => e = .returned (.bool r) ∧ Below w.heap.size w w' := by
 have ae := am hr0
 have ac := am hc0
 clear hr0 hc0
 have HB := am (Below.refl w.heap.size w)
 have H : ((codewrightref01_Trim.f k l0).bind fun aa => (some ((aa.length : Int) == 0))) = some r := h
 clear h
 obtain ⟨aa, A2, H⟩ := bs H
 replace H : (some ((aa.length : Int) == 0)) = some r := H
 obtain rfl := Option.some.inj H
 go_enter Try.func150, Try.ntmps150
 go_wp2_with (first | ((with_reducible refine gate_callee (f := 144) rfl ?_); refine goesL_ (some 4) rfl rfl Try.func144 (by kernel_rfl) rfl #[.slice A0 l0.length c0] rfl lu ?_; (with_reducible refine (codewrightref01_Trim.calls k _ _ l0 aa _ ?side1 ?side2 A2.out).mono ?_); (case side1 => repeat (first | exact ae.out | (with_reducible refine Kd.C_alloc ?_ _) | (with_reducible refine Kd.C_drewN ?_ _) | (with_reducible refine Kd.C_drew ?_))); (case side2 => first | exact ac.out | exact vz ac.out); rintro e w3 ⟨af, rfl, ad, hb⟩; refine ⟨_, rfl, ?_⟩; have ab := am (Kd.R_lower ad (below_size (bu HB.out))); replace HB := be HB hb; (try clear hb); (try clear ad); obtain ⟨ah, ai, ag⟩ := Kd.R_slice ab.out; subst ag))
 go_ret
 exact ⟨by first | rfl | (simp [errW_none, errW_some] <;> rfl) | (simp [*, errW_none, errW_some] <;> rfl), by repeat (first | (with_reducible first | exact HB.out | apply below_alloc | apply pw_below_drewN | apply below_drew1) | exact HB.out)⟩
def codewrightref01_Sub.l0 : Nat → List Int → List Int → List Int → Int → Int → Option (List Int)
 | 0, _, _, _, _, _ => none
 | k + 1, x0, x1, x5, x6, x7 => if x7 < (x0.length : Int) then ((codewrightref01_limb.f x0 x7).bind fun t1044 => ((codewrightref01_limb.f x1 x7).bind fun t1045 => (if x5.length < 35184372088832 then (codewrightref01_Sub.l0 k x0 x1 (x5 ++ [(Int.tmod (IntKind.u64.wrap ((IntKind.u64.wrap ((IntKind.u64.wrap (t1044 + 4294967296)) - t1045)) - x6)) 4294967296) % 4294967296]) (IntKind.u64.wrap (1 - (IntKind.u64.wrap (Int.tdiv (IntKind.u64.wrap ((IntKind.u64.wrap ((IntKind.u64.wrap (t1044 + 4294967296)) - t1045)) - x6)) 4294967296)))) (wrap64 (x7 + 1))) else (none)))) else ((codewrightref01_Trim.f k x5).bind fun t1049 => (some t1049))
def codewrightref01_Sub.f (k : Nat) (l0 : List Int) (l1 : List Int) : Option (List Int) := codewrightref01_Sub.l0 k l0 l1 ([] : List Int) 0 0
theorem codewrightref01_Sub.calls (k : Nat) (A0 : Option Addr) (c0 : Nat) (l0 : List Int) (A1 : Option Addr) (c1 : Nat) (l1 : List Int) (r : List Int) (w : World) (hr0 : Kd.C (Kd.int .u32) w A0 l0.length l0) (hc0 : l0.length ≤ c0) (hr1 : Kd.C (Kd.int .u32) w A1 l1.length l1) (hc1 : l1.length ≤ c1) (h : codewrightref01_Sub.f k l0 l1 = some r) :
 Calls Try.prog 166 #[.slice A0 l0.length c0, .slice A1 l1.length c1] w fun e w' => ∃ v0_ : Value, e = .returned (v0_) ∧ Kd.R (Kd.int .u32) 48 w' w.heap.size (fun _ => True) v0_ r ∧ Below w.heap.size w w' := by
 have aw := am hr0
 have ap := am hc0
 clear hr0 hc0
 have ax := am hr1
 have aq := am hc1
 clear hr1 hc1
 have HB := am (Below.refl w.heap.size w)
 have H : (codewrightref01_Sub.l0 k l0 l1 ([] : List Int) 0 0) = some r := h
 clear h
 have H' := am H
 clear H
 go_enter Try.func166, Try.ntmps166
 go_wp2
 go_loopg [5, 6, 7] k (fun kq v5 v6 v7 w' => ∃ (ae : List Int) (af : Int) (aa : Int), v6 = .int .u64 af ∧ v7 = .int .i64 aa ∧ Aside0 (codewrightref01_Sub.l0 kq l0 l1 ae af aa = some r) ∧ Aside0 (kq ≤ k) ∧ Aside0 (Kd.R (Kd.int .u32) 48 w' w.heap.size (fun _ => True) v5 ae) ∧ Aside0 (Below w.heap.size w w'))
 case atStart => exact ⟨(([] : List Int)), (0), (0), (by first | rfl | (simp; done) | (simp [*]; done)), (by first | rfl | (simp; done) | (simp [*]; done)), H', ⟨Nat.le_refl _⟩, ⟨by first | exact Kd.R_nil _ _ _ _ _ | exact Kd.N_nil _ _ _ _ _ | exact Kd.V_nil _ _ _ _ _ | exact Kd.Q_nil _ _ _ _ _ | exact Kd.S_nil _ _ _ _ _⟩, ⟨by repeat (first | (with_reducible first | exact HB.out | apply below_alloc | apply pw_below_drewN | apply below_drew1) | exact HB.out)⟩⟩
 case round =>
  clear H'
  try clear c1
  try clear p2
  obtain ⟨ae, af, aa, rfl, rfl, HA, HK1, ag, HB⟩ := hrel
  cases gk with
  | zero => exact absurd HA.out (by simp [codewrightref01_Sub.l0])
  | succ k1 =>
   have H := HA.out
   clear HA
   simp only [codewrightref01_Sub.l0] at H
   by_cases c3 : aa < (l0.length : Int)
   ·
    rw [if_pos c3] at H
    have an : decide (aa < (l0.length : Int)) = true := decide_eq_true c3
    clear c3
    obtain ⟨ac, A4, H⟩ := bs H
    (try dsimp -simprocs only at H)
    obtain ⟨ad, A5, H⟩ := bs H
    (try dsimp -simprocs only at H)
    by_cases c6 : ae.length < 35184372088832
    ·
     rw [if_pos c6] at H
     have LMc6 := am c6
     clear c6
     obtain ⟨ah, ab⟩ : ∃ y_ : List Int, y_ = (ae ++ [(Int.tmod (IntKind.u64.wrap ((IntKind.u64.wrap ((IntKind.u64.wrap (ac + 4294967296)) - ad)) - af)) 4294967296) % 4294967296]) := ⟨_, rfl⟩
     replace H : (codewrightref01_Sub.l0 k1 l0 l1 ah (IntKind.u64.wrap (1 - (IntKind.u64.wrap (Int.tdiv (IntKind.u64.wrap ((IntKind.u64.wrap ((IntKind.u64.wrap (ac + 4294967296)) - ad)) - af)) 4294967296)))) (wrap64 (aa + 1))) = some r := by first | (rw [ab]; with_reducible exact H) | (have H2_ := (Option.bind_some _ _).symm.trans H; rw [ab]; with_reducible exact H2_) | (have H2_ := (Option.bind_some _ _).symm.trans H; with_reducible exact H2_) | with_reducible exact H | (rw [ab]; exact H) | exact H
     have aj := am ab
     clear ab
     have H' := am H
     clear H
     go_wp2_with (first | ((with_reducible refine gate_callee (f := 143) rfl ?_); refine goesL_ (some 17) rfl rfl Try.func143 (by kernel_rfl) rfl #[.slice A0 l0.length c0, .int .i64 aa] rfl lu ?_; (with_reducible refine (codewrightref01_limb.calls _ _ l0 aa ac _ ?side1 ?side2 A4.out).mono ?_); (case side1 => repeat (first | exact (Kd.C_below aw.out HB.out) | (with_reducible refine Kd.C_alloc ?_ _) | (with_reducible refine Kd.C_drewN ?_ _) | (with_reducible refine Kd.C_drew ?_))); (case side2 => first | exact ap.out | exact vz ap.out); rintro e w' ⟨rfl, ⟨nd, rfl⟩⟩; refine ⟨_, rfl, ?_⟩) | ((with_reducible refine gate_callee (f := 143) rfl ?_); refine goesL_ (some 21) rfl rfl Try.func143 (by kernel_rfl) rfl #[.slice A1 l1.length c1, .int .i64 aa] rfl lu ?_; (with_reducible refine (codewrightref01_limb.calls _ _ l1 aa ad _ ?side1 ?side2 A5.out).mono ?_); (case side1 => repeat (first | exact (Kd.C_below ax.out (bu HB.out)) | (with_reducible refine Kd.C_alloc ?_ _) | (with_reducible refine Kd.C_drewN ?_ _) | (with_reducible refine Kd.C_drew ?_))); (case side2 => first | exact aq.out | exact vz aq.out); rintro e w' ⟨rfl, ⟨nd, rfl⟩⟩; refine ⟨_, rfl, ?_⟩) | ((with_reducible refine gate_builtin (b := .append) (xs := #[.tmp 25, .tmp 29]) rfl ?_); at_builtin; refine Kd.R_append (Kd.int .u32) (w0 := w) w.heap.size rfl (.tmp 25) (.tmp 29) 42 48 (.int .u32 0) 4 rfl Try.underlying42 info48 rfl (by decide) (by omega) u5 ae ((Int.tmod (IntKind.u64.wrap ((IntKind.u64.wrap ((IntKind.u64.wrap (ac + 4294967296)) - ad)) - af)) 4294967296) % 4294967296) [.int .u32 ((Int.tmod (IntKind.u64.wrap ((IntKind.u64.wrap ((IntKind.u64.wrap (ac + 4294967296)) - ad)) - af)) 4294967296) % 4294967296)] (fun _ => True) (fun _ => False) rfl rfl ?aP (fun _ hk => hk.elim) ?aF ?aO ?aB ?aS ?aL ?_; (case aP => exact rfl); (case aB => exact (bu HB.out)); (case aF => exact (fun _ _ => trivial)); (case aO => exact (by (with_reducible repeat (first | apply Kd.R_alloc | apply Kd.R_drewN | apply Kd.R_drew)); exact ag.out)); (case aS => exact (below_size (bu HB.out))); (case aL => have := LMc6.out; omega); intro au w7 ho hb hg hat; rw [← aj.out] at ho; replace HB := am (hb); have ak := am (ho); clear ag ho hb hg hat))
     go_roundg k1
     case measure => have := HK1.out; omega
     case rel => exact ⟨(ah), (IntKind.u64.wrap (1 - (IntKind.u64.wrap (Int.tdiv (IntKind.u64.wrap ((IntKind.u64.wrap ((IntKind.u64.wrap (ac + 4294967296)) - ad)) - af)) 4294967296)))), (wrap64 (aa + 1)), (by first | rfl | (simp; done) | (simp [*]; done)), (by first | rfl | (simp; done) | (simp [*]; done)), H', ⟨by have := HK1.out; omega⟩, ⟨by (with_reducible repeat (first | apply Kd.R_alloc | apply Kd.R_drewN | apply Kd.R_drew)); exact ak.out⟩, ⟨by repeat (first | (with_reducible first | exact HB.out | apply below_alloc | apply pw_below_drewN | apply below_drew1) | exact HB.out)⟩⟩
    ·
     rw [if_neg c6] at H
     exact absurd H (by simp)
   ·
    rw [if_neg c3] at H
    have an : decide (aa < (l0.length : Int)) = false := decide_eq_false c3
    clear c3
    obtain ⟨ai, A8, H⟩ := bs H
    replace H : (some ai) = some r := H
    obtain rfl := Option.some.inj H
    obtain ⟨ay, az, aA⟩ := Kd.R_slice ag.out
    subst aA
    go_wp2_with (first | ((with_reducible refine gate_callee (f := 144) rfl ?_); refine goesL_ (some 35) rfl rfl Try.func144 (by kernel_rfl) rfl #[.slice ay ae.length az] rfl lu ?_; (with_reducible refine (codewrightref01_Trim.calls k1 _ _ ae ai _ ?side1 ?side2 A8.out).mono ?_); (case side1 => exact cu (Kd.R_reads' ag.out).2.2); (case side2 => exact (Kd.R_reads' ag.out).2.1); rintro e aC ⟨av, rfl, ao, hb⟩; refine ⟨_, rfl, ?_⟩; have al := am (Kd.R_lower (Kd.R_new' ao (Kd.R_lt (by (with_reducible repeat (first | apply Kd.R_alloc | apply Kd.R_drewN | apply Kd.R_drew)); exact ag.out))) (below_size (bu HB.out))); replace ag := am (Kd.R_elder' (by (with_reducible repeat (first | apply Kd.R_alloc | apply Kd.R_drewN | apply Kd.R_drew)); exact ag.out) (Kd.R_base ao) hb); replace HB := be HB hb; (try clear hb); (try clear ao)))
    go_ret
    exact ⟨_, by first | rfl | (simp [errW_none, errW_some] <;> rfl) | (simp [*, errW_none, errW_some] <;> rfl), by (with_reducible repeat (first | apply Kd.R_alloc | apply Kd.R_drewN | apply Kd.R_drew)); exact Kd.R_mono al.out (fun _ hk => trivial), by repeat (first | (with_reducible first | exact HB.out | apply below_alloc | apply pw_below_drewN | apply below_drew1) | exact HB.out)⟩
def codewrightref01_Bits.l0 : Nat → Int → Int → Option (Int)
 | 0, _, _ => none
 | k + 1, x3, x4 => if x4 > 0 then (codewrightref01_Bits.l0 k (wrap64 (x3 + 1)) ((Int.tdiv x4 2) % 4294967296)) else (some x3)
def codewrightref01_Bits.f (k : Nat) (l0 : List Int) : Option (Int) := (codewrightref01_Trim.f k l0).bind fun t1052 => (if (t1052.length : Int) = 0 then (some 0) else (if 0 ≤ (wrap64 ((t1052.length : Int) - 1)) then (if (wrap64 ((t1052.length : Int) - 1)) < (t1052.length : Int) then (codewrightref01_Bits.l0 k (wrap64 (32 * (wrap64 ((t1052.length : Int) - 1)))) (rd t1052 (wrap64 ((t1052.length : Int) - 1)))) else (none)) else (none)))
theorem codewrightref01_Bits.calls (k : Nat) (A0 : Option Addr) (c0 : Nat) (l0 : List Int) (r : Int) (w : World) (hr0 : Kd.C (Kd.int .u32) w A0 l0.length l0) (hc0 : l0.length ≤ c0) (h : codewrightref01_Bits.f k l0 = some r) :
 Calls Try.prog 183 #[.slice A0 l0.length c0] w fun e w' => e = .returned (.int .i64 r) ∧ Below w.heap.size w w' := by
 have au := am hr0
 have al := am hc0
 clear hr0 hc0
 have HB := am (Below.refl w.heap.size w)
 have H : ((codewrightref01_Trim.f k l0).bind fun aa => (if (aa.length : Int) = 0 then (some 0) else (if 0 ≤ (wrap64 ((aa.length : Int) - 1)) then (if (wrap64 ((aa.length : Int) - 1)) < (aa.length : Int) then (codewrightref01_Bits.l0 k (wrap64 (32 * (wrap64 ((aa.length : Int) - 1)))) (rd aa (wrap64 ((aa.length : Int) - 1)))) else (none)) else (none)))) = some r := h
 clear h
 obtain ⟨aa, A2, H⟩ := bs H
 (try dsimp -simprocs only at H)
 by_cases c3 : (aa.length : Int) = 0
 ·
  rw [if_pos c3] at H
  have ag : ((aa.length : Int) == 0) = true := beq_iff_eq.mpr c3
  have ah : ((aa.length : Int) != 0) = false := bne_eq_false_iff_eq.mpr c3
  clear c3
  obtain rfl := Option.some.inj H
  go_enter Try.func183, Try.ntmps183
  go_wp2_with (first | ((with_reducible refine gate_callee (f := 144) rfl ?_); refine goesL_ (some 6) rfl rfl Try.func144 (by kernel_rfl) rfl #[.slice A0 l0.length c0] rfl lu ?_; (with_reducible refine (codewrightref01_Trim.calls k _ _ l0 aa _ ?side1 ?side2 A2.out).mono ?_); (case side1 => repeat (first | exact au.out | (with_reducible refine Kd.C_alloc ?_ _) | (with_reducible refine Kd.C_drewN ?_ _) | (with_reducible refine Kd.C_drew ?_))); (case side2 => first | exact al.out | exact vz al.out); rintro e w4 ⟨ai, rfl, aj, hb⟩; refine ⟨_, rfl, ?_⟩; have ab := am (Kd.R_lower aj (below_size (bu HB.out))); replace HB := be HB hb; (try clear hb); (try clear aj); obtain ⟨ay, az, av⟩ := Kd.R_slice ab.out; subst av))
  go_ret
  exact ⟨by first | rfl | (simp [errW_none, errW_some] <;> rfl) | (simp [*, errW_none, errW_some] <;> rfl), by repeat (first | (with_reducible first | exact HB.out | apply below_alloc | apply pw_below_drewN | apply below_drew1) | exact HB.out)⟩
 ·
  rw [if_neg c3] at H
  have ag : ((aa.length : Int) == 0) = false := beq_eq_false_iff_ne.mpr c3
  have ah : ((aa.length : Int) != 0) = true := bne_iff_ne.mpr c3
  have an : ¬ (aa = []) := fun h_ => c3 (by rw [h_]; rfl)
  obtain ⟨ji6, hji6⟩ : ∃ j_ : Int, (wrap64 ((aa.length : Int) - 1)) = j_ := ⟨_, rfl⟩
  replace H : (if 0 ≤ (ji6) then (if (ji6) < (aa.length : Int) then (codewrightref01_Bits.l0 k (wrap64 (32 * (ji6))) (rd aa (ji6))) else (none)) else (none)) = some r := by first | (rw [hji6] at H; exact H) | (simp only [hji6] at H ⊢; exact H)
  (try rw [hji6] at A2)
  have hji6w : (IntKind.i64.wrap ((aa.length : Int) - 1)) = ji6 := (i64_w _).trans hji6
  by_cases c7 : 0 ≤ (ji6)
  ·
   rw [if_pos c7] at H
   have ao : decide (0 ≤ (ji6)) = true := decide_eq_true c7
   clear c7
   by_cases c8 : (ji6) < (aa.length : Int)
   ·
    rw [if_pos c8] at H
    have ap : decide ((ji6) < (aa.length : Int)) = true := decide_eq_true c8
    clear c8
    have H' := am H
    clear H
    go_enter Try.func183, Try.ntmps183
    go_wp2_with (first | ((with_reducible refine gate_callee (f := 144) rfl ?_); refine goesL_ (some 6) rfl rfl Try.func144 (by kernel_rfl) rfl #[.slice A0 l0.length c0] rfl lu ?_; (with_reducible refine (codewrightref01_Trim.calls k _ _ l0 aa _ ?side1 ?side2 A2.out).mono ?_); (case side1 => repeat (first | exact au.out | (with_reducible refine Kd.C_alloc ?_ _) | (with_reducible refine Kd.C_drewN ?_ _) | (with_reducible refine Kd.C_drew ?_))); (case side2 => first | exact al.out | exact vz al.out); rintro e w9 ⟨ai, rfl, aj, hb⟩; refine ⟨_, rfl, ?_⟩; have ab := am (Kd.R_lower aj (below_size (bu HB.out))); replace HB := be HB hb; (try clear hb); (try clear aj); obtain ⟨aw, ax, aq⟩ := Kd.R_slice ab.out; subst aq; have p1055 : 0 ≤ ((ji6) : Int) := of_decide_eq_true (by first | (with_reducible assumption) | assumption); have q1055 : (ji6) < (aa.length : Int) := of_decide_eq_true (by first | (with_reducible assumption) | assumption); obtain ⟨ad1055, e1055, ad⟩ := Kd.at_int (Kd.R_reads' ab.out).2.2 (ji6) p1055 q1055; cases e1055; replace p1055 := eq_true p1055; replace q1055 := eq_true q1055))
    go_loopg [3, 4] k (fun kq v3 v4 w' => ∃ (ae : Int) (ac : Int), v3 = .int .i64 ae ∧ v4 = .int .u32 ac ∧ Aside0 (codewrightref01_Bits.l0 kq ae ac = some r) ∧ Aside0 (kq ≤ k) ∧ Aside0 (Below w.heap.size w w'))
    case atStart => exact ⟨(wrap64 (32 * (ji6))), (rd aa (ji6)), (by first | rfl | (simp; done) | (simp only [← hji6] <;> (first | rfl | simp)) | (simp [*]; done)), (by first | rfl | (simp; done) | (simp only [← hji6] <;> (first | rfl | simp)) | (simp [*]; done)), H', ⟨Nat.le_refl _⟩, ⟨by repeat (first | (with_reducible first | exact HB.out | apply below_alloc | apply pw_below_drewN | apply below_drew1) | exact HB.out)⟩⟩
    case round =>
     clear H'
     try clear c1
     try clear p1
     try clear q1
     try clear hx1
     try clear p2
     try clear c3
     try clear ag
     try clear ah
     try clear an
     try clear p6
     try clear c7
     try clear ao
     try clear c8
     try clear ap
     try clear p10
     try clear q10
     try clear hx10
     try clear ad
     try clear p1055
     try clear q1055
     obtain ⟨ae, ac, rfl, rfl, HA, HK1, HB⟩ := hrel
     cases gk with
     | zero => exact absurd HA.out (by simp [codewrightref01_Bits.l0])
     | succ k1 =>
      have H := HA.out
      clear HA
      simp only [codewrightref01_Bits.l0] at H
      by_cases af : ac > 0
      ·
       rw [if_pos af] at H
       have ak : decide (0 < ac) = true := decide_eq_true af
       clear af
       have H' := am H
       clear H
       go_wp2
       go_roundg k1
       case measure => have := HK1.out; omega
       case rel => exact ⟨(wrap64 (ae + 1)), ((Int.tdiv ac 2) % 4294967296), (by first | rfl | (simp; done) | (simp [*]; done)), (by first | rfl | (simp; done) | (simp [*]; done)), H', ⟨by have := HK1.out; omega⟩, ⟨by repeat (first | (with_reducible first | exact HB.out | apply below_alloc | apply pw_below_drewN | apply below_drew1) | exact HB.out)⟩⟩
      ·
       rw [if_neg af] at H
       have ak : decide (0 < ac) = false := decide_eq_false af
       clear af
       obtain rfl := Option.some.inj H
       go_wp2
       go_ret
       exact ⟨by first | rfl | (simp [errW_none, errW_some] <;> rfl) | (simp only [← hji6]; first | rfl | (simp [errW_none, errW_some] <;> rfl)) | (simp [*, errW_none, errW_some] <;> rfl), by repeat (first | (with_reducible first | exact HB.out | apply below_alloc | apply pw_below_drewN | apply below_drew1) | exact HB.out)⟩
   ·
    rw [if_neg c8] at H
    exact absurd H (by simp)
  ·
   rw [if_neg c7] at H
   exact absurd H (by simp)
def codewrightref01_shift.l0 : Nat → List Int → Int → List Int → Int → Int → Option (List Int)
 | 0, _, _, _, _, _ => none
 | k + 1, x0, x1, x5, x6, x7 => if x7 < (x0.length : Int) then (if 0 ≤ x7 then (if 0 ≤ (Int.tmod x1 32) then (if x5.length < 35184372088832 then (codewrightref01_shift.l0 k x0 x1 (x5 ++ [(Int.tmod (IntKind.u64.wrap ((shl .u64 (IntKind.u64.wrap (rd x0 x7)) (Int.tmod x1 32)) + x6)) 4294967296) % 4294967296]) (IntKind.u64.wrap (Int.tdiv (IntKind.u64.wrap ((shl .u64 (IntKind.u64.wrap (rd x0 x7)) (Int.tmod x1 32)) + x6)) 4294967296)) (wrap64 (x7 + 1))) else (none)) else (none)) else (none)) else (if x5.length < 35184372088832 then ((codewrightref01_Trim.f k (x5 ++ [(x6) % 4294967296])).bind fun t1066 => (some t1066)) else (none))
def codewrightref01_shift.f (k : Nat) (l0 : List Int) (a1 : Int) : Option (List Int) := if 0 ≤ (wrap64 (Int.tdiv a1 32)) then (if (wrap64 (Int.tdiv a1 32) : Int).toNat ≤ 70368744177664 then (codewrightref01_shift.l0 k l0 a1 (List.replicate (wrap64 (Int.tdiv a1 32) : Int).toNat 0) 0 0) else (none)) else (none)
theorem codewrightref01_shift.calls (k : Nat) (A0 : Option Addr) (c0 : Nat) (l0 : List Int) (a1 : Int) (r : List Int) (w : World) (hr0 : Kd.C (Kd.int .u32) w A0 l0.length l0) (hc0 : l0.length ≤ c0) (h : codewrightref01_shift.f k l0 a1 = some r) :
 Calls Try.prog 184 #[.slice A0 l0.length c0, .int .i64 a1] w fun e w' => ∃ v0_ : Value, e = .returned (v0_) ∧ Kd.R (Kd.int .u32) 48 w' w.heap.size (fun _ => True) v0_ r ∧ Below w.heap.size w w' := by
 have aW := am hr0
 have aZ := am hc0
 clear hr0 hc0
 have HB := am (Below.refl w.heap.size w)
 have H : (if 0 ≤ (wrap64 (Int.tdiv a1 32)) then (if (wrap64 (Int.tdiv a1 32) : Int).toNat ≤ 70368744177664 then (codewrightref01_shift.l0 k l0 a1 (List.replicate (wrap64 (Int.tdiv a1 32) : Int).toNat 0) 0 0) else (none)) else (none)) = some r := h
 clear h
 obtain ⟨ji3, hji3⟩ : ∃ j_ : Int, (wrap64 (Int.tdiv a1 32)) = j_ := ⟨_, rfl⟩
 replace H : (if 0 ≤ (ji3) then (if (ji3 : Int).toNat ≤ 70368744177664 then (codewrightref01_shift.l0 k l0 a1 (List.replicate (ji3 : Int).toNat 0) 0 0) else (none)) else (none)) = some r := by first | (rw [hji3] at H; exact H) | (simp only [hji3] at H ⊢; exact H)
 have hji3w : (IntKind.i64.wrap (Int.tdiv a1 32)) = ji3 := (i64_w _).trans hji3
 by_cases c4 : 0 ≤ (ji3)
 ·
  rw [if_pos c4] at H
  have aC := eq_true c4
  have aD : decide (0 ≤ (ji3)) = true := decide_eq_true c4
  clear c4
  by_cases c5 : (ji3 : Int).toNat ≤ 70368744177664
  ·
   rw [if_pos c5] at H
   have aE := eq_true c5
   have aG : decide ((ji3 : Int).toNat ≤ 70368744177664) = true := decide_eq_true c5
   clear c5
   obtain ⟨an, ae⟩ : ∃ y_ : List Int, y_ = (List.replicate (ji3 : Int).toNat 0) := ⟨_, rfl⟩
   replace H : (codewrightref01_shift.l0 k l0 a1 an 0 0) = some r := by first | (rw [ae]; with_reducible exact H) | (have H2_ := (Option.bind_some _ _).symm.trans H; rw [ae]; with_reducible exact H2_) | (have H2_ := (Option.bind_some _ _).symm.trans H; with_reducible exact H2_) | with_reducible exact H | (rw [ae]; exact H) | exact H
   have aj := am ae
   clear ae
   have H' := am H
   clear H
   go_enter Try.func184, Try.ntmps184
   go_wp2_with (first | ((with_reducible refine gate_dst (N := 11) rfl ?_); refine Kd.R_make (Kd.int .u32) _ 48 rfl (N := 11) rfl 42 _ _ rfl ji3 rfl rfl Try.underlying42 (.int .u32 0) 4 info48 rfl (by decide) (by omega) 0 (ok := fun _ => True) (okp := fun _ => True) rfl (fun _ hk => hk) trivial (of_decide_eq_true (by first | (with_reducible assumption) | assumption)) (Nat.le_trans (Nat.mul_le_mul_right _ (of_decide_eq_true (by first | (with_reducible assumption) | assumption) : ji3.toNat ≤ 70368744177664)) (by omega)) (Below.refl _ _) (Nat.le_refl _) ?_; intro aN w6 ax hb hg_ hnew_; clear hg_ hnew_; (first | rw [← aj.out] at ax | (simp only [Int.reduceToNat] at ax; rw [← aj.out] at ax)); have ap := am (Kd.R_lower ax (below_size (bu HB.out))); replace HB := be HB hb; clear hb ax))
   go_loopg [5, 6, 7] k (fun kq v5 v6 v7 w' => ∃ (ac : List Int) (ab : Int) (aa : Int), v6 = .int .u64 ab ∧ v7 = .int .i64 aa ∧ Aside0 (codewrightref01_shift.l0 kq l0 a1 ac ab aa = some r) ∧ Aside0 (kq ≤ k) ∧ Aside0 (Kd.R (Kd.int .u32) 48 w' w.heap.size (fun _ => True) v5 ac) ∧ Aside0 (Below w.heap.size w w'))
   case atStart => exact ⟨(an), (0), (0), (by first | rfl | (simp; done) | (simp [*]; done)), (by first | rfl | (simp; done) | (simp [*]; done)), H', ⟨Nat.le_refl _⟩, ⟨by (with_reducible repeat (first | apply Kd.R_alloc | apply Kd.R_drewN | apply Kd.R_drew)); exact ap.out⟩, ⟨by repeat (first | (with_reducible first | exact HB.out | apply below_alloc | apply pw_below_drewN | apply below_drew1) | exact HB.out)⟩⟩
   case round =>
    clear H'
    try clear c1
    try clear p2
    try clear c4
    try clear aC
    try clear aD
    try clear c5
    try clear aE
    try clear aG
    try clear p6
    obtain ⟨ac, ab, aa, rfl, rfl, HA, HK1, al, HB⟩ := hrel
    cases gk with
    | zero => exact absurd HA.out (by simp [codewrightref01_shift.l0])
    | succ k1 =>
     have H := HA.out
     clear HA
     simp only [codewrightref01_shift.l0] at H
     by_cases c8 : aa < (l0.length : Int)
     ·
      rw [if_pos c8] at H
      have aH : decide (aa < (l0.length : Int)) = true := decide_eq_true c8
      clear c8
      by_cases c9 : 0 ≤ aa
      ·
       rw [if_pos c9] at H
       have aX : decide (0 ≤ aa) = true := decide_eq_true c9
       clear c9
       obtain ⟨ji10, hji10⟩ : ∃ j_ : Int, (Int.tmod a1 32) = j_ := ⟨_, rfl⟩
       replace H : (if 0 ≤ (ji10) then (if ac.length < 35184372088832 then (codewrightref01_shift.l0 k1 l0 a1 (ac ++ [(Int.tmod (IntKind.u64.wrap ((shl .u64 (IntKind.u64.wrap (rd l0 aa)) (ji10)) + ab)) 4294967296) % 4294967296]) (IntKind.u64.wrap (Int.tdiv (IntKind.u64.wrap ((shl .u64 (IntKind.u64.wrap (rd l0 aa)) (ji10)) + ab)) 4294967296)) (wrap64 (aa + 1))) else (none)) else (none)) = some r := by first | (rw [hji10] at H; exact H) | (simp only [hji10] at H ⊢; exact H)
       by_cases ay : 0 ≤ (ji10)
       ·
        rw [if_pos ay] at H
        have aQ := eq_true ay
        have aR : decide (0 ≤ (ji10)) = true := decide_eq_true ay
        clear ay
        obtain ⟨ji12, hji12⟩ : ∃ j_ : Int, (shl .u64 (IntKind.u64.wrap (rd l0 aa)) (ji10)) = j_ := ⟨_, rfl⟩
        replace H : (if ac.length < 35184372088832 then (codewrightref01_shift.l0 k1 l0 a1 (ac ++ [(Int.tmod (IntKind.u64.wrap ((ji12) + ab)) 4294967296) % 4294967296]) (IntKind.u64.wrap (Int.tdiv (IntKind.u64.wrap ((ji12) + ab)) 4294967296)) (wrap64 (aa + 1))) else (none)) = some r := by first | (rw [hji12] at H; exact H) | (simp only [hji12] at H ⊢; exact H)
        have hji12_ : (IntKind.u64.wrap ((IntKind.u64.wrap (rd l0 aa)) * 2 ^ min (ji10).toNat 64)) = ji12 := hji12
        have hji12z : (ji10) ≤ 64 → (IntKind.u64.wrap ((IntKind.u64.wrap (rd l0 aa)) * 2 ^ (ji10).toNat)) = ji12 := shl_small hji12
        by_cases az : ac.length < 35184372088832
        ·
         rw [if_pos az] at H
         have LMc13 := am az
         clear az
         obtain ⟨ao, af⟩ : ∃ y_ : List Int, y_ = (ac ++ [(Int.tmod (IntKind.u64.wrap ((ji12) + ab)) 4294967296) % 4294967296]) := ⟨_, rfl⟩
         replace H : (codewrightref01_shift.l0 k1 l0 a1 ao (IntKind.u64.wrap (Int.tdiv (IntKind.u64.wrap ((ji12) + ab)) 4294967296)) (wrap64 (aa + 1))) = some r := by first | (rw [af]; with_reducible exact H) | (have H2_ := (Option.bind_some _ _).symm.trans H; rw [af]; with_reducible exact H2_) | (have H2_ := (Option.bind_some _ _).symm.trans H; with_reducible exact H2_) | with_reducible exact H | (rw [af]; exact H) | exact H
         have aq := am af
         clear af
         have H' := am H
         clear H
         have p1059 : 0 ≤ (aa : Int) := of_decide_eq_true (by first | (with_reducible assumption) | assumption)
         have q1059 : aa < (l0.length : Int) := of_decide_eq_true (by first | (with_reducible assumption) | assumption)
         obtain ⟨ad1059, e1059, ag⟩ := Kd.at_int aW.out aa p1059 q1059
         cases e1059
         replace ag := (HB.out.cell (World.block_lt_of_cell? w _ ag)).trans ag
         replace p1059 := eq_true p1059
         replace q1059 := eq_true q1059
         go_wp2_with (first | ((with_reducible refine gate_builtin (b := .append) (xs := #[.tmp 28, .tmp 32]) rfl ?_); at_builtin; refine Kd.R_append (Kd.int .u32) (w0 := w) w.heap.size rfl (.tmp 28) (.tmp 32) 42 48 (.int .u32 0) 4 rfl Try.underlying42 info48 rfl (by decide) (by omega) u5 ac ((Int.tmod (IntKind.u64.wrap ((ji12) + ab)) 4294967296) % 4294967296) [.int .u32 ((Int.tmod (IntKind.u64.wrap ((ji12) + ab)) 4294967296) % 4294967296)] (fun _ => True) (fun _ => False) rfl rfl ?aP (fun _ hk => hk.elim) ?aF ?aO ?aB ?aS ?aL ?_; (case aP => exact rfl); (case aB => exact (bu HB.out)); (case aF => exact (fun _ _ => trivial)); (case aO => exact (by (with_reducible repeat (first | apply Kd.R_alloc | apply Kd.R_drewN | apply Kd.R_drew)); exact al.out)); (case aS => exact (below_size (bu HB.out))); (case aL => have := LMc13.out; omega); intro aT a0 ho hb hg hat; rw [← aq.out] at ho; replace HB := am (hb); have au := am (ho); clear al ho hb hg hat))
         go_roundg k1
         case measure => have := HK1.out; omega
         case rel => exact ⟨(ao), (IntKind.u64.wrap (Int.tdiv (IntKind.u64.wrap ((ji12) + ab)) 4294967296)), (wrap64 (aa + 1)), (by first | rfl | (simp; done) | (simp only [← hji12] <;> (first | rfl | simp)) | (simp [*]; done)), (by first | rfl | (simp; done) | (simp [*]; done)), H', ⟨by have := HK1.out; omega⟩, ⟨by (with_reducible repeat (first | apply Kd.R_alloc | apply Kd.R_drewN | apply Kd.R_drew)); exact au.out⟩, ⟨by repeat (first | (with_reducible first | exact HB.out | apply below_alloc | apply pw_below_drewN | apply below_drew1) | exact HB.out)⟩⟩
        ·
         rw [if_neg az] at H
         exact absurd H (by simp)
       ·
        rw [if_neg ay] at H
        exact absurd H (by simp)
      ·
       rw [if_neg c9] at H
       exact absurd H (by simp)
     ·
      rw [if_neg c8] at H
      have aH : decide (aa < (l0.length : Int)) = false := decide_eq_false c8
      clear c8
      by_cases aA : ac.length < 35184372088832
      ·
       rw [if_pos aA] at H
       have LMc15 := am aA
       clear aA
       obtain ⟨ak, ah⟩ : ∃ y_ : List Int, y_ = (ac ++ [(ab) % 4294967296]) := ⟨_, rfl⟩
       replace H : ((codewrightref01_Trim.f k1 ak).bind fun ai => (some ai)) = some r := by first | (rw [ah]; with_reducible exact H) | (have H2_ := (Option.bind_some _ _).symm.trans H; rw [ah]; with_reducible exact H2_) | (have H2_ := (Option.bind_some _ _).symm.trans H; with_reducible exact H2_) | with_reducible exact H | (rw [ah]; exact H) | exact H
       have av := am ah
       clear ah
       obtain ⟨ai, aY, H⟩ := bs H
       replace H : (some ai) = some r := H
       obtain rfl := Option.some.inj H
       go_wp2_with (first | ((with_reducible refine gate_builtin (b := .append) (xs := #[.tmp 36, .tmp 39]) rfl ?_); at_builtin; refine Kd.R_append (Kd.int .u32) (w0 := w) w.heap.size rfl (.tmp 36) (.tmp 39) 42 48 (.int .u32 0) 4 rfl Try.underlying42 info48 rfl (by decide) (by omega) u5 ac ((ab) % 4294967296) [.int .u32 ((ab) % 4294967296)] (fun _ => True) (fun _ => False) rfl rfl ?aP (fun _ hk => hk.elim) ?aF ?aO ?aB ?aS ?aL ?_; (case aP => exact rfl); (case aB => exact (bu HB.out)); (case aF => exact (fun _ _ => trivial)); (case aO => exact (by (with_reducible repeat (first | apply Kd.R_alloc | apply Kd.R_drewN | apply Kd.R_drew)); exact al.out)); (case aS => exact (below_size (bu HB.out))); (case aL => have := LMc15.out; omega); intro aU a2 ho hb hg hat; rw [← av.out] at ho; replace HB := am (hb); have ad := am (ho); clear al ho hb hg hat; obtain ⟨aI, aJ, aK⟩ := Kd.R_slice ad.out; subst aK) | ((with_reducible refine gate_callee (f := 144) rfl ?_); refine goesL_ (some 41) rfl rfl Try.func144 (by kernel_rfl) rfl #[.slice aI ak.length aJ] rfl lu ?_; (with_reducible refine (codewrightref01_Trim.calls k1 _ _ ak ai _ ?side1 ?side2 aY.out).mono ?_); (case side1 => exact cu (Kd.R_reads' ad.out).2.2); (case side2 => exact (Kd.R_reads' ad.out).2.1); rintro e a3 ⟨aV, rfl, aM, hb⟩; refine ⟨_, rfl, ?_⟩; have aw := am (Kd.R_lower (Kd.R_new' aM (Kd.R_lt (by (with_reducible repeat (first | apply Kd.R_alloc | apply Kd.R_drewN | apply Kd.R_drew)); exact ad.out))) (below_size (bu HB.out))); replace ad := am (Kd.R_elder' (by (with_reducible repeat (first | apply Kd.R_alloc | apply Kd.R_drewN | apply Kd.R_drew)); exact ad.out) (Kd.R_base aM) hb); replace HB := be HB hb; (try clear hb); (try clear hk); (try clear aM)))
       go_ret
       exact ⟨_, by first | rfl | (simp [errW_none, errW_some] <;> rfl) | (simp only [← hji3]; first | rfl | (simp [errW_none, errW_some] <;> rfl)) | (simp [*, errW_none, errW_some] <;> rfl), by (with_reducible repeat (first | apply Kd.R_alloc | apply Kd.R_drewN | apply Kd.R_drew)); exact Kd.R_mono aw.out (fun _ hk => trivial), by repeat (first | (with_reducible first | exact HB.out | apply below_alloc | apply pw_below_drewN | apply below_drew1) | exact HB.out)⟩
      ·
       rw [if_neg aA] at H
       exact absurd H (by simp)
  ·
   rw [if_neg c5] at H
   exact absurd H (by simp)
 ·
  rw [if_neg c4] at H
  exact absurd H (by simp)
def codewrightref01_DivMod.l0 : Nat → List Int → List Int → List Int → Int → Option (List Int × List Int)
 | 0, _, _, _, _ => none
 | k + 1, x1, x4, x5, x7 => if x7 ≥ 0 then ((codewrightref01_shift.f k x1 x7).bind fun t1077 => ((codewrightref01_Cmp.f k x5 t1077).bind fun t1080 => (if t1080 ≥ 0 then ((codewrightref01_Sub.f k x5 t1077).bind fun t1081 => ((codewrightref01_shift.f k (([1] : List Int)) x7).bind fun t1087 => ((codewrightref01_Add.f k x4 t1087).bind fun t1090 => (codewrightref01_DivMod.l0 k x1 t1090 t1081 (wrap64 (x7 - 1)))))) else (codewrightref01_DivMod.l0 k x1 x4 x5 (wrap64 (x7 - 1)))))) else ((codewrightref01_Trim.f k x4).bind fun t1074 => (some (t1074, x5)))
def codewrightref01_DivMod.f (k : Nat) (l0 : List Int) (l1 : List Int) : Option (List Int × List Int) := (codewrightref01_Trim.f k l0).bind fun t1069 => ((codewrightref01_Bits.f k l0).bind fun t1072 => ((codewrightref01_Bits.f k l1).bind fun t1073 => (codewrightref01_DivMod.l0 k l1 ([] : List Int) t1069 (wrap64 (t1072 - t1073)))))
theorem codewrightref01_DivMod.calls (k : Nat) (A0 : Option Addr) (c0 : Nat) (l0 : List Int) (A1 : Option Addr) (c1 : Nat) (l1 : List Int) (r1 : List Int) (r2 : List Int) (w : World) (hr0 : Kd.C (Kd.int .u32) w A0 l0.length l0) (hc0 : l0.length ≤ c0) (hr1 : Kd.C (Kd.int .u32) w A1 l1.length l1) (hc1 : l1.length ≤ c1) (h : codewrightref01_DivMod.f k l0 l1 = some (r1, r2)) :
 Calls Try.prog 157 #[.slice A0 l0.length c0, .slice A1 l1.length c1] w fun e w' => ∃ v0_ v1_ : Value, e = .returned (.tuple #[v0_, v1_]) ∧ Kd.R (Kd.int .u32) 48 w' w.heap.size (fun k_ => some k_ ≠ (v1_ : Value).ownBlock) v0_ r1 ∧ Kd.R (Kd.int .u32) 48 w' w.heap.size (fun k_ => some k_ ≠ (v0_ : Value).ownBlock) v1_ r2 ∧ Below w.heap.size w w' := by
 have a9 := am hr0
 have aM := am hc0
 clear hr0 hc0
 have aN := am hr1
 have aE := am hc1
 clear hr1 hc1
 have HB := am (Below.refl w.heap.size w)
 have H : ((codewrightref01_Trim.f k l0).bind fun aq => ((codewrightref01_Bits.f k l0).bind fun au => ((codewrightref01_Bits.f k l1).bind fun av => (codewrightref01_DivMod.l0 k l1 ([] : List Int) aq (wrap64 (au - av)))))) = some (r1, r2) := h
 clear h
 obtain ⟨aq, A3, H⟩ := bs H
 (try dsimp -simprocs only at H)
 obtain ⟨au, A4, H⟩ := bs H
 (try dsimp -simprocs only at H)
 obtain ⟨av, A5, H⟩ := bs H
 (try dsimp -simprocs only at H)
 have H' := am H
 clear H
 go_enter Try.func157, Try.ntmps157
 go_wp2_with (first | ((with_reducible refine gate_callee (f := 144) rfl ?_); refine goesL_ (some 10) rfl rfl Try.func144 (by kernel_rfl) rfl #[.slice A0 l0.length c0] rfl lu ?_; (with_reducible refine (codewrightref01_Trim.calls k _ _ l0 aq _ ?side1 ?side2 A3.out).mono ?_); (case side1 => repeat (first | exact a9.out | (with_reducible refine Kd.C_alloc ?_ _) | (with_reducible refine Kd.C_drewN ?_ _) | (with_reducible refine Kd.C_drew ?_))); (case side2 => first | exact aM.out | exact vz aM.out); rintro e w6 ⟨ba, rfl, ae, hb⟩; refine ⟨_, rfl, ?_⟩; have aj := am (Kd.R_lower ae (below_size (bu HB.out))); replace HB := be HB hb; (try clear hb); (try clear ae)) | ((with_reducible refine gate_callee (f := 183) rfl ?_); refine goesL_ (some 12) rfl rfl Try.func183 (by kernel_rfl) rfl #[.slice A0 l0.length c0] rfl lu ?_; (with_reducible refine (codewrightref01_Bits.calls k _ _ l0 au _ ?side1 ?side2 A4.out).mono ?_); (case side1 => repeat (first | exact (Kd.C_below a9.out HB.out) | (with_reducible refine Kd.C_alloc ?_ _) | (with_reducible refine Kd.C_drewN ?_ _) | (with_reducible refine Kd.C_drew ?_))); (case side2 => first | exact aM.out | exact vz aM.out); rintro e w7 ⟨rfl, hb⟩; refine ⟨_, rfl, ?_⟩; replace aj := am (Kd.R_below (by (with_reducible repeat (first | apply Kd.R_alloc | apply Kd.R_drewN | apply Kd.R_drew)); exact aj.out) hb); replace HB := be HB hb; (try clear hb)) | ((with_reducible refine gate_callee (f := 183) rfl ?_); refine goesL_ (some 14) rfl rfl Try.func183 (by kernel_rfl) rfl #[.slice A1 l1.length c1] rfl lu ?_; (with_reducible refine (codewrightref01_Bits.calls k _ _ l1 av _ ?side1 ?side2 A5.out).mono ?_); (case side1 => repeat (first | exact (Kd.C_below aN.out HB.out) | (with_reducible refine Kd.C_alloc ?_ _) | (with_reducible refine Kd.C_drewN ?_ _) | (with_reducible refine Kd.C_drew ?_))); (case side2 => first | exact aE.out | exact vz aE.out); rintro e w8 ⟨rfl, hb⟩; refine ⟨_, rfl, ?_⟩; replace aj := am (Kd.R_below (by (with_reducible repeat (first | apply Kd.R_alloc | apply Kd.R_drewN | apply Kd.R_drew)); exact aj.out) hb); replace HB := be HB hb; (try clear hb)))
 go_loopg [4, 5, 7] k (fun kq v4 v5 v7 w' => ∃ (an : List Int) (ak : List Int) (ag : Int), v7 = .int .i64 ag ∧ Aside0 (codewrightref01_DivMod.l0 kq l1 an ak ag = some (r1, r2)) ∧ Aside0 (kq ≤ k) ∧ Aside0 (Kd.R (Kd.int .u32) 48 w' w.heap.size (fun k_ => some k_ ≠ (v5 : Value).ownBlock) v4 an) ∧ Aside0 (Kd.R (Kd.int .u32) 48 w' w.heap.size (fun k_ => some k_ ≠ (v4 : Value).ownBlock) v5 ak) ∧ Aside0 (Below w.heap.size w w'))
 case atStart => exact ⟨(([] : List Int)), (aq), (wrap64 (au - av)), (by first | rfl | (simp; done) | (simp [*]; done)), H', ⟨Nat.le_refl _⟩, ⟨by first | exact Kd.R_nil _ _ _ _ _ | exact Kd.N_nil _ _ _ _ _ | exact Kd.V_nil _ _ _ _ _ | exact Kd.Q_nil _ _ _ _ _ | exact Kd.S_nil _ _ _ _ _⟩, ⟨by (with_reducible repeat (first | apply Kd.R_alloc | apply Kd.R_drewN | apply Kd.R_drew)); exact Kd.R_mono aj.out (fun _ hk => (by simp [Value.ownBlock]))⟩, ⟨by repeat (first | (with_reducible first | exact HB.out | apply below_alloc | apply pw_below_drewN | apply below_drew1) | exact HB.out)⟩⟩
 case round =>
  clear H'
  try clear c1
  try clear p2
  try clear p6
  obtain ⟨an, ak, ag, rfl, HA, HK1, ac, ab, HB⟩ := hrel
  cases gk with
  | zero => exact absurd HA.out (by simp [codewrightref01_DivMod.l0])
  | succ k1 =>
   have H := HA.out
   clear HA
   simp only [codewrightref01_DivMod.l0] at H
   by_cases c9 : ag ≥ 0
   ·
    rw [if_pos c9] at H
    have aO : decide (0 ≤ ag) = true := decide_eq_true c9
    clear c9
    obtain ⟨ai, bb, H⟩ := bs H
    (try dsimp -simprocs only at H)
    obtain ⟨ao, bd, H⟩ := bs H
    (try dsimp -simprocs only at H)
    by_cases aF : ao ≥ 0
    ·
     rw [if_pos aF] at H
     have aG : decide (0 ≤ ao) = true := decide_eq_true aF
     clear aF
     obtain ⟨ay, bk, H⟩ := bs H
     (try dsimp -simprocs only at H)
     obtain ⟨az, ap⟩ : ∃ y_ : List Int, y_ = (([1] : List Int)) := ⟨_, rfl⟩
     rw [← ap] at H
     have aw := am ap
     clear ap
     obtain ⟨ax, bl, H⟩ := bs H
     (try dsimp -simprocs only at H)
     obtain ⟨aA, bm, H⟩ := bs H
     (try dsimp -simprocs only at H)
     have H' := am H
     clear H
     go_wp2_with (first | ((with_reducible refine gate_callee (f := 184) rfl ?_); refine goesL_ (some 23) rfl rfl Try.func184 (by kernel_rfl) rfl #[.slice A1 l1.length c1, .int .i64 ag] rfl lu ?_; (with_reducible refine (codewrightref01_shift.calls k1 _ _ l1 ag ai _ ?side1 ?side2 bb.out).mono ?_); (case side1 => repeat (first | exact (Kd.C_below aN.out HB.out) | (with_reducible refine Kd.C_alloc ?_ _) | (with_reducible refine Kd.C_drewN ?_ _) | (with_reducible refine Kd.C_drew ?_))); (case side2 => first | exact aE.out | exact vz aE.out); rintro e bo ⟨aH, rfl, ae, hb⟩; refine ⟨_, rfl, ?_⟩; have aa := am (Kd.R_lower (Kd.R_new' (Kd.R_new' ae (Kd.R_lt (by (with_reducible repeat (first | apply Kd.R_alloc | apply Kd.R_drewN | apply Kd.R_drew)); exact ac.out))) (Kd.R_lt (by (with_reducible repeat (first | apply Kd.R_alloc | apply Kd.R_drewN | apply Kd.R_drew)); exact ab.out))) (below_size (bu HB.out))); replace ac := am (Kd.R_elder' (by (with_reducible repeat (first | apply Kd.R_alloc | apply Kd.R_drewN | apply Kd.R_drew)); exact ac.out) (Kd.R_base ae) hb); replace ab := am (Kd.R_elder' (by (with_reducible repeat (first | apply Kd.R_alloc | apply Kd.R_drewN | apply Kd.R_drew)); exact ab.out) (Kd.R_base ae) hb); replace HB := be HB hb; (try clear hb); (try clear hk); (try clear ae); obtain ⟨aI, aJ, aP⟩ := Kd.R_slice ab.out; subst aP; obtain ⟨aK, aL, aQ⟩ := Kd.R_slice aa.out; subst aQ) | ((with_reducible refine gate_callee (f := 59) rfl ?_); refine goesL_ (some 26) rfl rfl Try.func59 (by kernel_rfl) rfl #[.slice aI ak.length aJ, .slice aK ai.length aL] rfl lu ?_; (with_reducible refine (codewrightref01_Cmp.calls k1 _ _ ak _ _ ai ao _ ?side1 ?side2 ?side3 ?side4 bd.out).mono ?_); (case side1 => exact cu (Kd.R_reads' ab.out).2.2); (case side2 => exact (Kd.R_reads' ab.out).2.1); (case side3 => exact cu (Kd.R_reads' aa.out).2.2); (case side4 => exact (Kd.R_reads' aa.out).2.1); rintro e bp ⟨rfl, hb⟩; refine ⟨_, rfl, ?_⟩; replace ac := am (Kd.R_below (by (with_reducible repeat (first | apply Kd.R_alloc | apply Kd.R_drewN | apply Kd.R_drew)); exact ac.out) hb); replace ab := am (Kd.R_below (by (with_reducible repeat (first | apply Kd.R_alloc | apply Kd.R_drewN | apply Kd.R_drew)); exact ab.out) hb); replace aa := am (Kd.R_below (by (with_reducible repeat (first | apply Kd.R_alloc | apply Kd.R_drewN | apply Kd.R_drew)); exact aa.out) hb); replace HB := be HB hb; (try clear hb); (try clear hk)) | ((with_reducible refine gate_callee (f := 166) rfl ?_); refine goesL_ (some 30) rfl rfl Try.func166 (by kernel_rfl) rfl #[.slice aI ak.length aJ, .slice aK ai.length aL] rfl lu ?_; (with_reducible refine (codewrightref01_Sub.calls k1 _ _ ak _ _ ai ay _ ?side1 ?side2 ?side3 ?side4 bk.out).mono ?_); (case side1 => exact cu (Kd.R_reads' ab.out).2.2); (case side2 => exact (Kd.R_reads' ab.out).2.1); (case side3 => exact cu (Kd.R_reads' aa.out).2.2); (case side4 => exact (Kd.R_reads' aa.out).2.1); rintro e bq ⟨bf, rfl, ae, hb⟩; refine ⟨_, rfl, ?_⟩; have ad := am (Kd.R_lower (Kd.R_new' (Kd.R_new' (Kd.R_new' ae (Kd.R_lt (by (with_reducible repeat (first | apply Kd.R_alloc | apply Kd.R_drewN | apply Kd.R_drew)); exact ac.out))) (Kd.R_lt (by (with_reducible repeat (first | apply Kd.R_alloc | apply Kd.R_drewN | apply Kd.R_drew)); exact ab.out))) (Kd.R_lt (by (with_reducible repeat (first | apply Kd.R_alloc | apply Kd.R_drewN | apply Kd.R_drew)); exact aa.out))) (below_size (bu HB.out))); replace ac := am (Kd.R_elder' (by (with_reducible repeat (first | apply Kd.R_alloc | apply Kd.R_drewN | apply Kd.R_drew)); exact ac.out) (Kd.R_base ae) hb); replace ab := am (Kd.R_elder' (by (with_reducible repeat (first | apply Kd.R_alloc | apply Kd.R_drewN | apply Kd.R_drew)); exact ab.out) (Kd.R_base ae) hb); replace aa := am (Kd.R_elder' (by (with_reducible repeat (first | apply Kd.R_alloc | apply Kd.R_drewN | apply Kd.R_drew)); exact aa.out) (Kd.R_base ae) hb); replace HB := be HB hb; (try clear hb); (try clear hk); (try clear ae)) | ((with_reducible refine gate_dst (N := 32) rfl ?_); refine Kd.R_lit (Kd.int .u32) _ 48 ?hg (N := 32) ?hd (xs := ([1] : List Int)) (inner := [.int .u32 1]) (ok := fun _ => True) (okp := fun _ => True) ?hr ?hp (fun _ hk => hk) trivial (Below.refl _ _) (Nat.le_refl _) (by simp) ?_; (case hd => rfl); (case hg => rfl); (case hr => first | (go_simp; done) | (go_simp; rfl)); (case hp => exact (Reps.one (show Kd.M (Kd.int .u32) _ _ _ 1 [.int .u32 1] from rfl) (Reps.none _ _))); intro bg br al hb hg_ hnew_; clear hg_ hnew_; (first | rw [← aw.out] at al | (simp only [Int.reduceToNat] at al; rw [← aw.out] at al)); have af := am (Kd.R_lower (Kd.R_new' (Kd.R_new' (Kd.R_new' (Kd.R_new' al (Kd.R_lt (by (with_reducible repeat (first | apply Kd.R_alloc | apply Kd.R_drewN | apply Kd.R_drew)); exact ac.out))) (Kd.R_lt (by (with_reducible repeat (first | apply Kd.R_alloc | apply Kd.R_drewN | apply Kd.R_drew)); exact ab.out))) (Kd.R_lt (by (with_reducible repeat (first | apply Kd.R_alloc | apply Kd.R_drewN | apply Kd.R_drew)); exact aa.out))) (Kd.R_lt (by (with_reducible repeat (first | apply Kd.R_alloc | apply Kd.R_drewN | apply Kd.R_drew)); exact ad.out))) (below_size (bu HB.out))); replace ac := am (Kd.R_elder' (by (with_reducible repeat (first | apply Kd.R_alloc | apply Kd.R_drewN | apply Kd.R_drew)); exact ac.out) (Kd.R_base al) hb); replace ab := am (Kd.R_elder' (by (with_reducible repeat (first | apply Kd.R_alloc | apply Kd.R_drewN | apply Kd.R_drew)); exact ab.out) (Kd.R_base al) hb); replace aa := am (Kd.R_elder' (by (with_reducible repeat (first | apply Kd.R_alloc | apply Kd.R_drewN | apply Kd.R_drew)); exact aa.out) (Kd.R_base al) hb); replace ad := am (Kd.R_elder' (by (with_reducible repeat (first | apply Kd.R_alloc | apply Kd.R_drewN | apply Kd.R_drew)); exact ad.out) (Kd.R_base al) hb); replace HB := be HB hb; clear hb al; obtain ⟨aR, aS, aT⟩ := Kd.R_slice af.out; subst aT) | ((with_reducible refine gate_callee (f := 184) rfl ?_); refine goesL_ (some 34) rfl rfl Try.func184 (by kernel_rfl) rfl #[.slice aR az.length aS, .int .i64 ag] rfl lu ?_; (with_reducible refine (codewrightref01_shift.calls k1 _ _ az ag ax _ ?side1 ?side2 bl.out).mono ?_); (case side1 => exact cu (Kd.R_reads' af.out).2.2); (case side2 => exact (Kd.R_reads' af.out).2.1); rintro e bv ⟨bh, rfl, ae, hb⟩; refine ⟨_, rfl, ?_⟩; have ah := am (Kd.R_lower (Kd.R_new' (Kd.R_new' (Kd.R_new' (Kd.R_new' (Kd.R_new' ae (Kd.R_lt (by (with_reducible repeat (first | apply Kd.R_alloc | apply Kd.R_drewN | apply Kd.R_drew)); exact ac.out))) (Kd.R_lt (by (with_reducible repeat (first | apply Kd.R_alloc | apply Kd.R_drewN | apply Kd.R_drew)); exact ab.out))) (Kd.R_lt (by (with_reducible repeat (first | apply Kd.R_alloc | apply Kd.R_drewN | apply Kd.R_drew)); exact aa.out))) (Kd.R_lt (by (with_reducible repeat (first | apply Kd.R_alloc | apply Kd.R_drewN | apply Kd.R_drew)); exact ad.out))) (Kd.R_lt (by (with_reducible repeat (first | apply Kd.R_alloc | apply Kd.R_drewN | apply Kd.R_drew)); exact af.out))) (below_size (bu HB.out))); replace ac := am (Kd.R_elder' (by (with_reducible repeat (first | apply Kd.R_alloc | apply Kd.R_drewN | apply Kd.R_drew)); exact ac.out) (Kd.R_base ae) hb); replace ab := am (Kd.R_elder' (by (with_reducible repeat (first | apply Kd.R_alloc | apply Kd.R_drewN | apply Kd.R_drew)); exact ab.out) (Kd.R_base ae) hb); replace aa := am (Kd.R_elder' (by (with_reducible repeat (first | apply Kd.R_alloc | apply Kd.R_drewN | apply Kd.R_drew)); exact aa.out) (Kd.R_base ae) hb); replace ad := am (Kd.R_elder' (by (with_reducible repeat (first | apply Kd.R_alloc | apply Kd.R_drewN | apply Kd.R_drew)); exact ad.out) (Kd.R_base ae) hb); replace af := am (Kd.R_elder' (by (with_reducible repeat (first | apply Kd.R_alloc | apply Kd.R_drewN | apply Kd.R_drew)); exact af.out) (Kd.R_base ae) hb); replace HB := be HB hb; (try clear hb); (try clear hk); (try clear ae); obtain ⟨aU, aV, aW⟩ := Kd.R_slice ac.out; subst aW; obtain ⟨aX, aY, aZ⟩ := Kd.R_slice ah.out; subst aZ) | ((with_reducible refine gate_callee (f := 55) rfl ?_); refine goesL_ (some 35) rfl rfl Try.func55 (by kernel_rfl) rfl #[.slice aU an.length aV, .slice aX ax.length aY] rfl lu ?_; (with_reducible refine (codewrightref01_Add.calls k1 _ _ an _ _ ax aA _ ?side1 ?side2 ?side3 ?side4 bm.out).mono ?_); (case side1 => exact cu (Kd.R_reads' ac.out).2.2); (case side2 => exact (Kd.R_reads' ac.out).2.1); (case side3 => exact cu (Kd.R_reads' ah.out).2.2); (case side4 => exact (Kd.R_reads' ah.out).2.1); rintro e bw ⟨bi, rfl, ae, hb⟩; refine ⟨_, rfl, ?_⟩; have aC := am (Kd.R_lower (Kd.R_new' (Kd.R_new' (Kd.R_new' (Kd.R_new' (Kd.R_new' (Kd.R_new' ae (Kd.R_lt (by (with_reducible repeat (first | apply Kd.R_alloc | apply Kd.R_drewN | apply Kd.R_drew)); exact ac.out))) (Kd.R_lt (by (with_reducible repeat (first | apply Kd.R_alloc | apply Kd.R_drewN | apply Kd.R_drew)); exact ab.out))) (Kd.R_lt (by (with_reducible repeat (first | apply Kd.R_alloc | apply Kd.R_drewN | apply Kd.R_drew)); exact aa.out))) (Kd.R_lt (by (with_reducible repeat (first | apply Kd.R_alloc | apply Kd.R_drewN | apply Kd.R_drew)); exact ad.out))) (Kd.R_lt (by (with_reducible repeat (first | apply Kd.R_alloc | apply Kd.R_drewN | apply Kd.R_drew)); exact af.out))) (Kd.R_lt (by (with_reducible repeat (first | apply Kd.R_alloc | apply Kd.R_drewN | apply Kd.R_drew)); exact ah.out))) (below_size (bu HB.out))); replace ac := am (Kd.R_elder' (by (with_reducible repeat (first | apply Kd.R_alloc | apply Kd.R_drewN | apply Kd.R_drew)); exact ac.out) (Kd.R_base ae) hb); replace ab := am (Kd.R_elder' (by (with_reducible repeat (first | apply Kd.R_alloc | apply Kd.R_drewN | apply Kd.R_drew)); exact ab.out) (Kd.R_base ae) hb); replace aa := am (Kd.R_elder' (by (with_reducible repeat (first | apply Kd.R_alloc | apply Kd.R_drewN | apply Kd.R_drew)); exact aa.out) (Kd.R_base ae) hb); replace ad := am (Kd.R_elder' (by (with_reducible repeat (first | apply Kd.R_alloc | apply Kd.R_drewN | apply Kd.R_drew)); exact ad.out) (Kd.R_base ae) hb); replace af := am (Kd.R_elder' (by (with_reducible repeat (first | apply Kd.R_alloc | apply Kd.R_drewN | apply Kd.R_drew)); exact af.out) (Kd.R_base ae) hb); replace ah := am (Kd.R_elder' (by (with_reducible repeat (first | apply Kd.R_alloc | apply Kd.R_drewN | apply Kd.R_drew)); exact ah.out) (Kd.R_base ae) hb); replace HB := be HB hb; (try clear hb); (try clear hk); (try clear ae)))
     go_roundg k1
     case measure => have := HK1.out; omega
     case rel => exact ⟨(aA), (ay), (wrap64 (ag - 1)), (by first | rfl | (simp; done) | (simp [*]; done)), H', ⟨by have := HK1.out; omega⟩, ⟨by (with_reducible repeat (first | apply Kd.R_alloc | apply Kd.R_drewN | apply Kd.R_drew)); exact Kd.R_mono aC.out (fun _ hk => hk.1.1.2)⟩, ⟨by (with_reducible repeat (first | apply Kd.R_alloc | apply Kd.R_drewN | apply Kd.R_drew)); exact Kd.R_mono ad.out (fun _ hk => hk.2)⟩, ⟨by repeat (first | (with_reducible first | exact HB.out | apply below_alloc | apply pw_below_drewN | apply below_drew1) | exact HB.out)⟩⟩
    ·
     rw [if_neg aF] at H
     have aG : decide (0 ≤ ao) = false := decide_eq_false aF
     clear aF
     have H' := am H
     clear H
     go_wp2_with (first | ((with_reducible refine gate_callee (f := 184) rfl ?_); refine goesL_ (some 23) rfl rfl Try.func184 (by kernel_rfl) rfl #[.slice A1 l1.length c1, .int .i64 ag] rfl lu ?_; (with_reducible refine (codewrightref01_shift.calls k1 _ _ l1 ag ai _ ?side1 ?side2 bb.out).mono ?_); (case side1 => repeat (first | exact (Kd.C_below aN.out HB.out) | (with_reducible refine Kd.C_alloc ?_ _) | (with_reducible refine Kd.C_drewN ?_ _) | (with_reducible refine Kd.C_drew ?_))); (case side2 => first | exact aE.out | exact vz aE.out); rintro e bx ⟨aH, rfl, ae, hb⟩; refine ⟨_, rfl, ?_⟩; have aa := am (Kd.R_lower (Kd.R_new' (Kd.R_new' ae (Kd.R_lt (by (with_reducible repeat (first | apply Kd.R_alloc | apply Kd.R_drewN | apply Kd.R_drew)); exact ac.out))) (Kd.R_lt (by (with_reducible repeat (first | apply Kd.R_alloc | apply Kd.R_drewN | apply Kd.R_drew)); exact ab.out))) (below_size (bu HB.out))); replace ac := am (Kd.R_elder' (by (with_reducible repeat (first | apply Kd.R_alloc | apply Kd.R_drewN | apply Kd.R_drew)); exact ac.out) (Kd.R_base ae) hb); replace ab := am (Kd.R_elder' (by (with_reducible repeat (first | apply Kd.R_alloc | apply Kd.R_drewN | apply Kd.R_drew)); exact ab.out) (Kd.R_base ae) hb); replace HB := be HB hb; (try clear hb); (try clear ae); obtain ⟨a0, a1, a2⟩ := Kd.R_slice ab.out; subst a2; obtain ⟨a3, a4, a5⟩ := Kd.R_slice aa.out; subst a5) | ((with_reducible refine gate_callee (f := 59) rfl ?_); refine goesL_ (some 26) rfl rfl Try.func59 (by kernel_rfl) rfl #[.slice a0 ak.length a1, .slice a3 ai.length a4] rfl lu ?_; (with_reducible refine (codewrightref01_Cmp.calls k1 _ _ ak _ _ ai ao _ ?side1 ?side2 ?side3 ?side4 bd.out).mono ?_); (case side1 => exact cu (Kd.R_reads' ab.out).2.2); (case side2 => exact (Kd.R_reads' ab.out).2.1); (case side3 => exact cu (Kd.R_reads' aa.out).2.2); (case side4 => exact (Kd.R_reads' aa.out).2.1); rintro e bz ⟨rfl, hb⟩; refine ⟨_, rfl, ?_⟩; replace ac := am (Kd.R_below (by (with_reducible repeat (first | apply Kd.R_alloc | apply Kd.R_drewN | apply Kd.R_drew)); exact ac.out) hb); replace ab := am (Kd.R_below (by (with_reducible repeat (first | apply Kd.R_alloc | apply Kd.R_drewN | apply Kd.R_drew)); exact ab.out) hb); replace aa := am (Kd.R_below (by (with_reducible repeat (first | apply Kd.R_alloc | apply Kd.R_drewN | apply Kd.R_drew)); exact aa.out) hb); replace HB := be HB hb; (try clear hb)))
     go_roundg k1
     case measure => have := HK1.out; omega
     case rel => exact ⟨(an), (ak), (wrap64 (ag - 1)), (by first | rfl | (simp; done) | (simp [*]; done)), H', ⟨by have := HK1.out; omega⟩, ⟨by (with_reducible repeat (first | apply Kd.R_alloc | apply Kd.R_drewN | apply Kd.R_drew)); exact Kd.R_mono ac.out (fun _ hk => hk.1)⟩, ⟨by (with_reducible repeat (first | apply Kd.R_alloc | apply Kd.R_drewN | apply Kd.R_drew)); exact Kd.R_mono ab.out (fun _ hk => hk.1)⟩, ⟨by repeat (first | (with_reducible first | exact HB.out | apply below_alloc | apply pw_below_drewN | apply below_drew1) | exact HB.out)⟩⟩
   ·
    rw [if_neg c9] at H
    have aO : decide (0 ≤ ag) = false := decide_eq_false c9
    clear c9
    obtain ⟨aB, bn, H⟩ := bs H
    replace H : (some (aB, ak)) = some (r1, r2) := H
    simp only [Option.some.injEq, Prod.mk.injEq] at H
    obtain ⟨rfl, rfl⟩ := H
    obtain ⟨a6, a7, a8⟩ := Kd.R_slice ac.out
    subst a8
    go_wp2_with (first | ((with_reducible refine gate_callee (f := 144) rfl ?_); refine goesL_ (some 37) rfl rfl Try.func144 (by kernel_rfl) rfl #[.slice a6 an.length a7] rfl lu ?_; (with_reducible refine (codewrightref01_Trim.calls k1 _ _ an aB _ ?side1 ?side2 bn.out).mono ?_); (case side1 => exact cu (Kd.R_reads' ac.out).2.2); (case side2 => exact (Kd.R_reads' ac.out).2.1); rintro e bA ⟨bj, rfl, ae, hb⟩; refine ⟨_, rfl, ?_⟩; have aD := am (Kd.R_lower (Kd.R_new' (Kd.R_new' ae (Kd.R_lt (by (with_reducible repeat (first | apply Kd.R_alloc | apply Kd.R_drewN | apply Kd.R_drew)); exact ac.out))) (Kd.R_lt (by (with_reducible repeat (first | apply Kd.R_alloc | apply Kd.R_drewN | apply Kd.R_drew)); exact ab.out))) (below_size (bu HB.out))); replace ac := am (Kd.R_elder' (by (with_reducible repeat (first | apply Kd.R_alloc | apply Kd.R_drewN | apply Kd.R_drew)); exact ac.out) (Kd.R_base ae) hb); replace ab := am (Kd.R_elder' (by (with_reducible repeat (first | apply Kd.R_alloc | apply Kd.R_drewN | apply Kd.R_drew)); exact ab.out) (Kd.R_base ae) hb); replace HB := be HB hb; (try clear hb); (try clear ae)))
    go_ret2
    exact ⟨_, _, by first | rfl | (simp [errW_none, errW_some] <;> rfl) | (simp [*, errW_none, errW_some] <;> rfl), by (with_reducible repeat (first | apply Kd.R_alloc | apply Kd.R_drewN | apply Kd.R_drew)); exact Kd.R_mono aD.out (fun _ hk => hk.2), by (with_reducible repeat (first | apply Kd.R_alloc | apply Kd.R_drewN | apply Kd.R_drew)); exact Kd.R_mono ab.out (fun _ hk => hk.2), by repeat (first | (with_reducible first | exact HB.out | apply below_alloc | apply pw_below_drewN | apply below_drew1) | exact HB.out)⟩
def codewrightref01_Gcd.l0 : Nat → List Int → List Int → Option (List Int)
 | 0, _, _ => none
 | k + 1, x0, x1 => (codewrightref01_Zero.f k x1).bind fun t1093 => (if t1093 = true then ((codewrightref01_Trim.f k x0).bind fun t1094 => (some t1094)) else ((codewrightref01_DivMod.f k x0 x1).bind fun bt1097 => (codewrightref01_Gcd.l0 k x1 bt1097.2)))
def codewrightref01_Gcd.f (k : Nat) (l0 : List Int) (l1 : List Int) : Option (List Int) := codewrightref01_Gcd.l0 k l0 l1
theorem codewrightref01_Gcd.calls (k : Nat) (P0_ : Nat → Prop) (A0 : Option Addr) (c0 : Nat) (l0 : List Int) (P1_ : Nat → Prop) (A1 : Option Addr) (c1 : Nat) (l1 : List Int) (r : List Int) (w : World) (hs0 : Kd.V (Kd.int .u32) 48 w w.heap.size (fun k_ => P0_ k_) (.slice A0 l0.length c0) l0) (hs1 : Kd.V (Kd.int .u32) 48 w w.heap.size (fun k_ => P1_ k_) (.slice A1 l1.length c1) l1) (h : codewrightref01_Gcd.f k l0 l1 = some r) :
 Calls Try.prog 156 #[.slice A0 l0.length c0, .slice A1 l1.length c1] w fun e w' => ∃ v0_ : Value, e = .returned (v0_) ∧ Kd.R (Kd.int .u32) 48 w' w.heap.size (fun k_ => (w.heap.size ≤ k_)) v0_ r ∧ Below w.heap.size w w' := by
 have aB := am (show Kd.V (Kd.int .u32) 48 w w.heap.size (fun k_ => ((P0_ k_ ∨ P1_ k_) ∨ w.heap.size ≤ k_)) (.slice A0 l0.length c0) l0 from Kd.V_mono hs0 (fun k_ hk => .inl (.inl hk)))
 have aC := am (show Kd.V (Kd.int .u32) 48 w w.heap.size (fun k_ => ((P0_ k_ ∨ P1_ k_) ∨ w.heap.size ≤ k_)) (.slice A1 l1.length c1) l1 from Kd.V_mono hs1 (fun k_ hk => .inl (.inr hk)))
 have HB := am (Below.refl w.heap.size w)
 have H : (codewrightref01_Gcd.l0 k l0 l1) = some r := h
 clear h
 have H' := am H
 clear H
 go_enter Try.func156, Try.ntmps156
 go_wp2
 go_loopg [0, 1] k (fun kq v0 v1 w' => ∃ (ad : List Int) (ac : List Int), Aside0 (codewrightref01_Gcd.l0 kq ad ac = some r) ∧ Aside0 (kq ≤ k) ∧ Aside0 (Kd.V (Kd.int .u32) 48 w' w.heap.size (fun k_ => ((P0_ k_ ∨ P1_ k_) ∨ w.heap.size ≤ k_)) v0 ad) ∧ Aside0 (Kd.V (Kd.int .u32) 48 w' w.heap.size (fun k_ => ((P0_ k_ ∨ P1_ k_) ∨ w.heap.size ≤ k_)) v1 ac) ∧ Aside0 (Below w.heap.size w w'))
 case atStart => exact ⟨(l0), (l1), H', ⟨Nat.le_refl _⟩, ⟨by (with_reducible repeat (first | apply Kd.V_alloc | apply Kd.V_drewN | apply Kd.V_drew)); exact aB.out⟩, ⟨by (with_reducible repeat (first | apply Kd.V_alloc | apply Kd.V_drewN | apply Kd.V_drew)); exact aC.out⟩, ⟨by repeat (first | (with_reducible first | exact HB.out | apply below_alloc | apply pw_below_drewN | apply below_drew1) | exact HB.out)⟩⟩
 case round =>
  clear H'
  try clear c1
  try clear p2
  obtain ⟨ad, ac, HA, HK1, ab, aa, HB⟩ := hrel
  cases gk with
  | zero => exact absurd HA.out (by simp [codewrightref01_Gcd.l0])
  | succ k1 =>
   have H := HA.out
   clear HA
   simp only [codewrightref01_Gcd.l0] at H
   obtain ⟨ak, A3, H⟩ := bs H
   (try dsimp -simprocs only at H)
   by_cases c4 : ak = true
   ·
    subst c4
    have H1 : ((codewrightref01_Trim.f k1 ad).bind fun ae => (some ae)) = some r := by rw [if_pos rfl] at H; exact H
    clear H
    have H := H1
    clear H1
    obtain ⟨ae, A5, H⟩ := bs H
    replace H : (some ae) = some r := H
    obtain rfl := Option.some.inj H
    obtain ⟨aD, aE, aF⟩ := Kd.V_slice aa.out
    subst aF
    go_wp2_with (first | ((with_reducible refine gate_callee (f := 150) rfl ?_); refine goesL_ (some 8) rfl rfl Try.func150 (by kernel_rfl) rfl #[.slice aD ac.length aE] rfl lu ?_; (with_reducible refine (codewrightref01_Zero.calls k1 _ _ ac true _ ?side1 ?side2 A3.out).mono ?_); (case side1 => exact cu (Kd.V_reads' aa.out).2.2); (case side2 => exact (Kd.V_reads' aa.out).2.1); rintro e w7 ⟨rfl, hb⟩; refine ⟨_, rfl, ?_⟩; replace ab := kv ab hb; replace aa := kv aa hb; replace HB := be HB hb; (try clear hb); obtain ⟨aG, aH, aI⟩ := Kd.V_slice ab.out; subst aI) | ((with_reducible refine gate_callee (f := 144) rfl ?_); refine goesL_ (some 19) rfl rfl Try.func144 (by kernel_rfl) rfl #[.slice aG ad.length aH] rfl lu ?_; (with_reducible refine (codewrightref01_Trim.calls k1 _ _ ad ae _ ?side1 ?side2 A5.out).mono ?_); (case side1 => exact cu (Kd.V_reads' ab.out).2.2); (case side2 => exact (Kd.V_reads' ab.out).2.1); rintro e w9 ⟨ay, rfl, af, hb⟩; refine ⟨_, rfl, ?_⟩; replace ab := am (Kd.V_elder' (vu ab.out) (Kd.R_base af) hb); replace aa := am (Kd.V_elder' (vu aa.out) (Kd.R_base af) hb); have ah := am (Kd.R_lower (Kd.R_newM (M := fun k_ => (w.heap.size ≤ k_)) af (below_size (bu HB.out)) (fun k_ h_ => h_)) (below_size (bu HB.out))); replace HB := be HB hb; (try clear hb); (try clear af)))
    go_ret
    exact ⟨_, by first | rfl | (simp [errW_none, errW_some] <;> rfl) | (simp [*, errW_none, errW_some] <;> rfl), by (with_reducible repeat (first | apply Kd.R_alloc | apply Kd.R_drewN | apply Kd.R_drew)); exact Kd.R_mono ah.out (fun _ hk => hk.1), by repeat (first | (with_reducible first | exact HB.out | apply below_alloc | apply pw_below_drewN | apply below_drew1) | exact HB.out)⟩
   ·
    replace c4 := Bool.eq_false_iff.mpr c4
    subst c4
    have H1 : ((codewrightref01_DivMod.f k1 ad ac).bind fun ai => (codewrightref01_Gcd.l0 k1 ac ai.2)) = some r := by rw [if_neg (show ¬ (false = true) by decide)] at H; exact H
    clear H
    have H := H1
    clear H1
    obtain ⟨⟨al, ag⟩, aJ, H⟩ := bs H
    (try dsimp -simprocs only at H)
    have H' := am H
    clear H
    obtain ⟨an, ao, aq⟩ := Kd.V_slice aa.out
    subst aq
    go_wp2_with (first | ((with_reducible refine gate_callee (f := 150) rfl ?_); refine goesL_ (some 8) rfl rfl Try.func150 (by kernel_rfl) rfl #[.slice an ac.length ao] rfl lu ?_; (with_reducible refine (codewrightref01_Zero.calls k1 _ _ ac false _ ?side1 ?side2 A3.out).mono ?_); (case side1 => exact cu (Kd.V_reads' aa.out).2.2); (case side2 => exact (Kd.V_reads' aa.out).2.1); rintro e aK ⟨rfl, hb⟩; refine ⟨_, rfl, ?_⟩; replace ab := kv ab hb; replace aa := kv aa hb; replace HB := be HB hb; (try clear hb); obtain ⟨au, av, aw⟩ := Kd.V_slice ab.out; subst aw) | ((with_reducible refine gate_callee (f := 157) rfl ?_); refine goesL_ (some 13) rfl rfl Try.func157 (by kernel_rfl) rfl #[.slice au ad.length av, .slice an ac.length ao] rfl lu ?_; (with_reducible refine (codewrightref01_DivMod.calls k1 _ _ ad _ _ ac al ag _ ?side1 ?side2 ?side3 ?side4 aJ.out).mono ?_); (case side1 => exact cu (Kd.V_reads' ab.out).2.2); (case side2 => exact (Kd.V_reads' ab.out).2.1); (case side3 => exact cu (Kd.V_reads' aa.out).2.2); (case side4 => exact (Kd.V_reads' aa.out).2.1); rintro e aL ⟨az, aA, rfl, af, ap, hb⟩; refine ⟨_, rfl, ?_⟩; replace ab := am (Kd.V_mono (Kd.V_told (Kd.V_told (Kd.V_old (vu ab.out) hb) (Kd.R_base af)) (Kd.R_base ap)) (fun _ h_ => h_.1)); replace aa := am (Kd.V_mono (Kd.V_told (Kd.V_told (Kd.V_old (vu aa.out) hb) (Kd.R_base af)) (Kd.R_base ap)) (fun _ h_ => h_.1)); have ax := am (Kd.R_lower (Kd.R_newM (M := fun k_ => (w.heap.size ≤ k_)) af (below_size (bu HB.out)) (fun k_ h_ => h_)) (below_size (bu HB.out))); have aj := am (Kd.R_lower (Kd.R_newM (M := fun k_ => (w.heap.size ≤ k_)) ap (below_size (bu HB.out)) (fun k_ h_ => h_)) (below_size (bu HB.out))); replace HB := be HB hb; (try clear hb); (try clear af); (try clear ap)))
    go_roundg k1
    case measure => have := HK1.out; omega
    case rel => exact ⟨(ac), (ag), H', ⟨by have := HK1.out; omega⟩, ⟨by exact vz aa.out⟩, ⟨Kd.V_mono (Kd.R_V (by (with_reducible repeat (first | apply Kd.R_alloc | apply Kd.R_drewN | apply Kd.R_drew)); exact Kd.R_mono aj.out (fun _ hk => hk.1))) (fun k_ hk => by first | exact ⟨(.inr (hk.1)), hk.2⟩ | exact (.inr (hk)))⟩, ⟨by repeat (first | (with_reducible first | exact HB.out | apply below_alloc | apply pw_below_drewN | apply below_drew1) | exact HB.out)⟩⟩
def codewrightref02_Make.j0 : Nat → Bool → List Int → List Int → Bool → Option (Bool × List Int × List Int)
 | 0, _, _, _, _ => none
 | k + 1, x0, x1, x2, x17 => if x17 = true then (some (false, (([] : List Int)), (([1] : List Int)))) else ((codewrightref01_Gcd.f k x1 x2).bind fun t1112 => ((codewrightref01_DivMod.f k x1 t1112).bind fun bt1115 => ((codewrightref01_DivMod.f k x2 t1112).bind fun bt1121 => (some (x0, bt1115.1, bt1121.1)))))
def codewrightref02_Make.f (k : Nat) (a0 : Bool) (l1 : List Int) (l2 : List Int) : Option (Bool × List Int × List Int) := (codewrightref01_Zero.f k l1).bind fun t1104 => (if t1104 = true then (codewrightref02_Make.j0 k a0 l1 l2 true) else ((codewrightref01_Zero.f k l2).bind fun t1105 => (codewrightref02_Make.j0 k a0 l1 l2 t1105)))
theorem codewrightref02_Make.calls (k : Nat) (a0 : Bool) (P1_ : Nat → Prop) (A1 : Option Addr) (c1 : Nat) (l1 : List Int) (P2_ : Nat → Prop) (A2 : Option Addr) (c2 : Nat) (l2 : List Int) (r1 : Bool) (r2 : List Int) (r3 : List Int) (w : World) (hs1 : Kd.V (Kd.int .u32) 48 w w.heap.size (fun k_ => P1_ k_) (.slice A1 l1.length c1) l1) (hs2 : Kd.V (Kd.int .u32) 48 w w.heap.size (fun k_ => P2_ k_) (.slice A2 l2.length c2) l2) (h : codewrightref02_Make.f k a0 l1 l2 = some (r1, r2, r3)) :
 Calls Try.prog 80 #[.bool a0, .slice A1 l1.length c1, .slice A2 l2.length c2] w fun e w' => ∃ v1_ v2_ : Value, e = .returned (.agg #[.bool r1, v1_, v2_]) ∧ Kd.V (Kd.int .u32) 48 w' w.heap.size (fun k_ => ((P1_ k_ ∨ P2_ k_) ∨ w.heap.size ≤ k_)) v1_ r2 ∧ Kd.V (Kd.int .u32) 48 w' w.heap.size (fun k_ => ((P1_ k_ ∨ P2_ k_) ∨ w.heap.size ≤ k_)) v2_ r3 ∧ Below w.heap.size w w' := by
 have bq := Try.underlying67
 have ap := am (show Kd.V (Kd.int .u32) 48 w w.heap.size (fun k_ => ((P1_ k_ ∨ P2_ k_) ∨ w.heap.size ≤ k_)) (.slice A1 l1.length c1) l1 from Kd.V_mono hs1 (fun k_ hk => .inl (.inl hk)))
 have aw := am (show Kd.V (Kd.int .u32) 48 w w.heap.size (fun k_ => ((P1_ k_ ∨ P2_ k_) ∨ w.heap.size ≤ k_)) (.slice A2 l2.length c2) l2 from Kd.V_mono hs2 (fun k_ hk => .inl (.inr hk)))
 have HB := am (Below.refl w.heap.size w)
 have H : ((codewrightref01_Zero.f k l1).bind fun ax => (if ax = true then (codewrightref02_Make.j0 k a0 l1 l2 true) else ((codewrightref01_Zero.f k l2).bind fun aj => (codewrightref02_Make.j0 k a0 l1 l2 aj)))) = some (r1, r2, r3) := h
 clear h
 have a5 := am H
 clear H
 go_enter Try.func80, Try.ntmps80
 go_upto_region 1 with (first | ((with_reducible refine gate_dst (N := 6) rfl ?_); refine box_event ?hg (N := 6) ?hd (cs := #[.bool false, .slice none 0 0, .slice none 0 0]) (t := 67) ?hr ?_; (case hd => rfl); (case hg => rfl); (case hr => first | (go_simp; done) | (go_simp; rfl)); intro ac hg w5 hbox hb; replace ap := ke ap hg hb; replace aw := ke aw hg hb; have aa := am (hbox); have a6 := ng hg (bu HB.out); have ab := ng hg (bu HB.out); replace HB := be HB hb; clear hb hbox hg))
 (try simp only [Act.put, List.setIfInBounds_toArray, List.set_cons_zero, List.set_cons_succ])
 go_cut [17] (fun br wc => ∃ (kq : Nat) (aq : Bool), br = .bool aq ∧ Aside0 (codewrightref02_Make.j0 kq a0 l1 l2 aq = some (r1, r2, r3)) ∧ Aside0 (kq ≤ k) ∧ Aside0 (Kd.V (Kd.int .u32) 48 wc w.heap.size (fun k_ => ((P1_ k_ ∨ P2_ k_) ∨ w.heap.size ≤ k_) ∧ k_ ≠ ac) (.slice A1 l1.length c1) l1) ∧ Aside0 (Kd.V (Kd.int .u32) 48 wc w.heap.size (fun k_ => ((P1_ k_ ∨ P2_ k_) ∨ w.heap.size ≤ k_) ∧ k_ ≠ ac) (.slice A2 l2.length c2) l2) ∧ Aside0 (wc.heap[ac]? = some (.cells #[.bool false, (.slice none 0 0), (.slice none 0 0)] 67 (0, 0))) ∧ Aside0 (Below w.heap.size w wc))
 case first =>
  have H := a5.out
  clear a5
  obtain ⟨ax, A6, H⟩ := bs H
  (try dsimp -simprocs only at H)
  by_cases c7 : ax = true
  ·
   subst c7
   have H1 : (codewrightref02_Make.j0 k a0 l1 l2 true) = some (r1, r2, r3) := by rw [if_pos rfl] at H; exact H
   clear H
   have H := H1
   clear H1
   have H' := am H
   clear H
   go_wp2_with (first | ((with_reducible refine gate_callee (f := 150) rfl ?_); refine goesL_ (some 13) rfl rfl Try.func150 (by kernel_rfl) rfl #[.slice A1 l1.length c1] rfl lu ?_; (with_reducible refine (codewrightref01_Zero.calls k _ _ l1 true _ ?side1 ?side2 A6.out).mono ?_); (case side1 => exact cu (Kd.V_reads' ap.out).2.2); (case side2 => exact (Kd.V_reads' ap.out).2.1); rintro e w8 ⟨rfl, hb⟩; refine ⟨_, rfl, ?_⟩; replace ap := kv ap hb; replace aw := kv aw hb; replace aa := kb aa hb; replace HB := be1 HB ab hb; (try clear hb)))
   go_meet
   case rel => exact ⟨_, (true), (by first | rfl | (simp; done) | (simp [*]; done)), H', ⟨by first | omega | exact Nat.le_refl _⟩, ⟨by (with_reducible repeat (first | apply Kd.V_alloc | apply Kd.V_drewN | apply Kd.V_drew)); exact ap.out⟩, ⟨by (with_reducible repeat (first | apply Kd.V_alloc | apply Kd.V_drewN | apply Kd.V_drew)); exact aw.out⟩, ⟨by (with_reducible repeat (first | refine blk_drewN ?_ _ | refine blk_drew ?_ | refine blk_alloc ?_ _)); exact aa.out⟩, ⟨by repeat (first | (with_reducible first | exact HB.out | apply below_alloc | apply pw_below_drewN | apply below_drew1 | refine below_set ?_ ab.out) | exact HB.out)⟩⟩
  ·
   replace c7 := Bool.eq_false_iff.mpr c7
   subst c7
   have H1 : ((codewrightref01_Zero.f k l2).bind fun aj => (codewrightref02_Make.j0 k a0 l1 l2 aj)) = some (r1, r2, r3) := by rw [if_neg (show ¬ (false = true) by decide)] at H; exact H
   clear H
   have H := H1
   clear H1
   obtain ⟨aj, A9, H⟩ := bs H
   (try dsimp -simprocs only at H)
   have H' := am H
   clear H
   go_wp2_with (first | ((with_reducible refine gate_callee (f := 150) rfl ?_); refine goesL_ (some 13) rfl rfl Try.func150 (by kernel_rfl) rfl #[.slice A1 l1.length c1] rfl lu ?_; (with_reducible refine (codewrightref01_Zero.calls k _ _ l1 false _ ?side1 ?side2 A6.out).mono ?_); (case side1 => exact cu (Kd.V_reads' ap.out).2.2); (case side2 => exact (Kd.V_reads' ap.out).2.1); rintro e bA ⟨rfl, hb⟩; refine ⟨_, rfl, ?_⟩; replace ap := kv ap hb; replace aw := kv aw hb; replace aa := kb aa hb; replace HB := be1 HB ab hb; (try clear hb)) | (go_at_call 150; (with_reducible refine (codewrightref01_Zero.calls k _ _ l2 aj _ ?side1 ?side2 A9.out).mono ?_); (case side1 => exact cu (Kd.V_reads' aw.out).2.2); (case side2 => exact (Kd.V_reads' aw.out).2.1); rintro e bB ⟨rfl, hb⟩; replace ap := kv ap hb; replace aw := kv aw hb; replace aa := kb aa hb; replace HB := be1 HB ab hb; (try clear hb)))
   go_meet
   case rel => exact ⟨_, (aj), (by first | rfl | (simp; done) | (simp [*]; done)), H', ⟨by first | omega | exact Nat.le_refl _⟩, ⟨by (with_reducible repeat (first | apply Kd.V_alloc | apply Kd.V_drewN | apply Kd.V_drew)); exact ap.out⟩, ⟨by (with_reducible repeat (first | apply Kd.V_alloc | apply Kd.V_drewN | apply Kd.V_drew)); exact aw.out⟩, ⟨by (with_reducible repeat (first | refine blk_drewN ?_ _ | refine blk_drew ?_ | refine blk_alloc ?_ _)); exact aa.out⟩, ⟨by repeat (first | (with_reducible first | exact HB.out | apply below_alloc | apply pw_below_drewN | apply below_drew1 | refine below_set ?_ ab.out) | exact HB.out)⟩⟩
 case rest =>
  clear a5
  try clear c1
  try clear c2
  try clear p2
  try clear c7
  try clear c8
  obtain ⟨kq, aq, rfl, HA, HJ3, ae, af, aa, HB⟩ := hcut
  cases kq with
  | zero => exact absurd HA.out (by simp [codewrightref02_Make.j0])
  | succ kj3 =>
   have H := HA.out
   clear HA
   simp only [codewrightref02_Make.j0] at H
   by_cases aR : aq = true
   ·
    subst aR
    have H1 : (some (false, (([] : List Int)), (([1] : List Int)))) = some (r1, r2, r3) := by rw [if_pos rfl] at H; exact H
    clear H
    have H := H1
    clear H1
    obtain ⟨au, ah⟩ : ∃ y_ : List Int, y_ = (([] : List Int)) := ⟨_, rfl⟩
    replace H : (some (false, au, (([1] : List Int)))) = some (r1, r2, r3) := by first | (rw [ah]; with_reducible exact H) | (have H2_ := (Option.bind_some _ _).symm.trans H; rw [ah]; with_reducible exact H2_) | (have H2_ := (Option.bind_some _ _).symm.trans H; with_reducible exact H2_) | with_reducible exact H | (rw [ah]; exact H) | exact H
    have ay := am ah
    clear ah
    obtain ⟨az, an⟩ : ∃ y_ : List Int, y_ = (([1] : List Int)) := ⟨_, rfl⟩
    rw [← an] at H
    have aA := am an
    clear an
    simp only [Option.some.injEq, Prod.mk.injEq] at H
    obtain ⟨rfl, rfl, rfl⟩ := H
    go_wp2_with (first | ((with_reducible refine gate_dst (N := 18) rfl ?_); refine Kd.R_lit (Kd.int .u32) _ 48 ?hg (N := 18) ?hd (xs := ([] : List Int)) (inner := []) (ok := fun _ => True) (okp := fun _ => True) ?hr ?hp (fun _ hk => hk) trivial (Below.refl _ _) (Nat.le_refl _) (by simp) ?_; (case hd => rfl); (case hg => rfl); (case hr => first | (go_simp; done) | (go_simp; rfl)); (case hp => exact (Reps.none _ _)); intro bj bC ao hb hg_ hnew_; clear hg_ hnew_; (first | rw [← ay.out] at ao | (simp only [Int.reduceToNat] at ao; rw [← ay.out] at ao)); replace ae := am (Kd.V_elder' (vu ae.out) (Kd.R_base ao) hb); replace af := am (Kd.V_elder' (vu af.out) (Kd.R_base ao) hb); have ai := am (Kd.R_lower (Kd.R_newM (M := fun k_ => (w.heap.size ≤ k_)) ao (below_size (bu1 HB.out ab.out)) (fun k_ h_ => h_)) (below_size (bu1 HB.out ab.out))); replace aa := kb aa hb; replace HB := be1 HB ab hb; clear hb ao) | ((with_reducible refine gate_dst (N := 19) rfl ?_); refine Kd.R_lit (Kd.int .u32) _ 48 ?hg (N := 19) ?hd (xs := ([1] : List Int)) (inner := [.int .u32 1]) (ok := fun _ => True) (okp := fun _ => True) ?hr ?hp (fun _ hk => hk) trivial (Below.refl _ _) (Nat.le_refl _) (by simp) ?_; (case hd => rfl); (case hg => rfl); (case hr => first | (go_simp; done) | (go_simp; rfl)); (case hp => exact (Reps.one (show Kd.M (Kd.int .u32) _ _ _ 1 [.int .u32 1] from rfl) (Reps.none _ _))); intro bk bD al hb hg_ hnew_; clear hg_ hnew_; (first | rw [← aA.out] at al | (simp only [Int.reduceToNat] at al; rw [← aA.out] at al)); replace ae := am (Kd.V_elder' (vu ae.out) (Kd.R_base al) hb); replace af := am (Kd.V_elder' (vu af.out) (Kd.R_base al) hb); have aB := am (Kd.R_lower (Kd.R_new' (Kd.R_newM (M := fun k_ => (w.heap.size ≤ k_)) al (below_size (bu1 HB.out ab.out)) (fun k_ h_ => h_)) (Kd.R_lt (by (with_reducible repeat (first | apply Kd.R_alloc | apply Kd.R_drewN | apply Kd.R_drew)); exact ai.out))) (below_size (bu1 HB.out ab.out))); replace ai := am (Kd.R_elder' (by (with_reducible repeat (first | apply Kd.R_alloc | apply Kd.R_drewN | apply Kd.R_drew)); exact ai.out) (Kd.R_base al) hb); replace aa := kb aa hb; replace HB := be1 HB ab hb; clear hb al; obtain ⟨aH, aI, a7⟩ := Kd.R_slice aB.out; subst a7; obtain ⟨aJ, aK, a8⟩ := Kd.R_slice ai.out; subst a8; obtain ⟨aS, aT, aU, aV, aW, aX⟩ := bz aa))
    refine bodyPost_ret (results_cell_row rfl _ _ ac 67 #[.bool false, .slice aJ au.length aK, .slice aH az.length aI] (0, 0) _ rfl (kp aa.out) Try.underlying67 rfl (by kernel_rfl)) rfl ?_
    exact ⟨_, _, by first | rfl | (simp [errW_none, errW_some] <;> rfl) | (simp [*, errW_none, errW_some] <;> rfl), Kd.V_mono (Kd.R_V (by (with_reducible repeat (first | apply Kd.R_alloc | apply Kd.R_drewN | apply Kd.R_drew)); exact Kd.R_mono (Kd.R_far (p := ⟨ac, 2, none⟩) (Kd.R_far (p := ⟨ac, 1, none⟩) (Kd.R_far (p := ⟨ac, 0, none⟩) (Kd.R_types ai.out aa.out (by decide)) (fun _ hk => hk.2) (.bool false)) (fun _ hk => hk.2) (.slice aJ au.length aK)) (fun _ hk => hk.2) (.slice aH az.length aI)) (fun _ hk => hk.1.1.1))) (fun k_ hk => by first | exact ⟨(.inr (hk.1)), hk.2⟩ | exact (.inr (hk))), Kd.V_mono (Kd.R_V (by (with_reducible repeat (first | apply Kd.R_alloc | apply Kd.R_drewN | apply Kd.R_drew)); exact Kd.R_mono (Kd.R_far (p := ⟨ac, 2, none⟩) (Kd.R_far (p := ⟨ac, 1, none⟩) (Kd.R_far (p := ⟨ac, 0, none⟩) (Kd.R_types aB.out aa.out (by decide)) (fun _ hk => hk.2) (.bool false)) (fun _ hk => hk.2) (.slice aJ au.length aK)) (fun _ hk => hk.2) (.slice aH az.length aI)) (fun _ hk => hk.1.1.1))) (fun k_ hk => by first | exact ⟨(.inr (hk.1)), hk.2⟩ | exact (.inr (hk))), by repeat (first | (with_reducible first | exact HB.out | apply below_alloc | apply pw_below_drewN | apply below_drew1 | refine below_set ?_ ab.out) | exact HB.out)⟩
   ·
    replace aR := Bool.eq_false_iff.mpr aR
    subst aR
    have H1 : ((codewrightref01_Gcd.f kj3 l1 l2).bind fun ag => ((codewrightref01_DivMod.f kj3 l1 ag).bind fun aL => ((codewrightref01_DivMod.f kj3 l2 ag).bind fun aM => (some (a0, aL.1, aM.1))))) = some (r1, r2, r3) := by rw [if_neg (show ¬ (false = true) by decide)] at H; exact H
    clear H
    have H := H1
    clear H1
    obtain ⟨ag, bv, H⟩ := bs H
    (try dsimp -simprocs only at H)
    obtain ⟨⟨aF, aN⟩, bw, H⟩ := bs H
    (try dsimp -simprocs only at H)
    obtain ⟨⟨aG, aO⟩, bx, H⟩ := bs H
    (try dsimp -simprocs only at H)
    simp only [Option.some.injEq, Prod.mk.injEq] at H
    obtain ⟨rfl, rfl, rfl⟩ := H
    go_wp2_with (first | ((with_reducible refine gate_callee (f := 156) rfl ?_); refine goesL_ (some 23) rfl rfl Try.func156 (by kernel_rfl) rfl #[.slice A1 l1.length c1, .slice A2 l2.length c2] rfl lu ?_; (with_reducible refine (codewrightref01_Gcd.calls kj3 (fun k_ => (((P1_ k_ ∨ P2_ k_) ∨ w.heap.size ≤ k_) ∧ k_ ≠ ac)) _ _ l1 (fun k_ => (((P1_ k_ ∨ P2_ k_) ∨ w.heap.size ≤ k_) ∧ k_ ≠ ac)) _ _ l2 ag _ ?side1 ?side2 bv.out).mono ?_); (case side1 => exact vz ae.out); (case side2 => exact vz af.out); rintro e bE ⟨bl, rfl, av, hb⟩; refine ⟨_, rfl, ?_⟩; replace av := R_V_base rfl av; replace ae := kv ae hb; replace af := kv af hb; have ad := ar0 w.heap.size (ok' := fun k_ => ((P1_ k_ ∨ P2_ k_) ∨ w.heap.size ≤ k_) ∧ k_ ≠ ac) av (fa (fz1 HB ab) (fb aa)); replace aa := kb aa hb; replace HB := be1 HB ab hb; (try clear hb); (try clear av); obtain ⟨aP, aQ, a9⟩ := Kd.V_slice ad.out; subst a9) | ((with_reducible refine gate_callee (f := 157) rfl ?_); refine goesL_ (some 27) rfl rfl Try.func157 (by kernel_rfl) rfl #[.slice A1 l1.length c1, .slice aP ag.length aQ] rfl lu ?_; (with_reducible refine (codewrightref01_DivMod.calls kj3 _ _ l1 _ _ ag aF aN _ ?side1 ?side2 ?side3 ?side4 bw.out).mono ?_); (case side1 => exact cu (Kd.V_reads' ae.out).2.2); (case side2 => exact (Kd.V_reads' ae.out).2.1); (case side3 => exact cu (Kd.V_reads' ad.out).2.2); (case side4 => exact (Kd.V_reads' ad.out).2.1); rintro e bF ⟨bm, bn, rfl, av, aE, hb⟩; refine ⟨_, rfl, ?_⟩; replace av := R_V_base rfl av; replace aE := R_V_base rfl aE; replace ae := kv ae hb; replace af := kv af hb; replace ad := kv ad hb; have ak := ar0 w.heap.size (ok' := fun k_ => ((P1_ k_ ∨ P2_ k_) ∨ w.heap.size ≤ k_) ∧ k_ ≠ ac) av (fa (fz1 HB ab) (fb aa)); have aC := ar0 w.heap.size (ok' := fun k_ => ((P1_ k_ ∨ P2_ k_) ∨ w.heap.size ≤ k_) ∧ k_ ≠ ac) aE (fa (fz1 HB ab) (fb aa)); replace aa := kb aa hb; replace HB := be1 HB ab hb; (try clear hb); (try clear av); (try clear aE)) | ((with_reducible refine gate_callee (f := 157) rfl ?_); refine goesL_ (some 33) rfl rfl Try.func157 (by kernel_rfl) rfl #[.slice A2 l2.length c2, .slice aP ag.length aQ] rfl lu ?_; (with_reducible refine (codewrightref01_DivMod.calls kj3 _ _ l2 _ _ ag aG aO _ ?side1 ?side2 ?side3 ?side4 bx.out).mono ?_); (case side1 => exact cu (Kd.V_reads' af.out).2.2); (case side2 => exact (Kd.V_reads' af.out).2.1); (case side3 => exact cu (Kd.V_reads' ad.out).2.2); (case side4 => exact (Kd.V_reads' ad.out).2.1); rintro e bG ⟨bo, bp, rfl, av, aE, hb⟩; refine ⟨_, rfl, ?_⟩; replace av := R_V_base rfl av; replace aE := R_V_base rfl aE; replace ae := kv ae hb; replace af := kv af hb; replace ad := kv ad hb; replace ak := kv ak hb; replace aC := kv aC hb; have aD := ar0 w.heap.size (ok' := fun k_ => ((P1_ k_ ∨ P2_ k_) ∨ w.heap.size ≤ k_) ∧ k_ ≠ ac) av (fa (fz1 HB ab) (fb aa)); have ba := ar0 w.heap.size (ok' := fun k_ => ((P1_ k_ ∨ P2_ k_) ∨ w.heap.size ≤ k_) ∧ k_ ≠ ac) aE (fa (fz1 HB ab) (fb aa)); replace aa := kb aa hb; replace HB := be1 HB ab hb; (try clear hb); (try clear av); (try clear aE); obtain ⟨bb, bd, bf⟩ := Kd.V_slice aD.out; subst bf; obtain ⟨bg, bh, bi⟩ := Kd.V_slice ak.out; subst bi; obtain ⟨aY, aZ, a1, a2, a3, a4⟩ := bz aa))
    refine bodyPost_ret (results_cell_row rfl _ _ ac 67 #[.bool a0, .slice bg aF.length bh, .slice bb aG.length bd] (0, 0) _ rfl (kp aa.out) Try.underlying67 rfl (by kernel_rfl)) rfl ?_
    exact ⟨_, _, by first | rfl | (simp [errW_none, errW_some] <;> rfl) | (simp [*, errW_none, errW_some] <;> rfl), by exact vf ak.out, by exact vf aD.out, by repeat (first | (with_reducible first | exact HB.out | apply below_alloc | apply pw_below_drewN | apply below_drew1 | refine below_set ?_ ab.out) | exact HB.out)⟩
def codewrightref01_Of.f (k : Nat) (a0 : Int) : Option (List Int) := (codewrightref01_Trim.f k (([(Int.tmod a0 4294967296) % 4294967296, (IntKind.u64.wrap (Int.tdiv a0 4294967296)) % 4294967296] : List Int))).bind fun t1205 => (some t1205)
theorem codewrightref01_Of.calls (k : Nat) (a0 : Int) (r : List Int) (w : World) (h : codewrightref01_Of.f k a0 = some r) :
 Calls Try.prog 169 #[.int .u64 a0] w fun e w' => ∃ v0_ : Value, e = .returned (v0_) ∧ Kd.R (Kd.int .u32) 48 w' w.heap.size (fun _ => True) v0_ r ∧ Below w.heap.size w w' := by
 have HB := am (Below.refl w.heap.size w)
 have H : ((codewrightref01_Trim.f k (([(Int.tmod a0 4294967296) % 4294967296, (IntKind.u64.wrap (Int.tdiv a0 4294967296)) % 4294967296] : List Int))).bind fun ac => (some ac)) = some r := h
 clear h
 obtain ⟨ae, ab⟩ : ∃ y_ : List Int, y_ = (([(Int.tmod a0 4294967296) % 4294967296, (IntKind.u64.wrap (Int.tdiv a0 4294967296)) % 4294967296] : List Int)) := ⟨_, rfl⟩
 rw [← ab] at H
 have ad := am ab
 clear ab
 obtain ⟨ac, A2, H⟩ := bs H
 replace H : (some ac) = some r := H
 obtain rfl := Option.some.inj H
 go_enter Try.func169, Try.ntmps169
 go_wp2_with (first | ((with_reducible refine gate_dst (N := 9) rfl ?_); refine Kd.R_lit (Kd.int .u32) _ 48 ?hg (N := 9) ?hd (xs := ([(Int.tmod a0 4294967296) % 4294967296, (IntKind.u64.wrap (Int.tdiv a0 4294967296)) % 4294967296] : List Int)) (inner := [.int .u32 ((Int.tmod a0 4294967296) % 4294967296), .int .u32 ((IntKind.u64.wrap (Int.tdiv a0 4294967296)) % 4294967296)]) (ok := fun _ => True) (okp := fun _ => True) ?hr ?hp (fun _ hk => hk) trivial (Below.refl _ _) (Nat.le_refl _) (by simp) ?_; (case hd => rfl); (case hg => rfl); (case hr => first | (go_simp; done) | (go_simp; rfl)); (case hp => exact (Reps.one (show Kd.M (Kd.int .u32) _ _ _ ((Int.tmod a0 4294967296) % 4294967296) [.int .u32 ((Int.tmod a0 4294967296) % 4294967296)] from rfl) (Reps.one (show Kd.M (Kd.int .u32) _ _ _ ((IntKind.u64.wrap (Int.tdiv a0 4294967296)) % 4294967296) [.int .u32 ((IntKind.u64.wrap (Int.tdiv a0 4294967296)) % 4294967296)] from rfl) (Reps.none _ _)))); intro ai w3 ag hb hg_ hnew_; clear hg_ hnew_; (first | rw [← ad.out] at ag | (simp only [Int.reduceToNat] at ag; rw [← ad.out] at ag)); have aa := am (Kd.R_lower ag (below_size (bu HB.out))); replace HB := be HB hb; clear hb ag; obtain ⟨ak, al, an⟩ := Kd.R_slice aa.out; subst an) | ((with_reducible refine gate_callee (f := 144) rfl ?_); refine goesL_ (some 10) rfl rfl Try.func144 (by kernel_rfl) rfl #[.slice ak ae.length al] rfl lu ?_; (with_reducible refine (codewrightref01_Trim.calls k _ _ ae ac _ ?side1 ?side2 A2.out).mono ?_); (case side1 => exact cu (Kd.R_reads' aa.out).2.2); (case side2 => exact (Kd.R_reads' aa.out).2.1); rintro e w6 ⟨aj, rfl, ah, hb⟩; refine ⟨_, rfl, ?_⟩; have af := am (Kd.R_lower (Kd.R_new' ah (Kd.R_lt (by (with_reducible repeat (first | apply Kd.R_alloc | apply Kd.R_drewN | apply Kd.R_drew)); exact aa.out))) (below_size (bu HB.out))); replace aa := am (Kd.R_elder' (by (with_reducible repeat (first | apply Kd.R_alloc | apply Kd.R_drewN | apply Kd.R_drew)); exact aa.out) (Kd.R_base ah) hb); replace HB := be HB hb; (try clear hb); (try clear hk); (try clear ah)))
 go_ret
 exact ⟨_, by first | rfl | (simp [errW_none, errW_some] <;> rfl) | (simp [*, errW_none, errW_some] <;> rfl), by (with_reducible repeat (first | apply Kd.R_alloc | apply Kd.R_drewN | apply Kd.R_drew)); exact Kd.R_mono af.out (fun _ hk => trivial), by repeat (first | (with_reducible first | exact HB.out | apply below_alloc | apply pw_below_drewN | apply below_drew1) | exact HB.out)⟩
def codewrightref02_abs.f (k : Nat) (a0 : Int) : Option (List Int) := if a0 < 0 then ((codewrightref01_Of.f k (IntKind.u64.wrap (wrap64 (-(wrap64 (a0 + 1)))))).bind fun t1208 => ((codewrightref01_Add.f k t1208 (([1] : List Int))).bind fun t1214 => (some t1214))) else ((codewrightref01_Of.f k (IntKind.u64.wrap (a0))).bind fun t1217 => (some t1217))
theorem codewrightref02_abs.calls (k : Nat) (a0 : Int) (r : List Int) (w : World) (h : codewrightref02_abs.f k a0 = some r) :
 Calls Try.prog 159 #[.int .i64 a0] w fun e w' => ∃ v0_ : Value, e = .returned (v0_) ∧ Kd.V (Kd.int .u32) 48 w' w.heap.size (fun k_ => (w.heap.size ≤ k_)) v0_ r ∧ Below w.heap.size w w' := by
 have HB := am (Below.refl w.heap.size w)
 have H : (if a0 < 0 then ((codewrightref01_Of.f k (IntKind.u64.wrap (wrap64 (-(wrap64 (a0 + 1)))))).bind fun ac => ((codewrightref01_Add.f k ac (([1] : List Int))).bind fun ae => (some ae))) else ((codewrightref01_Of.f k (IntKind.u64.wrap (a0))).bind fun af => (some af))) = some r := h
 clear h
 by_cases c2 : a0 < 0
 ·
  rw [if_pos c2] at H
  have an : decide (a0 < 0) = true := decide_eq_true c2
  clear c2
  obtain ⟨ac, A3, H⟩ := bs H
  (try dsimp -simprocs only at H)
  obtain ⟨ah, ad⟩ : ∃ y_ : List Int, y_ = (([1] : List Int)) := ⟨_, rfl⟩
  rw [← ad] at H
  have ai := am ad
  clear ad
  obtain ⟨ae, A4, H⟩ := bs H
  replace H : (some ae) = some r := H
  obtain rfl := Option.some.inj H
  go_enter Try.func159, Try.ntmps159
  go_wp2_with (first | ((with_reducible refine gate_callee (f := 169) rfl ?_); refine goesL_ (some 9) rfl rfl Try.func169 (by kernel_rfl) rfl #[.int .u64 (IntKind.u64.wrap (wrap64 (-(wrap64 (a0 + 1)))))] rfl lu ?_; (with_reducible refine (codewrightref01_Of.calls k (IntKind.u64.wrap (wrap64 (-(wrap64 (a0 + 1))))) ac _ A3.out).mono ?_); rintro e w5 ⟨ao, rfl, ag, hb⟩; refine ⟨_, rfl, ?_⟩; replace ag := R_V_base rfl ag; have aa := ar0 w.heap.size (ok' := fun k_ => (w.heap.size ≤ k_)) ag (fz HB); replace HB := be HB hb; (try clear hb); (try clear hk); (try clear ag)) | ((with_reducible refine gate_dst (N := 10) rfl ?_); refine Kd.R_lit (Kd.int .u32) _ 48 ?hg (N := 10) ?hd (xs := ([1] : List Int)) (inner := [.int .u32 1]) (ok := fun _ => True) (okp := fun _ => True) ?hr ?hp (fun _ hk => hk) trivial (Below.refl _ _) (Nat.le_refl _) (by simp) ?_; (case hd => rfl); (case hg => rfl); (case hr => first | (go_simp; done) | (go_simp; rfl)); (case hp => exact (Reps.one (show Kd.M (Kd.int .u32) _ _ _ 1 [.int .u32 1] from rfl) (Reps.none _ _))); intro ap w6 al hb hg_ hnew_; clear hg_ hnew_; (first | rw [← ai.out] at al | (simp only [Int.reduceToNat] at al; rw [← ai.out] at al)); replace aa := am (Kd.V_elder' (vu aa.out) (Kd.R_base al) hb); have ab := am (Kd.R_lower (Kd.R_newM (M := fun k_ => (w.heap.size ≤ k_)) al (below_size (bu HB.out)) (fun k_ h_ => h_)) (below_size (bu HB.out))); replace HB := be HB hb; clear hb al; obtain ⟨ax, ay, az⟩ := Kd.V_slice aa.out; subst az; obtain ⟨aq, au, aA⟩ := Kd.R_slice ab.out; subst aA) | ((with_reducible refine gate_callee (f := 55) rfl ?_); refine goesL_ (some 11) rfl rfl Try.func55 (by kernel_rfl) rfl #[.slice ax ac.length ay, .slice aq ah.length au] rfl lu ?_; (with_reducible refine (codewrightref01_Add.calls k _ _ ac _ _ ah ae _ ?side1 ?side2 ?side3 ?side4 A4.out).mono ?_); (case side1 => exact cu (Kd.V_reads' aa.out).2.2); (case side2 => exact (Kd.V_reads' aa.out).2.1); (case side3 => exact cu (Kd.R_reads' ab.out).2.2); (case side4 => exact (Kd.R_reads' ab.out).2.1); rintro e aC ⟨av, rfl, ag, hb⟩; refine ⟨_, rfl, ?_⟩; replace ag := R_V_base rfl ag; replace aa := kv aa hb; have aj := am (Kd.V_lower (Kd.V_mono (ok' := fun k_ => (w.heap.size ≤ k_) ∧ some k_ ≠ (.slice aq ah.length au : Value).ownBlock) ag (fun k_ hk_ => ⟨(Nat.le_trans (below_size (bu HB.out)) hk_), (Kd.fresh' (Kd.R_lt (by (with_reducible repeat (first | apply Kd.R_alloc | apply Kd.R_drewN | apply Kd.R_drew)); exact ab.out)) k_ hk_)⟩)) (below_size (bu HB.out))); replace ab := am (Kd.R_below (by (with_reducible repeat (first | apply Kd.R_alloc | apply Kd.R_drewN | apply Kd.R_drew)); exact ab.out) hb); replace HB := be HB hb; (try clear hb); (try clear hk); (try clear ag)))
  go_ret
  exact ⟨_, by first | rfl | (simp [errW_none, errW_some] <;> rfl) | (simp [*, errW_none, errW_some] <;> rfl), by exact vz aj.out, by repeat (first | (with_reducible first | exact HB.out | apply below_alloc | apply pw_below_drewN | apply below_drew1) | exact HB.out)⟩
 ·
  rw [if_neg c2] at H
  have an : decide (a0 < 0) = false := decide_eq_false c2
  clear c2
  obtain ⟨af, aB, H⟩ := bs H
  replace H : (some af) = some r := H
  obtain rfl := Option.some.inj H
  go_enter Try.func159, Try.ntmps159
  go_wp2_with (first | ((with_reducible refine gate_callee (f := 169) rfl ?_); refine goesL_ (some 14) rfl rfl Try.func169 (by kernel_rfl) rfl #[.int .u64 (IntKind.u64.wrap (a0))] rfl lu ?_; (with_reducible refine (codewrightref01_Of.calls k (IntKind.u64.wrap (a0)) af _ aB.out).mono ?_); rintro e aD ⟨aw, rfl, ag, hb⟩; refine ⟨_, rfl, ?_⟩; replace ag := R_V_base rfl ag; have ak := ar0 w.heap.size (ok' := fun k_ => (w.heap.size ≤ k_)) ag (fz HB); replace HB := be HB hb; (try clear hb); (try clear ag)))
  go_ret
  exact ⟨_, by first | rfl | (simp [errW_none, errW_some] <;> rfl) | (simp [*, errW_none, errW_some] <;> rfl), by (with_reducible repeat (first | apply Kd.V_alloc | apply Kd.V_drewN | apply Kd.V_drew)); exact ak.out, by repeat (first | (with_reducible first | exact HB.out | apply below_alloc | apply pw_below_drewN | apply below_drew1) | exact HB.out)⟩
def codewrightref02_Of.f (k : Nat) (a0 : Int) (a1 : Int) : Option (Bool × List Int × List Int) := (codewrightref02_abs.f k a0).bind fun t1221 => ((codewrightref02_abs.f k a1).bind fun t1224 => ((codewrightref02_Make.f k ((decide (a0 < 0)) != (decide (a1 < 0))) t1221 t1224).bind fun bt1227 => (some (bt1227.1, bt1227.2.1, bt1227.2.2))))
theorem codewrightref02_Of.calls (k : Nat) (a0 : Int) (a1 : Int) (r1 : Bool) (r2 : List Int) (r3 : List Int) (w : World) (h : codewrightref02_Of.f k a0 a1 = some (r1, r2, r3)) :
 Calls Try.prog 85 #[.int .i64 a0, .int .i64 a1] w fun e w' => ∃ v1_ v2_ : Value, e = .returned (.agg #[.bool r1, v1_, v2_]) ∧ Kd.V (Kd.int .u32) 48 w' w.heap.size (fun k_ => (w.heap.size ≤ k_)) v1_ r2 ∧ Kd.V (Kd.int .u32) 48 w' w.heap.size (fun k_ => (w.heap.size ≤ k_)) v2_ r3 ∧ Below w.heap.size w w' := by
 have aN := Try.underlying67
 have HB := am (Below.refl w.heap.size w)
 have H : ((codewrightref02_abs.f k a0).bind fun af => ((codewrightref02_abs.f k a1).bind fun ag => ((codewrightref02_Make.f k ((decide (a0 < 0)) != (decide (a1 < 0))) af ag).bind fun ah => (some (ah.1, ah.2.1, ah.2.2))))) = some (r1, r2, r3) := h
 clear h
 obtain ⟨af, A3, H⟩ := bs H
 (try dsimp -simprocs only at H)
 obtain ⟨ag, A4, H⟩ := bs H
 (try dsimp -simprocs only at H)
 obtain ⟨⟨ak, al, an⟩, A5, H⟩ := bs H
 (try dsimp -simprocs only at H)
 simp only [Option.some.injEq, Prod.mk.injEq] at H
 obtain ⟨rfl, rfl, rfl⟩ := H
 go_enter Try.func85, Try.ntmps85
 go_wp2_with (first | ((with_reducible refine gate_dst (N := 4) rfl ?_); refine box_event ?hg (N := 4) ?hd (cs := #[.bool false, .slice none 0 0, .slice none 0 0]) (t := 67) ?hr ?_; (case hd => rfl); (case hg => rfl); (case hr => first | (go_simp; done) | (go_simp; rfl)); intro ac hg w6 hbox hb; have aa := am (hbox); have ay := ng hg (bu HB.out); have ab := ng hg (bu HB.out); replace HB := be HB hb; clear hb hbox hg) | ((with_reducible refine gate_callee (f := 159) rfl ?_); refine goesL_ (some 11) rfl rfl Try.func159 (by kernel_rfl) rfl #[.int .i64 a0] rfl lu ?_; (with_reducible refine (codewrightref02_abs.calls k a0 af _ A3.out).mono ?_); rintro e w7 ⟨aI, rfl, ao, hb⟩; refine ⟨_, rfl, ?_⟩; have ad := ar0 w.heap.size (ok' := fun k_ => (w.heap.size ≤ k_) ∧ k_ ≠ ac) ao (fa (fz1 HB ab) (fb aa)); replace aa := kb aa hb; replace HB := be1 HB ab hb; (try clear hb); (try clear ao)) | ((with_reducible refine gate_callee (f := 159) rfl ?_); refine goesL_ (some 13) rfl rfl Try.func159 (by kernel_rfl) rfl #[.int .i64 a1] rfl lu ?_; (with_reducible refine (codewrightref02_abs.calls k a1 ag _ A4.out).mono ?_); rintro e w8 ⟨aJ, rfl, ao, hb⟩; refine ⟨_, rfl, ?_⟩; replace ad := kv ad hb; have ae := ar0 w.heap.size (ok' := fun k_ => (w.heap.size ≤ k_) ∧ k_ ≠ ac) ao (fa (fz1 HB ab) (fb aa)); replace aa := kb aa hb; replace HB := be1 HB ab hb; (try clear hb); (try clear ao); obtain ⟨aO, aP, aQ⟩ := Kd.V_slice ad.out; subst aQ; obtain ⟨az, aA, aB⟩ := Kd.V_slice ae.out; subst aB) | ((with_reducible refine gate_callee (f := 80) rfl ?_); refine goesL_ (some 14) rfl rfl Try.func80 (by kernel_rfl) rfl #[.bool ((decide (a0 < 0)) != (decide (a1 < 0))), .slice aO af.length aP, .slice az ag.length aA] rfl lu ?_; (with_reducible refine (codewrightref02_Make.calls k ((decide (a0 < 0)) != (decide (a1 < 0))) (fun k_ => ((w.heap.size ≤ k_) ∧ k_ ≠ ac)) _ _ af (fun k_ => ((w.heap.size ≤ k_) ∧ k_ ≠ ac)) _ _ ag ak al an _ ?side1 ?side2 A5.out).mono ?_); (case side1 => exact vz ad.out); (case side2 => exact vz ae.out); rintro e aR ⟨aK, aL, rfl, ao, aM, hb⟩; refine ⟨_, rfl, ?_⟩; replace ad := kv ad hb; replace ae := kv ae hb; have ai := ar w.heap.size (ok' := fun k_ => (w.heap.size ≤ k_) ∧ k_ ≠ ac) ao (fa (fz1 HB ab) (fb aa)); have aj := ar w.heap.size (ok' := fun k_ => (w.heap.size ≤ k_) ∧ k_ ≠ ac) aM (fa (fz1 HB ab) (fb aa)); replace aa := kb aa hb; replace HB := be1 HB ab hb; (try clear hb); (try clear ao); (try clear aM); obtain ⟨ap, aq, au, av, aw, ax⟩ := bz aa; obtain ⟨aC, aD, aE⟩ := Kd.V_slice ai.out; subst aE; obtain ⟨aF, aG, aH⟩ := Kd.V_slice aj.out; subst aH))
 refine bodyPost_ret (results_cell_row rfl _ _ ac 67 #[.bool ak, .slice aC al.length aD, .slice aF an.length aG] (0, 0) _ rfl (kp aa.out) Try.underlying67 rfl (by kernel_rfl)) rfl ?_
 exact ⟨_, _, by first | rfl | (simp [errW_none, errW_some] <;> rfl) | (simp [*, errW_none, errW_some] <;> rfl), by exact vf ai.out, by exact vf aj.out, by repeat (first | (with_reducible first | exact HB.out | apply below_alloc | apply pw_below_drewN | apply below_drew1 | refine below_set ?_ ab.out) | exact HB.out)⟩
def codewrightref02_Int.f (k : Nat) (a0 : Int) : Option (Bool × List Int × List Int) := (codewrightref02_Of.f k a0 1).bind fun bt1706 => (some (bt1706.1, bt1706.2.1, bt1706.2.2))
theorem codewrightref02_Int.calls (k : Nat) (a0 : Int) (r1 : Bool) (r2 : List Int) (r3 : List Int) (w : World) (h : codewrightref02_Int.f k a0 = some (r1, r2, r3)) :
 Calls Try.prog 99 #[.int .i64 a0] w fun e w' => ∃ v1_ v2_ : Value, e = .returned (.agg #[.bool r1, v1_, v2_]) ∧ Kd.V (Kd.int .u32) 48 w' w.heap.size (fun k_ => (w.heap.size ≤ k_)) v1_ r2 ∧ Kd.V (Kd.int .u32) 48 w' w.heap.size (fun k_ => (w.heap.size ≤ k_)) v2_ r3 ∧ Below w.heap.size w w' := by
 have ay := Try.underlying67
 have HB := am (Below.refl w.heap.size w)
 have H : ((codewrightref02_Of.f k a0 1).bind fun ac => (some (ac.1, ac.2.1, ac.2.2))) = some (r1, r2, r3) := h
 clear h
 obtain ⟨⟨ag, ah, ai⟩, A2, H⟩ := bs H
 (try dsimp -simprocs only at H)
 simp only [Option.some.injEq, Prod.mk.injEq] at H
 obtain ⟨rfl, rfl, rfl⟩ := H
 go_enter Try.func99, Try.ntmps99
 go_wp2_with (first | ((with_reducible refine gate_dst (N := 2) rfl ?_); refine box_event ?hg (N := 2) ?hd (cs := #[.bool false, .slice none 0 0, .slice none 0 0]) (t := 67) ?hr ?_; (case hd => rfl); (case hg => rfl); (case hr => first | (go_simp; done) | (go_simp; rfl)); intro ad hg w3 hbox hb; have aa := am (hbox); have aj := ng hg (bu HB.out); have ab := ng hg (bu HB.out); replace HB := be HB hb; clear hb hbox hg) | ((with_reducible refine gate_callee (f := 85) rfl ?_); refine goesL_ (some 4) rfl rfl Try.func85 (by kernel_rfl) rfl #[.int .i64 a0, .int .i64 1] rfl lu ?_; (with_reducible refine (codewrightref02_Of.calls k a0 1 ag ah ai _ A2.out).mono ?_); rintro e w4 ⟨au, av, rfl, aw, ax, hb⟩; refine ⟨_, rfl, ?_⟩; have ae := ar0 w.heap.size (ok' := fun k_ => (w.heap.size ≤ k_) ∧ k_ ≠ ad) aw (fa (fz1 HB ab) (fb aa)); have af := ar0 w.heap.size (ok' := fun k_ => (w.heap.size ≤ k_) ∧ k_ ≠ ad) ax (fa (fz1 HB ab) (fb aa)); replace aa := kb aa hb; replace HB := be1 HB ab hb; (try clear hb); (try clear aw); (try clear ax); obtain ⟨ak, al, an, ao, ap, aq⟩ := bz aa; obtain ⟨az, aA, aB⟩ := Kd.V_slice ae.out; subst aB; obtain ⟨aC, aD, aE⟩ := Kd.V_slice af.out; subst aE))
 refine bodyPost_ret (results_cell_row rfl _ _ ad 67 #[.bool ag, .slice az ah.length aA, .slice aC ai.length aD] (0, 0) _ rfl (kp aa.out) Try.underlying67 rfl (by kernel_rfl)) rfl ?_
 exact ⟨_, _, by first | rfl | (simp [errW_none, errW_some] <;> rfl) | (simp [*, errW_none, errW_some] <;> rfl), by exact vf ae.out, by exact vf af.out, by repeat (first | (with_reducible first | exact HB.out | apply below_alloc | apply pw_below_drewN | apply below_drew1 | refine below_set ?_ ab.out) | exact HB.out)⟩
def codewrightref02_Trim.f (k : Nat) (a0_0 : Bool) (l0_1 : List Int) (l0_2 : List Int) : Option (Bool × List Int × List Int) := (codewrightref02_Make.f k a0_0 l0_1 l0_2).bind fun bt1129 => (some (bt1129.1, bt1129.2.1, bt1129.2.2))
theorem codewrightref02_Trim.calls (k : Nat) (a0_0 : Bool) (P0_1_ : Nat → Prop) (A0_1 : Option Addr) (c0_1 : Nat) (l0_1 : List Int) (P0_2_ : Nat → Prop) (A0_2 : Option Addr) (c0_2 : Nat) (l0_2 : List Int) (r1 : Bool) (r2 : List Int) (r3 : List Int) (w : World) (hs0_1 : Kd.V (Kd.int .u32) 48 w w.heap.size (fun k_ => P0_1_ k_) (.slice A0_1 l0_1.length c0_1) l0_1) (hs0_2 : Kd.V (Kd.int .u32) 48 w w.heap.size (fun k_ => P0_2_ k_) (.slice A0_2 l0_2.length c0_2) l0_2) (h : codewrightref02_Trim.f k a0_0 l0_1 l0_2 = some (r1, r2, r3)) :
 Calls Try.prog 88 #[.agg #[.bool a0_0, .slice A0_1 l0_1.length c0_1, .slice A0_2 l0_2.length c0_2]] w fun e w' => ∃ v1_ v2_ : Value, e = .returned (.agg #[.bool r1, v1_, v2_]) ∧ Kd.V (Kd.int .u32) 48 w' w.heap.size (fun k_ => ((P0_1_ k_ ∨ P0_2_ k_) ∨ w.heap.size ≤ k_)) v1_ r2 ∧ Kd.V (Kd.int .u32) 48 w' w.heap.size (fun k_ => ((P0_1_ k_ ∨ P0_2_ k_) ∨ w.heap.size ≤ k_)) v2_ r3 ∧ Below w.heap.size w w' := by
 have aP := Try.underlying67
 have ad := am (show Kd.V (Kd.int .u32) 48 w w.heap.size (fun k_ => ((P0_1_ k_ ∨ P0_2_ k_) ∨ w.heap.size ≤ k_)) (.slice A0_1 l0_1.length c0_1) l0_1 from Kd.V_mono hs0_1 (fun k_ hk => .inl (.inl hk)))
 have ae := am (show Kd.V (Kd.int .u32) 48 w w.heap.size (fun k_ => ((P0_1_ k_ ∨ P0_2_ k_) ∨ w.heap.size ≤ k_)) (.slice A0_2 l0_2.length c0_2) l0_2 from Kd.V_mono hs0_2 (fun k_ hk => .inl (.inr hk)))
 have HB := am (Below.refl w.heap.size w)
 have H : ((codewrightref02_Make.f k a0_0 l0_1 l0_2).bind fun ak => (some (ak.1, ak.2.1, ak.2.2))) = some (r1, r2, r3) := h
 clear h
 obtain ⟨⟨ao, ap, aq⟩, A2, H⟩ := bs H
 (try dsimp -simprocs only at H)
 simp only [Option.some.injEq, Prod.mk.injEq] at H
 obtain ⟨rfl, rfl, rfl⟩ := H
 go_enter Try.func88, Try.ntmps88
 go_wp2_with (first | ((with_reducible refine gate_dst (N := 1) rfl ?_); refine box_event ?hg (N := 1) ?hd (cs := #[.bool a0_0, .slice A0_1 l0_1.length c0_1, .slice A0_2 l0_2.length c0_2]) (t := 67) ?hr ?_; (case hd => rfl); (case hg => rfl); (case hr => first | (go_simp; done) | (go_simp; rfl)); intro ag hg w3 hbox hb; replace ad := ke ad hg hb; replace ae := ke ae hg hb; have aa := am (hbox); have au := ng hg (bu HB.out); have ab := ng hg (bu HB.out); replace HB := be HB hb; clear hb hbox hg) | ((with_reducible refine gate_dst (N := 2) rfl ?_); refine box_event ?hg (N := 2) ?hd (cs := #[.bool false, .slice none 0 0, .slice none 0 0]) (t := 67) ?hr ?_; (case hd => rfl); (case hg => rfl); (case hr => first | (go_simp; done) | (go_simp; rfl)); intro af hg w4 hbox hb; replace ad := ke ad hg hb; replace ae := ke ae hg hb; have ac := am (hbox); have av := ng hg (bu1 HB.out ab.out); have ah := ng hg (bu1 HB.out ab.out); replace HB := be1 HB ab hb; have ai := nl hg aa; have aj := nr hg aa; replace aa := kb aa hb; clear hb hbox hg; have aQ := ai.out; have aR := aj.out; obtain ⟨aw, ax, ay, az, aA, aB⟩ := bz aa) | ((with_reducible refine gate_callee (f := 80) rfl ?_); refine goesL_ (some 9) rfl rfl Try.func80 (by kernel_rfl) rfl #[.bool a0_0, .slice A0_1 l0_1.length c0_1, .slice A0_2 l0_2.length c0_2] rfl lu ?_; (with_reducible refine (codewrightref02_Make.calls k a0_0 (fun k_ => ((((P0_1_ k_ ∨ P0_2_ k_) ∨ w.heap.size ≤ k_) ∧ k_ ≠ ag) ∧ k_ ≠ af)) _ _ l0_1 (fun k_ => ((((P0_1_ k_ ∨ P0_2_ k_) ∨ w.heap.size ≤ k_) ∧ k_ ≠ ag) ∧ k_ ≠ af)) _ _ l0_2 ao ap aq _ ?side1 ?side2 A2.out).mono ?_); (case side1 => exact vz ad.out); (case side2 => exact vz ae.out); rintro e w7 ⟨aL, aM, rfl, aN, aO, hb⟩; refine ⟨_, rfl, ?_⟩; replace ad := kv ad hb; replace ae := kv ae hb; have al := ar w.heap.size (ok' := fun k_ => ((P0_1_ k_ ∨ P0_2_ k_) ∨ w.heap.size ≤ k_) ∧ k_ ≠ ag ∧ k_ ≠ af) aN (fa (fz2 HB ab ah) (fa (fb aa) (fb ac))); have an := ar w.heap.size (ok' := fun k_ => ((P0_1_ k_ ∨ P0_2_ k_) ∨ w.heap.size ≤ k_) ∧ k_ ≠ ag ∧ k_ ≠ af) aO (fa (fz2 HB ab ah) (fa (fb aa) (fb ac))); replace aa := kb aa hb; replace ac := kb ac hb; replace HB := be2 HB ab ah hb; (try clear hb); (try clear aN); (try clear aO); obtain ⟨aC, aD, aE, aF, aG, aH⟩ := bz ac; obtain ⟨aS, aT, aU⟩ := Kd.V_slice al.out; subst aU; obtain ⟨aI, aJ, aK⟩ := Kd.V_slice an.out; subst aK))
 refine bodyPost_ret (results_cell_row rfl _ _ af 67 #[.bool ao, .slice aS ap.length aT, .slice aI aq.length aJ] (0, 0) _ rfl (kp ac.out) Try.underlying67 rfl (by kernel_rfl)) rfl ?_
 exact ⟨_, _, by first | rfl | (simp [errW_none, errW_some] <;> rfl) | (simp [*, errW_none, errW_some] <;> rfl), by exact vf al.out, by exact vf an.out, by repeat (first | (with_reducible first | exact HB.out | apply below_alloc | apply pw_below_drewN | apply below_drew1 | refine below_set ?_ ab.out | refine below_set ?_ ah.out) | exact HB.out)⟩
def codewrightref02_Add.f (k : Nat) (a0_0 : Bool) (l0_1 : List Int) (l0_2 : List Int) (a1_0 : Bool) (l1_1 : List Int) (l1_2 : List Int) : Option (Bool × List Int × List Int) := (codewrightref02_Trim.f k a0_0 l0_1 l0_2).bind fun bt1716 => ((codewrightref02_Trim.f k a1_0 l1_1 l1_2).bind fun bt1723 => ((codewrightref01_Mul.f k bt1716.2.1 bt1723.2.2).bind fun t1730 => ((codewrightref01_Mul.f k bt1723.2.1 bt1716.2.2).bind fun t1733 => ((codewrightref01_Mul.f k bt1716.2.2 bt1723.2.2).bind fun t1736 => (if (bt1716.1 == bt1723.1) = true then ((codewrightref01_Add.f k t1730 t1733).bind fun t1739 => ((codewrightref02_Make.f k bt1716.1 t1739 t1736).bind fun bt1742 => (some (bt1742.1, bt1742.2.1, bt1742.2.2)))) else ((codewrightref01_Cmp.f k t1730 t1733).bind fun t1749 => (if t1749 ≥ 0 then ((codewrightref01_Sub.f k t1730 t1733).bind fun t1750 => ((codewrightref02_Make.f k bt1716.1 t1750 t1736).bind fun bt1753 => (some (bt1753.1, bt1753.2.1, bt1753.2.2)))) else ((codewrightref01_Sub.f k t1733 t1730).bind fun t1760 => ((codewrightref02_Make.f k bt1723.1 t1760 t1736).bind fun bt1763 => (some (bt1763.1, bt1763.2.1, bt1763.2.2)))))))))))
def codewrightref02_Add.T7 : Bool × List (List Nat × List Nat) := (true, [([], []), ([0], [0]), ([], []), ([], []), ([2, 3], [2, 3]), ([], []), ([1, 4, 5, 4], [1, 4, 5]), ([6, 6, 0, 1, 2, 3, 4, 5, 6], [6])])
def codewrightref02_Add.B7 : List Nat := [0, 1, 0, 0, 12, 0, 63, 127]
theorem codewrightref02_Add.tab7 : rtab .any (opsOf Try.f100 7) = codewrightref02_Add.T7 := by kernel_rfl
theorem codewrightref02_Add.bits7 : waitsOk codewrightref02_Add.T7.2 codewrightref02_Add.B7 = true := by kernel_rfl
def codewrightref02_Add.T9 : Bool × List (List Nat × List Nat) := (true, [([], []), ([0], [0]), ([], []), ([], []), ([2, 3], [2, 3]), ([], []), ([1, 4, 5, 4], [1, 4, 5]), ([6, 6, 0, 1, 2, 3, 4, 5, 6], [6])])
def codewrightref02_Add.B9 : List Nat := [0, 1, 0, 0, 12, 0, 63, 127]
theorem codewrightref02_Add.tab9 : rtab .any (opsOf Try.f100 9) = codewrightref02_Add.T9 := by kernel_rfl
theorem codewrightref02_Add.bits9 : waitsOk codewrightref02_Add.T9.2 codewrightref02_Add.B9 = true := by kernel_rfl
def codewrightref02_Add.T10 : Bool × List (List Nat × List Nat) := (true, [([], []), ([0], [0]), ([], []), ([], []), ([2, 3], [2, 3]), ([], []), ([1, 4, 5, 4], [1, 4, 5]), ([6, 6, 0, 1, 2, 3, 4, 5, 6], [6])])
def codewrightref02_Add.B10 : List Nat := [0, 1, 0, 0, 12, 0, 63, 127]
theorem codewrightref02_Add.tab10 : rtab .any (opsOf Try.f100 10) = codewrightref02_Add.T10 := by kernel_rfl
theorem codewrightref02_Add.bits10 : waitsOk codewrightref02_Add.T10.2 codewrightref02_Add.B10 = true := by kernel_rfl
theorem codewrightref02_Add.calls (k : Nat) (a0_0 : Bool) (P0_1_ : Nat → Prop) (A0_1 : Option Addr) (c0_1 : Nat) (l0_1 : List Int) (P0_2_ : Nat → Prop) (A0_2 : Option Addr) (c0_2 : Nat) (l0_2 : List Int) (a1_0 : Bool) (P1_1_ : Nat → Prop) (A1_1 : Option Addr) (c1_1 : Nat) (l1_1 : List Int) (P1_2_ : Nat → Prop) (A1_2 : Option Addr) (c1_2 : Nat) (l1_2 : List Int) (r1 : Bool) (r2 : List Int) (r3 : List Int) (w : World) (hs0_1 : Kd.V (Kd.int .u32) 48 w w.heap.size (fun k_ => P0_1_ k_) (.slice A0_1 l0_1.length c0_1) l0_1) (hs0_2 : Kd.V (Kd.int .u32) 48 w w.heap.size (fun k_ => P0_2_ k_) (.slice A0_2 l0_2.length c0_2) l0_2) (hs1_1 : Kd.V (Kd.int .u32) 48 w w.heap.size (fun k_ => P1_1_ k_) (.slice A1_1 l1_1.length c1_1) l1_1) (hs1_2 : Kd.V (Kd.int .u32) 48 w w.heap.size (fun k_ => P1_2_ k_) (.slice A1_2 l1_2.length c1_2) l1_2) (h : codewrightref02_Add.f k a0_0 l0_1 l0_2 a1_0 l1_1 l1_2 = some (r1, r2, r3)) :
 Calls Try.prog 100 #[.agg #[.bool a0_0, .slice A0_1 l0_1.length c0_1, .slice A0_2 l0_2.length c0_2], .agg #[.bool a1_0, .slice A1_1 l1_1.length c1_1, .slice A1_2 l1_2.length c1_2]] w fun e w' => ∃ v1_ v2_ : Value, e = .returned (.agg #[.bool r1, v1_, v2_]) ∧ Kd.V (Kd.int .u32) 48 w' w.heap.size (fun k_ => ((P0_1_ k_ ∨ P0_2_ k_ ∨ P1_1_ k_ ∨ P1_2_ k_) ∨ w.heap.size ≤ k_)) v1_ r2 ∧ Kd.V (Kd.int .u32) 48 w' w.heap.size (fun k_ => ((P0_1_ k_ ∨ P0_2_ k_ ∨ P1_1_ k_ ∨ P1_2_ k_) ∨ w.heap.size ≤ k_)) v2_ r3 ∧ Below w.heap.size w w' := by
 have hc := Try.underlying67
 have al := am (show Kd.V (Kd.int .u32) 48 w w.heap.size (fun k_ => ((P0_1_ k_ ∨ P0_2_ k_ ∨ P1_1_ k_ ∨ P1_2_ k_) ∨ w.heap.size ≤ k_)) (.slice A0_1 l0_1.length c0_1) l0_1 from Kd.V_mono hs0_1 (fun k_ hk => .inl (.inl hk)))
 have an := am (show Kd.V (Kd.int .u32) 48 w w.heap.size (fun k_ => ((P0_1_ k_ ∨ P0_2_ k_ ∨ P1_1_ k_ ∨ P1_2_ k_) ∨ w.heap.size ≤ k_)) (.slice A0_2 l0_2.length c0_2) l0_2 from Kd.V_mono hs0_2 (fun k_ hk => .inl (.inr (.inl hk))))
 have ao := am (show Kd.V (Kd.int .u32) 48 w w.heap.size (fun k_ => ((P0_1_ k_ ∨ P0_2_ k_ ∨ P1_1_ k_ ∨ P1_2_ k_) ∨ w.heap.size ≤ k_)) (.slice A1_1 l1_1.length c1_1) l1_1 from Kd.V_mono hs1_1 (fun k_ hk => .inl (.inr (.inr (.inl hk)))))
 have ap := am (show Kd.V (Kd.int .u32) 48 w w.heap.size (fun k_ => ((P0_1_ k_ ∨ P0_2_ k_ ∨ P1_1_ k_ ∨ P1_2_ k_) ∨ w.heap.size ≤ k_)) (.slice A1_2 l1_2.length c1_2) l1_2 from Kd.V_mono hs1_2 (fun k_ hk => .inl (.inr (.inr (.inr hk)))))
 have HB := am (Below.refl w.heap.size w)
 have H : ((codewrightref02_Trim.f k a0_0 l0_1 l0_2).bind fun aO => ((codewrightref02_Trim.f k a1_0 l1_1 l1_2).bind fun aQ => ((codewrightref01_Mul.f k aO.2.1 aQ.2.2).bind fun aJ => ((codewrightref01_Mul.f k aQ.2.1 aO.2.2).bind fun aK => ((codewrightref01_Mul.f k aO.2.2 aQ.2.2).bind fun aM => (if (aO.1 == aQ.1) = true then ((codewrightref01_Add.f k aJ aK).bind fun aY => ((codewrightref02_Make.f k aO.1 aY aM).bind fun a3 => (some (a3.1, a3.2.1, a3.2.2)))) else ((codewrightref01_Cmp.f k aJ aK).bind fun aR => (if aR ≥ 0 then ((codewrightref01_Sub.f k aJ aK).bind fun aZ => ((codewrightref02_Make.f k aO.1 aZ aM).bind fun a4 => (some (a4.1, a4.2.1, a4.2.2)))) else ((codewrightref01_Sub.f k aK aJ).bind fun a0 => ((codewrightref02_Make.f k aQ.1 a0 aM).bind fun a5 => (some (a5.1, a5.2.1, a5.2.2)))))))))))) = some (r1, r2, r3) := h
 clear h
 obtain ⟨⟨aE, aF, aC⟩, A3, H⟩ := bs H
 (try dsimp -simprocs only at H)
 obtain ⟨⟨aL, aN, aI⟩, A4, H⟩ := bs H
 (try dsimp -simprocs only at H)
 obtain ⟨aJ, A5, H⟩ := bs H
 (try dsimp -simprocs only at H)
 obtain ⟨aK, A6, H⟩ := bs H
 (try dsimp -simprocs only at H)
 obtain ⟨aM, A7, H⟩ := bs H
 (try dsimp -simprocs only at H)
 by_cases c8 : (aE == aL) = true
 ·
  rw [if_pos c8] at H
  have f7 : (aE == aL) = true := c8
  (try (have f8 : decide (aE = aL) = true := by simpa using c8))
  (try (have f9 : (aE == aL) = true := by simpa using c8))
  clear c8
  obtain ⟨aY, A9, H⟩ := bs H
  (try dsimp -simprocs only at H)
  obtain ⟨⟨bA, bB, bC⟩, he, H⟩ := bs H
  (try dsimp -simprocs only at H)
  simp only [Option.some.injEq, Prod.mk.injEq] at H
  obtain ⟨rfl, rfl, rfl⟩ := H
  go_enter Try.func100, Try.ntmps100
  try go_wp2_with (first | ((with_reducible refine gate_dst (N := 2) rfl ?_); refine box_event ?hg (N := 2) ?hd (cs := #[.bool a0_0, .slice A0_1 l0_1.length c0_1, .slice A0_2 l0_2.length c0_2]) (t := 67) ?hr ?_; (case hd => rfl); (case hg => rfl); (case hr => first | (go_simp; done) | (go_simp; rfl)); intro ae hg hB hbox hb; replace al := ke al hg hb; replace an := ke an hg hb; replace ao := ke ao hg hb; replace ap := ke ap hg hb; have aa := am (hbox); have bi := ng hg (bu HB.out); have af := ng hg (bu HB.out); replace HB := be HB hb; clear hb hbox hg) | ((with_reducible refine gate_dst (N := 3) rfl ?_); refine box_event ?hg (N := 3) ?hd (cs := #[.bool a1_0, .slice A1_1 l1_1.length c1_1, .slice A1_2 l1_2.length c1_2]) (t := 67) ?hr ?_; (case hd => rfl); (case hg => rfl); (case hr => first | (go_simp; done) | (go_simp; rfl)); intro ag hg hC hbox hb; replace al := ke al hg hb; replace an := ke an hg hb; replace ao := ke ao hg hb; replace ap := ke ap hg hb; have ab := am (hbox); have bj := ng hg (bu1 HB.out af.out); have aj := ng hg (bu1 HB.out af.out); replace HB := be1 HB af hb; have aG := nl hg aa; have aH := nr hg aa; replace aa := kb aa hb; clear hb hbox hg) | ((with_reducible refine gate_dst (N := 4) rfl ?_); refine box_event ?hg (N := 4) ?hd (cs := #[.bool false, .slice none 0 0, .slice none 0 0]) (t := 67) ?hr ?_; (case hd => rfl); (case hg => rfl); (case hr => first | (go_simp; done) | (go_simp; rfl)); intro ad hg hD hbox hb; replace al := ke al hg hb; replace an := ke an hg hb; replace ao := ke ao hg hb; replace ap := ke ap hg hb; have ac := am (hbox); have bk := ng hg (bu2 HB.out af.out aj.out); have aq := ng hg (bu2 HB.out af.out aj.out); replace HB := be2 HB af aj hb; have ai := nl hg aa; have az := nr hg aa; replace aa := kb aa hb; have aw := nl hg ab; have aA := nr hg ab; replace ab := kb ab hb; clear hb hbox hg; have gN := aG.out; have gO := aH.out; have gP := ai.out; have gQ := az.out; obtain ⟨dU, dV, dW, dX, dY, dZ⟩ := bz aa) | ((with_reducible refine gate_callee (f := 88) rfl ?_); refine goesL_ (some 9) rfl rfl Try.func88 (by kernel_rfl) rfl #[.agg #[.bool a0_0, .slice A0_1 l0_1.length c0_1, .slice A0_2 l0_2.length c0_2]] rfl lu ?_; (with_reducible refine (codewrightref02_Trim.calls k a0_0 (fun k_ => (((((P0_1_ k_ ∨ P0_2_ k_ ∨ P1_1_ k_ ∨ P1_2_ k_) ∨ w.heap.size ≤ k_) ∧ k_ ≠ ae) ∧ k_ ≠ ag) ∧ k_ ≠ ad)) _ _ l0_1 (fun k_ => (((((P0_1_ k_ ∨ P0_2_ k_ ∨ P1_1_ k_ ∨ P1_2_ k_) ∨ w.heap.size ≤ k_) ∧ k_ ≠ ae) ∧ k_ ≠ ag) ∧ k_ ≠ ad)) _ _ l0_2 aE aF aC _ ?side1 ?side2 A3.out).mono ?_); (case side1 => exact vz al.out); (case side2 => exact vz an.out); rintro e hf ⟨bD, bE, rfl, aD, aP, hb⟩; refine ⟨_, rfl, ?_⟩; replace al := kv al hb; replace an := kv an hb; replace ao := kv ao hb; replace ap := kv ap hb; have ak := ar w.heap.size (ok' := fun k_ => ((P0_1_ k_ ∨ P0_2_ k_ ∨ P1_1_ k_ ∨ P1_2_ k_) ∨ w.heap.size ≤ k_) ∧ k_ ≠ ae ∧ k_ ≠ ag ∧ k_ ≠ ad) aD (fa (fz3 HB af aj aq) (fa (fb aa) (fa (fb ab) (fb ac)))); have ah := ar w.heap.size (ok' := fun k_ => ((P0_1_ k_ ∨ P0_2_ k_ ∨ P1_1_ k_ ∨ P1_2_ k_) ∨ w.heap.size ≤ k_) ∧ k_ ≠ ae ∧ k_ ≠ ag ∧ k_ ≠ ad) aP (fa (fz3 HB af aj aq) (fa (fb aa) (fa (fb ab) (fb ac)))); replace aa := kb aa hb; replace ab := kb ab hb; replace ac := kb ac hb; replace HB := be3 HB af aj aq hb; (try clear hb); (try clear aD); (try clear aP); obtain ⟨d0, d1, d2, d3, d4, d5⟩ := bz aa; obtain ⟨bd, bf, ga⟩ := Kd.V_slice ak.out; subst ga; obtain ⟨a6, a7, gb⟩ := Kd.V_slice ah.out; subst gb) | ((with_reducible refine gate_store (t := 67) (p := 2) rfl ?_); refine store_event (t := 67) (p := 2) (v := ?vo_w21) (w1 := (((hf.setCell ⟨ae, 0, none⟩ (.bool aE)).setCell ⟨ae, 1, none⟩ (.slice bd aF.length bf)).setCell ⟨ae, 2, none⟩ (.slice a6 aC.length a7))) ?hg ?ho ?hn ?hr ?_; (case ho => rfl); (case hg => rfl); (case hn => rfl); (case hr => first | (go_simp; done) | (go_simp; rfl)); intro bw hw; have bF : Aside0 (Kd.V (Kd.int .u32) 48 bw w.heap.size (fun k_ => ((P0_1_ k_ ∨ P0_2_ k_ ∨ P1_1_ k_ ∨ P1_2_ k_) ∨ w.heap.size ≤ k_) ∧ k_ ≠ ae ∧ k_ ≠ ag ∧ k_ ≠ ad) (.slice A0_1 l0_1.length c0_1) l0_1) := ⟨(by rw [hw]; exact vf al.out)⟩; have bG : Aside0 (Kd.V (Kd.int .u32) 48 bw w.heap.size (fun k_ => ((P0_1_ k_ ∨ P0_2_ k_ ∨ P1_1_ k_ ∨ P1_2_ k_) ∨ w.heap.size ≤ k_) ∧ k_ ≠ ae ∧ k_ ≠ ag ∧ k_ ≠ ad) (.slice A0_2 l0_2.length c0_2) l0_2) := ⟨(by rw [hw]; exact vf an.out)⟩; have bH : Aside0 (Kd.V (Kd.int .u32) 48 bw w.heap.size (fun k_ => ((P0_1_ k_ ∨ P0_2_ k_ ∨ P1_1_ k_ ∨ P1_2_ k_) ∨ w.heap.size ≤ k_) ∧ k_ ≠ ae ∧ k_ ≠ ag ∧ k_ ≠ ad) (.slice A1_1 l1_1.length c1_1) l1_1) := ⟨(by rw [hw]; exact vf ao.out)⟩; have bI : Aside0 (Kd.V (Kd.int .u32) 48 bw w.heap.size (fun k_ => ((P0_1_ k_ ∨ P0_2_ k_ ∨ P1_1_ k_ ∨ P1_2_ k_) ∨ w.heap.size ≤ k_) ∧ k_ ≠ ae ∧ k_ ≠ ag ∧ k_ ≠ ad) (.slice A1_2 l1_2.length c1_2) l1_2) := ⟨(by rw [hw]; exact vf ap.out)⟩; have bJ : Aside0 (Kd.V (Kd.int .u32) 48 bw w.heap.size (fun k_ => ((P0_1_ k_ ∨ P0_2_ k_ ∨ P1_1_ k_ ∨ P1_2_ k_) ∨ w.heap.size ≤ k_) ∧ k_ ≠ ae ∧ k_ ≠ ag ∧ k_ ≠ ad) (.slice bd aF.length bf) aF) := ⟨(by rw [hw]; exact vf ak.out)⟩; have bK : Aside0 (Kd.V (Kd.int .u32) 48 bw w.heap.size (fun k_ => ((P0_1_ k_ ∨ P0_2_ k_ ∨ P1_1_ k_ ∨ P1_2_ k_) ∨ w.heap.size ≤ k_) ∧ k_ ≠ ae ∧ k_ ≠ ag ∧ k_ ≠ ad) (.slice a6 aC.length a7) aC) := ⟨(by rw [hw]; exact vf ah.out)⟩; have bL : Aside0 (bw.heap[ae]? = some (.cells #[.bool aE, .slice bd aF.length bf, .slice a6 aC.length a7] 67 (0, 0))) := ⟨(by rw [hw]; exact (kp aa.out))⟩; have bM : Aside0 (bw.heap[ag]? = some (.cells #[.bool a1_0, .slice A1_1 l1_1.length c1_1, .slice A1_2 l1_2.length c1_2] 67 (0, 0))) := ⟨(by rw [hw]; exact (kf aH.out ab.out))⟩; have bN : Aside0 (bw.heap[ad]? = some (.cells #[.bool false, .slice none 0 0, .slice none 0 0] 67 (0, 0))) := ⟨(by rw [hw]; exact (kf az.out ac.out))⟩; have bO : Aside0 (Below w.heap.size w bw) := ⟨(by rw [hw]; exact (bu3 HB.out af.out aj.out aq.out))⟩; clear hw al an ao ap ak ah aa ab ac HB; have al := bF; have an := bG; have ao := bH; have ap := bI; have ak := bJ; have ah := bK; have aa := bL; have ab := bM; have ac := bN; have HB := bO; clear bF bG bH bI bJ bK bL bM bN bO; have gR := aw.out; have gS := aA.out; obtain ⟨d6, d7, d8, d9, ea, eb⟩ := bz ab) | ((with_reducible refine gate_callee (f := 88) rfl ?_); refine goesL_ (some 11) rfl rfl Try.func88 (by kernel_rfl) rfl #[.agg #[.bool a1_0, .slice A1_1 l1_1.length c1_1, .slice A1_2 l1_2.length c1_2]] rfl lu ?_; (with_reducible refine (codewrightref02_Trim.calls k a1_0 (fun k_ => (((P0_1_ k_ ∨ P0_2_ k_ ∨ P1_1_ k_ ∨ P1_2_ k_) ∨ w.heap.size ≤ k_) ∧ (k_ ≠ ae ∧ (k_ ≠ ag ∧ k_ ≠ ad)))) _ _ l1_1 (fun k_ => (((P0_1_ k_ ∨ P0_2_ k_ ∨ P1_1_ k_ ∨ P1_2_ k_) ∨ w.heap.size ≤ k_) ∧ (k_ ≠ ae ∧ (k_ ≠ ag ∧ k_ ≠ ad)))) _ _ l1_2 aL aN aI _ ?side1 ?side2 A4.out).mono ?_); (case side1 => exact vz ao.out); (case side2 => exact vz ap.out); rintro e hE ⟨bP, bQ, rfl, aD, aP, hb⟩; refine ⟨_, rfl, ?_⟩; replace al := kv al hb; replace an := kv an hb; replace ao := kv ao hb; replace ap := kv ap hb; replace ak := kv ak hb; replace ah := kv ah hb; have av := ar w.heap.size (ok' := fun k_ => ((P0_1_ k_ ∨ P0_2_ k_ ∨ P1_1_ k_ ∨ P1_2_ k_) ∨ w.heap.size ≤ k_) ∧ k_ ≠ ae ∧ k_ ≠ ag ∧ k_ ≠ ad) aD (fa (fz3 HB af aj aq) (fa (fb aa) (fa (fb ab) (fb ac)))); have au := ar w.heap.size (ok' := fun k_ => ((P0_1_ k_ ∨ P0_2_ k_ ∨ P1_1_ k_ ∨ P1_2_ k_) ∨ w.heap.size ≤ k_) ∧ k_ ≠ ae ∧ k_ ≠ ag ∧ k_ ≠ ad) aP (fa (fz3 HB af aj aq) (fa (fb aa) (fa (fb ab) (fb ac)))); replace aa := kb aa hb; replace ab := kb ab hb; replace ac := kb ac hb; replace HB := be3 HB af aj aq hb; (try clear hb); (try clear aD); (try clear aP); obtain ⟨ec, ed, ee, ef, eg, eh⟩ := bz ab; obtain ⟨ce, cf, gc⟩ := Kd.V_slice av.out; subst gc; obtain ⟨b8, b9, gd⟩ := Kd.V_slice au.out; subst gd; obtain ⟨ei, ej, ek, el, em, en⟩ := bz aa) | ((with_reducible refine gate_callee (f := 57) rfl ?_); refine goesL_ (some 16) rfl rfl Try.func57 (by kernel_rfl) rfl #[.slice bd aF.length bf, .slice b8 aI.length b9] rfl lu ?_; (with_reducible refine (codewrightref01_Mul.calls k _ _ aF _ _ aI aJ _ ?side1 ?side2 ?side3 ?side4 A5.out).mono ?_); (case side1 => exact vr ak.out); (case side2 => exact (Kd.V_reads' ak.out).2.1); (case side3 => exact vr au.out); (case side4 => exact (Kd.V_reads' au.out).2.1); rintro e hF ⟨bR, rfl, aD, hb⟩; refine ⟨_, rfl, ?_⟩; replace aD := R_V_base rfl aD; replace al := kx al hb; replace an := kx an hb; replace ao := kx ao hb; replace ap := kx ap hb; replace ak := kx ak hb; replace ah := kx ah hb; replace av := kx av hb; replace au := kx au hb; have ax := ar0 w.heap.size (ok' := fun k_ => ((P0_1_ k_ ∨ P0_2_ k_ ∨ P1_1_ k_ ∨ P1_2_ k_) ∨ w.heap.size ≤ k_) ∧ k_ ≠ ae ∧ k_ ≠ ag ∧ k_ ≠ ad) aD (fa (fz3 HB af aj aq) (fa (fs aa) (fa (fs ab) (fs ac)))); replace aa := am (blk_below (g := ae) (o := .cells #[.bool aE, .slice bd aF.length bf, .slice a6 aC.length a7] 67 (0, 0)) (kf aG.out aa.out) hb); replace ab := am (blk_below (g := ag) (o := .cells #[.bool aL, .slice ce aN.length cf, .slice b8 aI.length b9] 67 (0, 0)) (kp ab.out) hb); replace ac := am (blk_below (g := ad) (o := .cells #[.bool false, .slice none 0 0, .slice none 0 0] 67 (0, 0)) (kf aA.out ac.out) hb); replace HB := be3 HB af aj aq hb; (try clear hb); (try clear aD); obtain ⟨eo, ep, eq, er, es, et⟩ := bz ab; obtain ⟨eu, ev, ew, ex, ey, ez⟩ := bz aa) | ((with_reducible refine gate_callee (f := 57) rfl ?_); refine goesL_ (some 21) rfl rfl Try.func57 (by kernel_rfl) rfl #[.slice ce aN.length cf, .slice a6 aC.length a7] rfl lu ?_; (with_reducible refine (codewrightref01_Mul.calls k _ _ aN _ _ aC aK _ ?side1 ?side2 ?side3 ?side4 A6.out).mono ?_); (case side1 => exact cu (Kd.V_reads' av.out).2.2); (case side2 => exact (Kd.V_reads' av.out).2.1); (case side3 => exact cu (Kd.V_reads' ah.out).2.2); (case side4 => exact (Kd.V_reads' ah.out).2.1); rintro e hG ⟨bS, rfl, aD, hb⟩; refine ⟨_, rfl, ?_⟩; replace aD := R_V_base rfl aD; replace al := kv al hb; replace an := kv an hb; replace ao := kv ao hb; replace ap := kv ap hb; replace ak := kv ak hb; replace ah := kv ah hb; replace av := kv av hb; replace au := kv au hb; replace ax := kv ax hb; have ay := ar0 w.heap.size (ok' := fun k_ => ((P0_1_ k_ ∨ P0_2_ k_ ∨ P1_1_ k_ ∨ P1_2_ k_) ∨ w.heap.size ≤ k_) ∧ k_ ≠ ae ∧ k_ ≠ ag ∧ k_ ≠ ad) aD (fa (fz3 HB af aj aq) (fa (fb aa) (fa (fb ab) (fb ac)))); replace aa := kb aa hb; replace ab := kb ab hb; replace ac := kb ac hb; replace HB := be3 HB af aj aq hb; (try clear hb); (try clear aD); obtain ⟨eA, eB, eC, eD, eE, eF⟩ := bz aa; obtain ⟨eG, eH, eI, eJ, eK, eL⟩ := bz ab) | ((with_reducible refine gate_callee (f := 57) rfl ?_); refine goesL_ (some 26) rfl rfl Try.func57 (by kernel_rfl) rfl #[.slice a6 aC.length a7, .slice b8 aI.length b9] rfl lu ?_; (with_reducible refine (codewrightref01_Mul.calls k _ _ aC _ _ aI aM _ ?side1 ?side2 ?side3 ?side4 A7.out).mono ?_); (case side1 => exact cu (Kd.V_reads' ah.out).2.2); (case side2 => exact (Kd.V_reads' ah.out).2.1); (case side3 => exact cu (Kd.V_reads' au.out).2.2); (case side4 => exact (Kd.V_reads' au.out).2.1); rintro e hh ⟨bT, rfl, aD, hb⟩; refine ⟨_, rfl, ?_⟩; replace aD := R_V_base rfl aD; replace al := kv al hb; replace an := kv an hb; replace ao := kv ao hb; replace ap := kv ap hb; replace ak := kv ak hb; replace ah := kv ah hb; replace av := kv av hb; replace au := kv au hb; replace ax := kv ax hb; replace ay := kv ay hb; have aB := ar0 w.heap.size (ok' := fun k_ => ((P0_1_ k_ ∨ P0_2_ k_ ∨ P1_1_ k_ ∨ P1_2_ k_) ∨ w.heap.size ≤ k_) ∧ k_ ≠ ae ∧ k_ ≠ ag ∧ k_ ≠ ad) aD (fa (fz3 HB af aj aq) (fa (fb aa) (fa (fb ab) (fb ac)))); replace aa := kb aa hb; replace ab := kb ab hb; replace ac := kb ac hb; replace HB := be3 HB af aj aq hb; (try clear hb); (try clear aD); obtain ⟨eM, eN, eO, eP, eQ, eR⟩ := bz aa; obtain ⟨eS, eT, eU, eV, eW, eX⟩ := bz ab))
  replace al := am (Kd.V_drew al.out)
  replace an := am (Kd.V_drew an.out)
  replace ao := am (Kd.V_drew ao.out)
  replace ap := am (Kd.V_drew ap.out)
  replace ak := am (Kd.V_drew ak.out)
  replace ah := am (Kd.V_drew ah.out)
  replace av := am (Kd.V_drew av.out)
  replace au := am (Kd.V_drew au.out)
  replace ax := am (Kd.V_drew ax.out)
  replace ay := am (Kd.V_drew ay.out)
  replace aB := am (Kd.V_drew aB.out)
  replace aa := am (blk_drew aa.out)
  replace ab := am (blk_drew ab.out)
  replace ac := am (blk_drew ac.out)
  replace HB := am (below_drew1 HB.out)
  obtain ⟨ge, gf, cg⟩ := Kd.V_slice ax.out
  (first | subst cg | (injection cg with f1_ f2_ f3_; have f4_ := f1_.symm; have f5_ := f3_.symm; clear f1_ f2_ f3_; subst f4_; subst f5_))
  obtain ⟨gg, gh, ch⟩ := Kd.V_slice ay.out
  (first | subst ch | (injection ch with f1_ f2_ f3_; have f4_ := f1_.symm; have f5_ := f3_.symm; clear f1_ f2_ f3_; subst f4_; subst f5_))
  refine start_ (n := 8) (S := fun w' => w'.cell? ⟨ae, 0, none⟩ = some (.bool aE) ∧ w'.cell? ⟨ae, 1, none⟩ = some (.slice bd aF.length bf) ∧ w'.cell? ⟨ae, 2, none⟩ = some (.slice a6 aC.length a7)) (ds := []) #[false, false, false, false, false, false, false, false] (by kernel_rfl) rfl rfl ⟨bc aa 0, bc aa 1, bc aa 2⟩ (fun hHeld => ?_); refine with_tabW codewrightref02_Add.tab7 codewrightref02_Add.bits7 (fun HT_ HW_ => ?_)
  generalize hh.drew = hH at al an ao ap ak ah av au ax ay aB aa ab ac HB hHeld ⊢
  refine pq 0 (some 32) #[true, false, false, false, false, false, false, false] HT_ ?_
  refine pq 2 (some 34) #[true, false, true, false, false, false, false, false] HT_ ?_
  refine pq 3 (some 35) #[true, false, true, true, false, false, false, false] HT_ ?_
  refine pq 5 (some 37) #[true, false, true, true, false, true, false, false] HT_ ?_
  refine tq 1 (some 33) #[true, true, true, true, false, true, false, false] HT_ HW_ hHeld ?_
  refine one_ (i := 4) (N := some 36) #[true, true, true, true, true, true, false, false] rfl rfl (one_of HT_.out (by kernel_rfl)) (by decide) (fun K hK => ?_)
  refine goes_ Try.func55 (by kernel_rfl) rfl #[.slice ge aJ.length gf, .slice gg aK.length gh] (by rfl) rfl rfl lu ?_
  with_reducible refine (codewrightref01_Add.calls k _ _ aJ _ _ aK aY _ ?side1 ?side2 ?side3 ?side4 A9.out).mono ?_
  (case side1 => exact cu (Kd.V_reads' ax.out).2.2)
  (case side2 => exact (Kd.V_reads' ax.out).2.1)
  (case side3 => exact cu (Kd.V_reads' ay.out).2.2)
  (case side4 => exact (Kd.V_reads' ay.out).2.1)
  rintro e hI ⟨gT, rfl, aD, hb⟩
  refine ⟨_, rfl, ?_⟩
  replace aD := R_V_base rfl aD
  replace al := kv al hb
  replace an := kv an hb
  replace ao := kv ao hb
  replace ap := kv ap hb
  replace ak := kv ak hb
  replace ah := kv ah hb
  replace av := kv av hb
  replace au := kv au hb
  replace ax := kv ax hb
  replace ay := kv ay hb
  replace aB := kv aB hb
  have aV := ar0 w.heap.size (ok' := fun k_ => ((P0_1_ k_ ∨ P0_2_ k_ ∨ P1_1_ k_ ∨ P1_2_ k_) ∨ w.heap.size ≤ k_) ∧ k_ ≠ ae ∧ k_ ≠ ag ∧ k_ ≠ ad) aD (fa (fz3 HB af aj aq) (fa (fb aa) (fa (fb ab) (fb ac))))
  replace aa := kb aa hb
  replace ab := kb ab hb
  replace ac := kb ac hb
  replace HB := be3 HB af aj aq hb
  (try clear hb)
  (try clear hb2)
  (try clear hk)
  (try clear hi)
  (try clear aD)
  obtain ⟨gi, gj, ci⟩ := Kd.V_slice aV.out
  (first | subst ci | (injection ci with f1_ f2_ f3_; have f4_ := f1_.symm; have f5_ := f3_.symm; clear f1_ f2_ f3_; subst f4_; subst f5_))
  obtain ⟨gk, gl, cj⟩ := Kd.V_slice aB.out
  (first | subst cj | (injection cj with f1_ f2_ f3_; have f4_ := f1_.symm; have f5_ := f3_.symm; clear f1_ f2_ f3_; subst f4_; subst f5_))
  refine hK.out _ _ ⟨bc aa 0, bc aa 1, bc aa 2⟩ (fun hHeld => ?_)
  clear hK K
  refine nq 36 ?_
  refine one_ (i := 6) (N := some 38) #[true, true, true, true, true, true, true, false] rfl rfl (one_of HT_.out (by kernel_rfl)) (by decide) (fun K hK => ?_)
  refine goes_ Try.func80 (by kernel_rfl) rfl #[.bool aE, .slice gi aY.length gj, .slice gk aM.length gl] (by rfl) rfl rfl lu ?_
  with_reducible refine (codewrightref02_Make.calls k aE (fun k_ => (((P0_1_ k_ ∨ P0_2_ k_ ∨ P1_1_ k_ ∨ P1_2_ k_) ∨ w.heap.size ≤ k_) ∧ (k_ ≠ ae ∧ (k_ ≠ ag ∧ k_ ≠ ad)))) _ _ aY (fun k_ => (((P0_1_ k_ ∨ P0_2_ k_ ∨ P1_1_ k_ ∨ P1_2_ k_) ∨ w.heap.size ≤ k_) ∧ (k_ ≠ ae ∧ (k_ ≠ ag ∧ k_ ≠ ad)))) _ _ aM bA bB bC _ ?side1 ?side2 he.out).mono ?_
  (case side1 => exact vz aV.out)
  (case side2 => exact vz aB.out)
  rintro e gm ⟨gU, gV, rfl, aD, aP, hb⟩
  refine ⟨_, rfl, ?_⟩
  replace al := kv al hb
  replace an := kv an hb
  replace ao := kv ao hb
  replace ap := kv ap hb
  replace ak := kv ak hb
  replace ah := kv ah hb
  replace av := kv av hb
  replace au := kv au hb
  replace ax := kv ax hb
  replace ay := kv ay hb
  replace aB := kv aB hb
  replace aV := kv aV hb
  have bl := ar w.heap.size (ok' := fun k_ => ((P0_1_ k_ ∨ P0_2_ k_ ∨ P1_1_ k_ ∨ P1_2_ k_) ∨ w.heap.size ≤ k_) ∧ k_ ≠ ae ∧ k_ ≠ ag ∧ k_ ≠ ad) aD (fa (fz3 HB af aj aq) (fa (fb aa) (fa (fb ab) (fb ac))))
  have bm := ar w.heap.size (ok' := fun k_ => ((P0_1_ k_ ∨ P0_2_ k_ ∨ P1_1_ k_ ∨ P1_2_ k_) ∨ w.heap.size ≤ k_) ∧ k_ ≠ ae ∧ k_ ≠ ag ∧ k_ ≠ ad) aP (fa (fz3 HB af aj aq) (fa (fb aa) (fa (fb ab) (fb ac))))
  replace aa := kb aa hb
  replace ab := kb ab hb
  replace ac := kb ac hb
  replace HB := be3 HB af aj aq hb
  (try clear hb)
  (try clear hb2)
  (try clear hk)
  (try clear hi)
  (try clear aD)
  (try clear aP)
  obtain ⟨gn, gp, ck⟩ := Kd.V_slice bl.out
  (first | subst ck | (injection ck with f1_ f2_ f3_; have f4_ := f1_.symm; have f5_ := f3_.symm; clear f1_ f2_ f3_; subst f4_; subst f5_))
  obtain ⟨gq, gr, cl⟩ := Kd.V_slice bm.out
  (first | subst cl | (injection cl with f1_ f2_ f3_; have f4_ := f1_.symm; have f5_ := f3_.symm; clear f1_ f2_ f3_; subst f4_; subst f5_))
  refine hK.out _ _ ⟨bc aa 0, bc aa 1, bc aa 2⟩ (fun hHeld => ?_)
  clear hK K
  refine nq 38 ?_
  refine one_ (i := 7) (N := none) #[true, true, true, true, true, true, true, true] rfl rfl (one_of HT_.out (by kernel_rfl)) (by decide) (fun K hK => ?_)
  have hs45 : gm.cell? ⟨ad, 0, none⟩ = some (.bool false) := bc ac 0
  have hfs45 := blk_frozen ac.out 0
  have hns45_0 := ai.out
  have hns45_1 := aw.out
  have hms45_0 := az.out
  have hms45_1 := aA.out
  have hs47 : gm.cell? ⟨ad, 1, none⟩ = some (.slice none 0 0) := bc ac 1
  have hfs47 := blk_frozen ac.out 1
  have hns47_0 := ai.out
  have hns47_1 := aw.out
  have hms47_0 := az.out
  have hms47_1 := aA.out
  have hs49 : gm.cell? ⟨ad, 2, none⟩ = some (.slice none 0 0) := bc ac 2
  have hfs49 := blk_frozen ac.out 2
  have hns49_0 := ai.out
  have hns49_1 := aw.out
  have hms49_0 := az.out
  have hms49_1 := aA.out
  refine skip_ (w1 := ?_) (by rfl) rfl ?_ ?_
  rotate_left
  ·
   go_simp
   rfl
  refine hK.out _ _ ⟨((cell_far (p := ⟨ad, _, none⟩) ai.out _).trans (((cell_far (p := ⟨ad, _, none⟩) ai.out _).trans (((cell_far (p := ⟨ad, _, none⟩) ai.out _).trans (hHeld.1)))))), ((cell_far (p := ⟨ad, _, none⟩) ai.out _).trans (((cell_far (p := ⟨ad, _, none⟩) ai.out _).trans (((cell_far (p := ⟨ad, _, none⟩) ai.out _).trans (hHeld.2.1)))))), ((cell_far (p := ⟨ad, _, none⟩) ai.out _).trans (((cell_far (p := ⟨ad, _, none⟩) ai.out _).trans (((cell_far (p := ⟨ad, _, none⟩) ai.out _).trans (hHeld.2.2))))))⟩ (fun hHeld => ?_)
  clear hK K
  refine done_ (done_of HT_.out (by kernel_rfl)) ?_
  try go_wp2
  refine bodyPost_ret (results_cell_row rfl _ _ ad 67 #[.bool bA, .slice gn bB.length gp, .slice gq bC.length gr] (0, 0) _ rfl (kp ac.out) Try.underlying67 rfl (by kernel_rfl)) rfl ?_
  exact ⟨_, _, by first | rfl | (simp [errW_none, errW_some] <;> rfl) | (simp [*, errW_none, errW_some] <;> rfl), by exact vf bl.out, by exact vf bm.out, by repeat (first | (with_reducible first | exact HB.out | apply below_alloc | apply pw_below_drewN | apply below_drew1 | refine below_set ?_ af.out | refine below_set ?_ aj.out | refine below_set ?_ aq.out) | exact HB.out)⟩
 ·
  rw [if_neg c8] at H
  have f7 : (aE == aL) = false := by simpa using c8
  (try (have f8 : decide (aE = aL) = false := by simpa using c8))
  (try (have f9 : (aE == aL) = false := by simpa using c8))
  (try (have hj : ¬ (aE = aL) := by simpa using c8))
  clear c8
  obtain ⟨aR, gW, H⟩ := bs H
  (try dsimp -simprocs only at H)
  by_cases cd : aR ≥ 0
  ·
   rw [if_pos cd] at H
   have cm : decide (0 ≤ aR) = true := decide_eq_true cd
   clear cd
   obtain ⟨aZ, hl, H⟩ := bs H
   (try dsimp -simprocs only at H)
   obtain ⟨⟨bU, bV, bW⟩, hm, H⟩ := bs H
   (try dsimp -simprocs only at H)
   simp only [Option.some.injEq, Prod.mk.injEq] at H
   obtain ⟨rfl, rfl, rfl⟩ := H
   go_enter Try.func100, Try.ntmps100
   try go_wp2_with (first | ((with_reducible refine gate_dst (N := 2) rfl ?_); refine box_event ?hg (N := 2) ?hd (cs := #[.bool a0_0, .slice A0_1 l0_1.length c0_1, .slice A0_2 l0_2.length c0_2]) (t := 67) ?hr ?_; (case hd => rfl); (case hg => rfl); (case hr => first | (go_simp; done) | (go_simp; rfl)); intro ae hg hJ hbox hb; replace al := ke al hg hb; replace an := ke an hg hb; replace ao := ke ao hg hb; replace ap := ke ap hg hb; have aa := am (hbox); have bi := ng hg (bu HB.out); have af := ng hg (bu HB.out); replace HB := be HB hb; clear hb hbox hg) | ((with_reducible refine gate_dst (N := 3) rfl ?_); refine box_event ?hg (N := 3) ?hd (cs := #[.bool a1_0, .slice A1_1 l1_1.length c1_1, .slice A1_2 l1_2.length c1_2]) (t := 67) ?hr ?_; (case hd => rfl); (case hg => rfl); (case hr => first | (go_simp; done) | (go_simp; rfl)); intro ag hg hL hbox hb; replace al := ke al hg hb; replace an := ke an hg hb; replace ao := ke ao hg hb; replace ap := ke ap hg hb; have ab := am (hbox); have bj := ng hg (bu1 HB.out af.out); have aj := ng hg (bu1 HB.out af.out); replace HB := be1 HB af hb; have aG := nl hg aa; have aH := nr hg aa; replace aa := kb aa hb; clear hb hbox hg) | ((with_reducible refine gate_dst (N := 4) rfl ?_); refine box_event ?hg (N := 4) ?hd (cs := #[.bool false, .slice none 0 0, .slice none 0 0]) (t := 67) ?hr ?_; (case hd => rfl); (case hg => rfl); (case hr => first | (go_simp; done) | (go_simp; rfl)); intro ad hg hM hbox hb; replace al := ke al hg hb; replace an := ke an hg hb; replace ao := ke ao hg hb; replace ap := ke ap hg hb; have ac := am (hbox); have bk := ng hg (bu2 HB.out af.out aj.out); have aq := ng hg (bu2 HB.out af.out aj.out); replace HB := be2 HB af aj hb; have ai := nl hg aa; have az := nr hg aa; replace aa := kb aa hb; have aw := nl hg ab; have aA := nr hg ab; replace ab := kb ab hb; clear hb hbox hg; have gX := aG.out; have gY := aH.out; have gZ := ai.out; have g0 := az.out; obtain ⟨eY, eZ, e0, e1, e2, e3⟩ := bz aa) | ((with_reducible refine gate_callee (f := 88) rfl ?_); refine goesL_ (some 9) rfl rfl Try.func88 (by kernel_rfl) rfl #[.agg #[.bool a0_0, .slice A0_1 l0_1.length c0_1, .slice A0_2 l0_2.length c0_2]] rfl lu ?_; (with_reducible refine (codewrightref02_Trim.calls k a0_0 (fun k_ => (((((P0_1_ k_ ∨ P0_2_ k_ ∨ P1_1_ k_ ∨ P1_2_ k_) ∨ w.heap.size ≤ k_) ∧ k_ ≠ ae) ∧ k_ ≠ ag) ∧ k_ ≠ ad)) _ _ l0_1 (fun k_ => (((((P0_1_ k_ ∨ P0_2_ k_ ∨ P1_1_ k_ ∨ P1_2_ k_) ∨ w.heap.size ≤ k_) ∧ k_ ≠ ae) ∧ k_ ≠ ag) ∧ k_ ≠ ad)) _ _ l0_2 aE aF aC _ ?side1 ?side2 A3.out).mono ?_); (case side1 => exact vz al.out); (case side2 => exact vz an.out); rintro e hp ⟨bD, bE, rfl, aD, aP, hb⟩; refine ⟨_, rfl, ?_⟩; replace al := kv al hb; replace an := kv an hb; replace ao := kv ao hb; replace ap := kv ap hb; have ak := ar w.heap.size (ok' := fun k_ => ((P0_1_ k_ ∨ P0_2_ k_ ∨ P1_1_ k_ ∨ P1_2_ k_) ∨ w.heap.size ≤ k_) ∧ k_ ≠ ae ∧ k_ ≠ ag ∧ k_ ≠ ad) aD (fa (fz3 HB af aj aq) (fa (fb aa) (fa (fb ab) (fb ac)))); have ah := ar w.heap.size (ok' := fun k_ => ((P0_1_ k_ ∨ P0_2_ k_ ∨ P1_1_ k_ ∨ P1_2_ k_) ∨ w.heap.size ≤ k_) ∧ k_ ≠ ae ∧ k_ ≠ ag ∧ k_ ≠ ad) aP (fa (fz3 HB af aj aq) (fa (fb aa) (fa (fb ab) (fb ac)))); replace aa := kb aa hb; replace ab := kb ab hb; replace ac := kb ac hb; replace HB := be3 HB af aj aq hb; (try clear hb); (try clear aD); (try clear aP); obtain ⟨e4, e5, e6, e7, e8, e9⟩ := bz aa; obtain ⟨bg, bh, gs⟩ := Kd.V_slice ak.out; subst gs; obtain ⟨a8, a9, gt⟩ := Kd.V_slice ah.out; subst gt) | ((with_reducible refine gate_store (t := 67) (p := 2) rfl ?_); refine store_event (t := 67) (p := 2) (v := ?vo_w64) (w1 := (((hp.setCell ⟨ae, 0, none⟩ (.bool aE)).setCell ⟨ae, 1, none⟩ (.slice bg aF.length bh)).setCell ⟨ae, 2, none⟩ (.slice a8 aC.length a9))) ?hg ?ho ?hn ?hr ?_; (case ho => rfl); (case hg => rfl); (case hn => rfl); (case hr => first | (go_simp; done) | (go_simp; rfl)); intro bx hw; have bF : Aside0 (Kd.V (Kd.int .u32) 48 bx w.heap.size (fun k_ => ((P0_1_ k_ ∨ P0_2_ k_ ∨ P1_1_ k_ ∨ P1_2_ k_) ∨ w.heap.size ≤ k_) ∧ k_ ≠ ae ∧ k_ ≠ ag ∧ k_ ≠ ad) (.slice A0_1 l0_1.length c0_1) l0_1) := ⟨(by rw [hw]; exact vf al.out)⟩; have bG : Aside0 (Kd.V (Kd.int .u32) 48 bx w.heap.size (fun k_ => ((P0_1_ k_ ∨ P0_2_ k_ ∨ P1_1_ k_ ∨ P1_2_ k_) ∨ w.heap.size ≤ k_) ∧ k_ ≠ ae ∧ k_ ≠ ag ∧ k_ ≠ ad) (.slice A0_2 l0_2.length c0_2) l0_2) := ⟨(by rw [hw]; exact vf an.out)⟩; have bH : Aside0 (Kd.V (Kd.int .u32) 48 bx w.heap.size (fun k_ => ((P0_1_ k_ ∨ P0_2_ k_ ∨ P1_1_ k_ ∨ P1_2_ k_) ∨ w.heap.size ≤ k_) ∧ k_ ≠ ae ∧ k_ ≠ ag ∧ k_ ≠ ad) (.slice A1_1 l1_1.length c1_1) l1_1) := ⟨(by rw [hw]; exact vf ao.out)⟩; have bI : Aside0 (Kd.V (Kd.int .u32) 48 bx w.heap.size (fun k_ => ((P0_1_ k_ ∨ P0_2_ k_ ∨ P1_1_ k_ ∨ P1_2_ k_) ∨ w.heap.size ≤ k_) ∧ k_ ≠ ae ∧ k_ ≠ ag ∧ k_ ≠ ad) (.slice A1_2 l1_2.length c1_2) l1_2) := ⟨(by rw [hw]; exact vf ap.out)⟩; have bJ : Aside0 (Kd.V (Kd.int .u32) 48 bx w.heap.size (fun k_ => ((P0_1_ k_ ∨ P0_2_ k_ ∨ P1_1_ k_ ∨ P1_2_ k_) ∨ w.heap.size ≤ k_) ∧ k_ ≠ ae ∧ k_ ≠ ag ∧ k_ ≠ ad) (.slice bg aF.length bh) aF) := ⟨(by rw [hw]; exact vf ak.out)⟩; have bK : Aside0 (Kd.V (Kd.int .u32) 48 bx w.heap.size (fun k_ => ((P0_1_ k_ ∨ P0_2_ k_ ∨ P1_1_ k_ ∨ P1_2_ k_) ∨ w.heap.size ≤ k_) ∧ k_ ≠ ae ∧ k_ ≠ ag ∧ k_ ≠ ad) (.slice a8 aC.length a9) aC) := ⟨(by rw [hw]; exact vf ah.out)⟩; have bL : Aside0 (bx.heap[ae]? = some (.cells #[.bool aE, .slice bg aF.length bh, .slice a8 aC.length a9] 67 (0, 0))) := ⟨(by rw [hw]; exact (kp aa.out))⟩; have bM : Aside0 (bx.heap[ag]? = some (.cells #[.bool a1_0, .slice A1_1 l1_1.length c1_1, .slice A1_2 l1_2.length c1_2] 67 (0, 0))) := ⟨(by rw [hw]; exact (kf aH.out ab.out))⟩; have bN : Aside0 (bx.heap[ad]? = some (.cells #[.bool false, .slice none 0 0, .slice none 0 0] 67 (0, 0))) := ⟨(by rw [hw]; exact (kf az.out ac.out))⟩; have bO : Aside0 (Below w.heap.size w bx) := ⟨(by rw [hw]; exact (bu3 HB.out af.out aj.out aq.out))⟩; clear hw al an ao ap ak ah aa ab ac HB; have al := bF; have an := bG; have ao := bH; have ap := bI; have ak := bJ; have ah := bK; have aa := bL; have ab := bM; have ac := bN; have HB := bO; clear bF bG bH bI bJ bK bL bM bN bO; have g1 := aw.out; have g2 := aA.out; obtain ⟨fc, fd, fe, ff, fg, fh⟩ := bz ab) | ((with_reducible refine gate_callee (f := 88) rfl ?_); refine goesL_ (some 11) rfl rfl Try.func88 (by kernel_rfl) rfl #[.agg #[.bool a1_0, .slice A1_1 l1_1.length c1_1, .slice A1_2 l1_2.length c1_2]] rfl lu ?_; (with_reducible refine (codewrightref02_Trim.calls k a1_0 (fun k_ => (((P0_1_ k_ ∨ P0_2_ k_ ∨ P1_1_ k_ ∨ P1_2_ k_) ∨ w.heap.size ≤ k_) ∧ (k_ ≠ ae ∧ (k_ ≠ ag ∧ k_ ≠ ad)))) _ _ l1_1 (fun k_ => (((P0_1_ k_ ∨ P0_2_ k_ ∨ P1_1_ k_ ∨ P1_2_ k_) ∨ w.heap.size ≤ k_) ∧ (k_ ≠ ae ∧ (k_ ≠ ag ∧ k_ ≠ ad)))) _ _ l1_2 aL aN aI _ ?side1 ?side2 A4.out).mono ?_); (case side1 => exact vz ao.out); (case side2 => exact vz ap.out); rintro e hN ⟨bP, bQ, rfl, aD, aP, hb⟩; refine ⟨_, rfl, ?_⟩; replace al := kv al hb; replace an := kv an hb; replace ao := kv ao hb; replace ap := kv ap hb; replace ak := kv ak hb; replace ah := kv ah hb; have av := ar w.heap.size (ok' := fun k_ => ((P0_1_ k_ ∨ P0_2_ k_ ∨ P1_1_ k_ ∨ P1_2_ k_) ∨ w.heap.size ≤ k_) ∧ k_ ≠ ae ∧ k_ ≠ ag ∧ k_ ≠ ad) aD (fa (fz3 HB af aj aq) (fa (fb aa) (fa (fb ab) (fb ac)))); have au := ar w.heap.size (ok' := fun k_ => ((P0_1_ k_ ∨ P0_2_ k_ ∨ P1_1_ k_ ∨ P1_2_ k_) ∨ w.heap.size ≤ k_) ∧ k_ ≠ ae ∧ k_ ≠ ag ∧ k_ ≠ ad) aP (fa (fz3 HB af aj aq) (fa (fb aa) (fa (fb ab) (fb ac)))); replace aa := kb aa hb; replace ab := kb ab hb; replace ac := kb ac hb; replace HB := be3 HB af aj aq hb; (try clear hb); (try clear aD); (try clear aP); obtain ⟨fi, fj, fk, fl, fm, fn⟩ := bz ab; obtain ⟨cn, co, gu⟩ := Kd.V_slice av.out; subst gu; obtain ⟨ca, cb, gv⟩ := Kd.V_slice au.out; subst gv; obtain ⟨fp, fq, fr, ft, fu, fv⟩ := bz aa) | ((with_reducible refine gate_callee (f := 57) rfl ?_); refine goesL_ (some 16) rfl rfl Try.func57 (by kernel_rfl) rfl #[.slice bg aF.length bh, .slice ca aI.length cb] rfl lu ?_; (with_reducible refine (codewrightref01_Mul.calls k _ _ aF _ _ aI aJ _ ?side1 ?side2 ?side3 ?side4 A5.out).mono ?_); (case side1 => exact vr ak.out); (case side2 => exact (Kd.V_reads' ak.out).2.1); (case side3 => exact vr au.out); (case side4 => exact (Kd.V_reads' au.out).2.1); rintro e hO ⟨bR, rfl, aD, hb⟩; refine ⟨_, rfl, ?_⟩; replace aD := R_V_base rfl aD; replace al := kx al hb; replace an := kx an hb; replace ao := kx ao hb; replace ap := kx ap hb; replace ak := kx ak hb; replace ah := kx ah hb; replace av := kx av hb; replace au := kx au hb; have ax := ar0 w.heap.size (ok' := fun k_ => ((P0_1_ k_ ∨ P0_2_ k_ ∨ P1_1_ k_ ∨ P1_2_ k_) ∨ w.heap.size ≤ k_) ∧ k_ ≠ ae ∧ k_ ≠ ag ∧ k_ ≠ ad) aD (fa (fz3 HB af aj aq) (fa (fs aa) (fa (fs ab) (fs ac)))); replace aa := am (blk_below (g := ae) (o := .cells #[.bool aE, .slice bg aF.length bh, .slice a8 aC.length a9] 67 (0, 0)) (kf aG.out aa.out) hb); replace ab := am (blk_below (g := ag) (o := .cells #[.bool aL, .slice cn aN.length co, .slice ca aI.length cb] 67 (0, 0)) (kp ab.out) hb); replace ac := am (blk_below (g := ad) (o := .cells #[.bool false, .slice none 0 0, .slice none 0 0] 67 (0, 0)) (kf aA.out ac.out) hb); replace HB := be3 HB af aj aq hb; (try clear hb); (try clear aD); obtain ⟨fw, fx, fy, fz, fA, fB⟩ := bz ab; obtain ⟨fC, fD, fE, fF, fG, fH⟩ := bz aa) | ((with_reducible refine gate_callee (f := 57) rfl ?_); refine goesL_ (some 21) rfl rfl Try.func57 (by kernel_rfl) rfl #[.slice cn aN.length co, .slice a8 aC.length a9] rfl lu ?_; (with_reducible refine (codewrightref01_Mul.calls k _ _ aN _ _ aC aK _ ?side1 ?side2 ?side3 ?side4 A6.out).mono ?_); (case side1 => exact cu (Kd.V_reads' av.out).2.2); (case side2 => exact (Kd.V_reads' av.out).2.1); (case side3 => exact cu (Kd.V_reads' ah.out).2.2); (case side4 => exact (Kd.V_reads' ah.out).2.1); rintro e hP ⟨bS, rfl, aD, hb⟩; refine ⟨_, rfl, ?_⟩; replace aD := R_V_base rfl aD; replace al := kv al hb; replace an := kv an hb; replace ao := kv ao hb; replace ap := kv ap hb; replace ak := kv ak hb; replace ah := kv ah hb; replace av := kv av hb; replace au := kv au hb; replace ax := kv ax hb; have ay := ar0 w.heap.size (ok' := fun k_ => ((P0_1_ k_ ∨ P0_2_ k_ ∨ P1_1_ k_ ∨ P1_2_ k_) ∨ w.heap.size ≤ k_) ∧ k_ ≠ ae ∧ k_ ≠ ag ∧ k_ ≠ ad) aD (fa (fz3 HB af aj aq) (fa (fb aa) (fa (fb ab) (fb ac)))); replace aa := kb aa hb; replace ab := kb ab hb; replace ac := kb ac hb; replace HB := be3 HB af aj aq hb; (try clear hb); (try clear aD); obtain ⟨fI, fJ, fK, fL, fM, fN⟩ := bz aa; obtain ⟨fO, fP, fQ, fR, fS, fT⟩ := bz ab) | ((with_reducible refine gate_callee (f := 57) rfl ?_); refine goesL_ (some 26) rfl rfl Try.func57 (by kernel_rfl) rfl #[.slice a8 aC.length a9, .slice ca aI.length cb] rfl lu ?_; (with_reducible refine (codewrightref01_Mul.calls k _ _ aC _ _ aI aM _ ?side1 ?side2 ?side3 ?side4 A7.out).mono ?_); (case side1 => exact cu (Kd.V_reads' ah.out).2.2); (case side2 => exact (Kd.V_reads' ah.out).2.1); (case side3 => exact cu (Kd.V_reads' au.out).2.2); (case side4 => exact (Kd.V_reads' au.out).2.1); rintro e hQ ⟨bT, rfl, aD, hb⟩; refine ⟨_, rfl, ?_⟩; replace aD := R_V_base rfl aD; replace al := kv al hb; replace an := kv an hb; replace ao := kv ao hb; replace ap := kv ap hb; replace ak := kv ak hb; replace ah := kv ah hb; replace av := kv av hb; replace au := kv au hb; replace ax := kv ax hb; replace ay := kv ay hb; have aB := ar0 w.heap.size (ok' := fun k_ => ((P0_1_ k_ ∨ P0_2_ k_ ∨ P1_1_ k_ ∨ P1_2_ k_) ∨ w.heap.size ≤ k_) ∧ k_ ≠ ae ∧ k_ ≠ ag ∧ k_ ≠ ad) aD (fa (fz3 HB af aj aq) (fa (fb aa) (fa (fb ab) (fb ac)))); replace aa := kb aa hb; replace ab := kb ab hb; replace ac := kb ac hb; replace HB := be3 HB af aj aq hb; (try clear hb); (try clear aD); obtain ⟨fU, fV, fW, fX, fY, fZ⟩ := bz aa; obtain ⟨f1, f2, f3, f4, f5, f6⟩ := bz ab; obtain ⟨cp, cq, gw⟩ := Kd.V_slice ax.out; subst gw; obtain ⟨cr, ct, gx⟩ := Kd.V_slice ay.out; subst gx) | ((with_reducible refine gate_callee (f := 59) rfl ?_); refine goesL_ (some 41) rfl rfl Try.func59 (by kernel_rfl) rfl #[.slice cp aJ.length cq, .slice cr aK.length ct] rfl lu ?_; (with_reducible refine (codewrightref01_Cmp.calls k _ _ aJ _ _ aK aR _ ?side1 ?side2 ?side3 ?side4 gW.out).mono ?_); (case side1 => exact cu (Kd.V_reads' ax.out).2.2); (case side2 => exact (Kd.V_reads' ax.out).2.1); (case side3 => exact cu (Kd.V_reads' ay.out).2.2); (case side4 => exact (Kd.V_reads' ay.out).2.1); rintro e hq ⟨rfl, hb⟩; refine ⟨_, rfl, ?_⟩; replace al := kv al hb; replace an := kv an hb; replace ao := kv ao hb; replace ap := kv ap hb; replace ak := kv ak hb; replace ah := kv ah hb; replace av := kv av hb; replace au := kv au hb; replace ax := kv ax hb; replace ay := kv ay hb; replace aB := kv aB hb; replace aa := kb aa hb; replace ab := kb ab hb; replace ac := kb ac hb; replace HB := be3 HB af aj aq hb; (try clear hb)))
   replace al := am (Kd.V_drew al.out)
   replace an := am (Kd.V_drew an.out)
   replace ao := am (Kd.V_drew ao.out)
   replace ap := am (Kd.V_drew ap.out)
   replace ak := am (Kd.V_drew ak.out)
   replace ah := am (Kd.V_drew ah.out)
   replace av := am (Kd.V_drew av.out)
   replace au := am (Kd.V_drew au.out)
   replace ax := am (Kd.V_drew ax.out)
   replace ay := am (Kd.V_drew ay.out)
   replace aB := am (Kd.V_drew aB.out)
   replace aa := am (blk_drew aa.out)
   replace ab := am (blk_drew ab.out)
   replace ac := am (blk_drew ac.out)
   replace HB := am (below_drew1 HB.out)
   refine start_ (n := 8) (S := fun w' => w'.cell? ⟨ae, 0, none⟩ = some (.bool aE) ∧ w'.cell? ⟨ae, 1, none⟩ = some (.slice bg aF.length bh) ∧ w'.cell? ⟨ae, 2, none⟩ = some (.slice a8 aC.length a9)) (ds := []) #[false, false, false, false, false, false, false, false] (by kernel_rfl) rfl rfl ⟨bc aa 0, bc aa 1, bc aa 2⟩ (fun hHeld => ?_); refine with_tabW codewrightref02_Add.tab9 codewrightref02_Add.bits9 (fun HT_ HW_ => ?_)
   generalize hq.drew = hR at al an ao ap ak ah av au ax ay aB aa ab ac HB hHeld ⊢
   refine pq 0 (some 43) #[true, false, false, false, false, false, false, false] HT_ ?_
   refine pq 2 (some 45) #[true, false, true, false, false, false, false, false] HT_ ?_
   refine pq 3 (some 46) #[true, false, true, true, false, false, false, false] HT_ ?_
   refine pq 5 (some 48) #[true, false, true, true, false, true, false, false] HT_ ?_
   refine tq 1 (some 44) #[true, true, true, true, false, true, false, false] HT_ HW_ hHeld ?_
   refine one_ (i := 4) (N := some 47) #[true, true, true, true, true, true, false, false] rfl rfl (one_of HT_.out (by kernel_rfl)) (by decide) (fun K hK => ?_)
   refine goes_ Try.func166 (by kernel_rfl) rfl #[.slice cp aJ.length cq, .slice cr aK.length ct] (by rfl) rfl rfl lu ?_
   with_reducible refine (codewrightref01_Sub.calls k _ _ aJ _ _ aK aZ _ ?side1 ?side2 ?side3 ?side4 hl.out).mono ?_
   (case side1 => exact cu (Kd.V_reads' ax.out).2.2)
   (case side2 => exact (Kd.V_reads' ax.out).2.1)
   (case side3 => exact cu (Kd.V_reads' ay.out).2.2)
   (case side4 => exact (Kd.V_reads' ay.out).2.1)
   rintro e hS ⟨g3, rfl, aD, hb⟩
   refine ⟨_, rfl, ?_⟩
   replace aD := R_V_base rfl aD
   replace al := kv al hb
   replace an := kv an hb
   replace ao := kv ao hb
   replace ap := kv ap hb
   replace ak := kv ak hb
   replace ah := kv ah hb
   replace av := kv av hb
   replace au := kv au hb
   replace ax := kv ax hb
   replace ay := kv ay hb
   replace aB := kv aB hb
   have aW := ar0 w.heap.size (ok' := fun k_ => ((P0_1_ k_ ∨ P0_2_ k_ ∨ P1_1_ k_ ∨ P1_2_ k_) ∨ w.heap.size ≤ k_) ∧ k_ ≠ ae ∧ k_ ≠ ag ∧ k_ ≠ ad) aD (fa (fz3 HB af aj aq) (fa (fb aa) (fa (fb ab) (fb ac))))
   replace aa := kb aa hb
   replace ab := kb ab hb
   replace ac := kb ac hb
   replace HB := be3 HB af aj aq hb
   (try clear hb)
   (try clear hb2)
   (try clear hk)
   (try clear hi)
   (try clear aD)
   obtain ⟨gy, gz, cv⟩ := Kd.V_slice aW.out
   (first | subst cv | (injection cv with f1_ f2_ f3_; have f4_ := f1_.symm; have f5_ := f3_.symm; clear f1_ f2_ f3_; subst f4_; subst f5_))
   obtain ⟨gA, gB, cw⟩ := Kd.V_slice aB.out
   (first | subst cw | (injection cw with f1_ f2_ f3_; have f4_ := f1_.symm; have f5_ := f3_.symm; clear f1_ f2_ f3_; subst f4_; subst f5_))
   refine hK.out _ _ ⟨bc aa 0, bc aa 1, bc aa 2⟩ (fun hHeld => ?_)
   clear hK K
   refine nq 47 ?_
   refine one_ (i := 6) (N := some 49) #[true, true, true, true, true, true, true, false] rfl rfl (one_of HT_.out (by kernel_rfl)) (by decide) (fun K hK => ?_)
   refine goes_ Try.func80 (by kernel_rfl) rfl #[.bool aE, .slice gy aZ.length gz, .slice gA aM.length gB] (by rfl) rfl rfl lu ?_
   with_reducible refine (codewrightref02_Make.calls k aE (fun k_ => (((P0_1_ k_ ∨ P0_2_ k_ ∨ P1_1_ k_ ∨ P1_2_ k_) ∨ w.heap.size ≤ k_) ∧ (k_ ≠ ae ∧ (k_ ≠ ag ∧ k_ ≠ ad)))) _ _ aZ (fun k_ => (((P0_1_ k_ ∨ P0_2_ k_ ∨ P1_1_ k_ ∨ P1_2_ k_) ∨ w.heap.size ≤ k_) ∧ (k_ ≠ ae ∧ (k_ ≠ ag ∧ k_ ≠ ad)))) _ _ aM bU bV bW _ ?side1 ?side2 hm.out).mono ?_
   (case side1 => exact vz aW.out)
   (case side2 => exact vz aB.out)
   rintro e gC ⟨g4, g5, rfl, aD, aP, hb⟩
   refine ⟨_, rfl, ?_⟩
   replace al := kv al hb
   replace an := kv an hb
   replace ao := kv ao hb
   replace ap := kv ap hb
   replace ak := kv ak hb
   replace ah := kv ah hb
   replace av := kv av hb
   replace au := kv au hb
   replace ax := kv ax hb
   replace ay := kv ay hb
   replace aB := kv aB hb
   replace aW := kv aW hb
   have bn := ar w.heap.size (ok' := fun k_ => ((P0_1_ k_ ∨ P0_2_ k_ ∨ P1_1_ k_ ∨ P1_2_ k_) ∨ w.heap.size ≤ k_) ∧ k_ ≠ ae ∧ k_ ≠ ag ∧ k_ ≠ ad) aD (fa (fz3 HB af aj aq) (fa (fb aa) (fa (fb ab) (fb ac))))
   have bo := ar w.heap.size (ok' := fun k_ => ((P0_1_ k_ ∨ P0_2_ k_ ∨ P1_1_ k_ ∨ P1_2_ k_) ∨ w.heap.size ≤ k_) ∧ k_ ≠ ae ∧ k_ ≠ ag ∧ k_ ≠ ad) aP (fa (fz3 HB af aj aq) (fa (fb aa) (fa (fb ab) (fb ac))))
   replace aa := kb aa hb
   replace ab := kb ab hb
   replace ac := kb ac hb
   replace HB := be3 HB af aj aq hb
   (try clear hb)
   (try clear hb2)
   (try clear hk)
   (try clear hi)
   (try clear aD)
   (try clear aP)
   obtain ⟨gD, gE, cx⟩ := Kd.V_slice bn.out
   (first | subst cx | (injection cx with f1_ f2_ f3_; have f4_ := f1_.symm; have f5_ := f3_.symm; clear f1_ f2_ f3_; subst f4_; subst f5_))
   obtain ⟨gF, gG, cy⟩ := Kd.V_slice bo.out
   (first | subst cy | (injection cy with f1_ f2_ f3_; have f4_ := f1_.symm; have f5_ := f3_.symm; clear f1_ f2_ f3_; subst f4_; subst f5_))
   refine hK.out _ _ ⟨bc aa 0, bc aa 1, bc aa 2⟩ (fun hHeld => ?_)
   clear hK K
   refine nq 49 ?_
   refine one_ (i := 7) (N := none) #[true, true, true, true, true, true, true, true] rfl rfl (one_of HT_.out (by kernel_rfl)) (by decide) (fun K hK => ?_)
   have hs89 : gC.cell? ⟨ad, 0, none⟩ = some (.bool false) := bc ac 0
   have hfs89 := blk_frozen ac.out 0
   have hns89_0 := ai.out
   have hns89_1 := aw.out
   have hms89_0 := az.out
   have hms89_1 := aA.out
   have hs91 : gC.cell? ⟨ad, 1, none⟩ = some (.slice none 0 0) := bc ac 1
   have hfs91 := blk_frozen ac.out 1
   have hns91_0 := ai.out
   have hns91_1 := aw.out
   have hms91_0 := az.out
   have hms91_1 := aA.out
   have hs93 : gC.cell? ⟨ad, 2, none⟩ = some (.slice none 0 0) := bc ac 2
   have hfs93 := blk_frozen ac.out 2
   have hns93_0 := ai.out
   have hns93_1 := aw.out
   have hms93_0 := az.out
   have hms93_1 := aA.out
   refine skip_ (w1 := ?_) (by rfl) rfl ?_ ?_
   rotate_left
   ·
    go_simp
    rfl
   refine hK.out _ _ ⟨((cell_far (p := ⟨ad, _, none⟩) ai.out _).trans (((cell_far (p := ⟨ad, _, none⟩) ai.out _).trans (((cell_far (p := ⟨ad, _, none⟩) ai.out _).trans (hHeld.1)))))), ((cell_far (p := ⟨ad, _, none⟩) ai.out _).trans (((cell_far (p := ⟨ad, _, none⟩) ai.out _).trans (((cell_far (p := ⟨ad, _, none⟩) ai.out _).trans (hHeld.2.1)))))), ((cell_far (p := ⟨ad, _, none⟩) ai.out _).trans (((cell_far (p := ⟨ad, _, none⟩) ai.out _).trans (((cell_far (p := ⟨ad, _, none⟩) ai.out _).trans (hHeld.2.2))))))⟩ (fun hHeld => ?_)
   clear hK K
   refine done_ (done_of HT_.out (by kernel_rfl)) ?_
   try go_wp2
   refine bodyPost_ret (results_cell_row rfl _ _ ad 67 #[.bool bU, .slice gD bV.length gE, .slice gF bW.length gG] (0, 0) _ rfl (kp ac.out) Try.underlying67 rfl (by kernel_rfl)) rfl ?_
   exact ⟨_, _, by first | rfl | (simp [errW_none, errW_some] <;> rfl) | (simp [*, errW_none, errW_some] <;> rfl), by exact vf bn.out, by exact vf bo.out, by repeat (first | (with_reducible first | exact HB.out | apply below_alloc | apply pw_below_drewN | apply below_drew1 | refine below_set ?_ af.out | refine below_set ?_ aj.out | refine below_set ?_ aq.out) | exact HB.out)⟩
  ·
   rw [if_neg cd] at H
   have cm : decide (0 ≤ aR) = false := decide_eq_false cd
   clear cd
   obtain ⟨a0, hs, H⟩ := bs H
   (try dsimp -simprocs only at H)
   obtain ⟨⟨bX, bY, bZ⟩, ht, H⟩ := bs H
   (try dsimp -simprocs only at H)
   simp only [Option.some.injEq, Prod.mk.injEq] at H
   obtain ⟨rfl, rfl, rfl⟩ := H
   go_enter Try.func100, Try.ntmps100
   try go_wp2_with (first | ((with_reducible refine gate_dst (N := 2) rfl ?_); refine box_event ?hg (N := 2) ?hd (cs := #[.bool a0_0, .slice A0_1 l0_1.length c0_1, .slice A0_2 l0_2.length c0_2]) (t := 67) ?hr ?_; (case hd => rfl); (case hg => rfl); (case hr => first | (go_simp; done) | (go_simp; rfl)); intro ae hg hT hbox hb; replace al := ke al hg hb; replace an := ke an hg hb; replace ao := ke ao hg hb; replace ap := ke ap hg hb; have aa := am (hbox); have bi := ng hg (bu HB.out); have af := ng hg (bu HB.out); replace HB := be HB hb; clear hb hbox hg) | ((with_reducible refine gate_dst (N := 3) rfl ?_); refine box_event ?hg (N := 3) ?hd (cs := #[.bool a1_0, .slice A1_1 l1_1.length c1_1, .slice A1_2 l1_2.length c1_2]) (t := 67) ?hr ?_; (case hd => rfl); (case hg => rfl); (case hr => first | (go_simp; done) | (go_simp; rfl)); intro ag hg hU hbox hb; replace al := ke al hg hb; replace an := ke an hg hb; replace ao := ke ao hg hb; replace ap := ke ap hg hb; have ab := am (hbox); have bj := ng hg (bu1 HB.out af.out); have aj := ng hg (bu1 HB.out af.out); replace HB := be1 HB af hb; have aG := nl hg aa; have aH := nr hg aa; replace aa := kb aa hb; clear hb hbox hg) | ((with_reducible refine gate_dst (N := 4) rfl ?_); refine box_event ?hg (N := 4) ?hd (cs := #[.bool false, .slice none 0 0, .slice none 0 0]) (t := 67) ?hr ?_; (case hd => rfl); (case hg => rfl); (case hr => first | (go_simp; done) | (go_simp; rfl)); intro ad hg hV hbox hb; replace al := ke al hg hb; replace an := ke an hg hb; replace ao := ke ao hg hb; replace ap := ke ap hg hb; have ac := am (hbox); have bk := ng hg (bu2 HB.out af.out aj.out); have aq := ng hg (bu2 HB.out af.out aj.out); replace HB := be2 HB af aj hb; have ai := nl hg aa; have az := nr hg aa; replace aa := kb aa hb; have aw := nl hg ab; have aA := nr hg ab; replace ab := kb ab hb; clear hb hbox hg; have g6 := aG.out; have g7 := aH.out; have gH := ai.out; have gI := az.out; obtain ⟨cz, cA, cB, cC, cD, cE⟩ := bz aa) | ((with_reducible refine gate_callee (f := 88) rfl ?_); refine goesL_ (some 9) rfl rfl Try.func88 (by kernel_rfl) rfl #[.agg #[.bool a0_0, .slice A0_1 l0_1.length c0_1, .slice A0_2 l0_2.length c0_2]] rfl lu ?_; (with_reducible refine (codewrightref02_Trim.calls k a0_0 (fun k_ => (((((P0_1_ k_ ∨ P0_2_ k_ ∨ P1_1_ k_ ∨ P1_2_ k_) ∨ w.heap.size ≤ k_) ∧ k_ ≠ ae) ∧ k_ ≠ ag) ∧ k_ ≠ ad)) _ _ l0_1 (fun k_ => (((((P0_1_ k_ ∨ P0_2_ k_ ∨ P1_1_ k_ ∨ P1_2_ k_) ∨ w.heap.size ≤ k_) ∧ k_ ≠ ae) ∧ k_ ≠ ag) ∧ k_ ≠ ad)) _ _ l0_2 aE aF aC _ ?side1 ?side2 A3.out).mono ?_); (case side1 => exact vz al.out); (case side2 => exact vz an.out); rintro e gJ ⟨bD, bE, rfl, aD, aP, hb⟩; refine ⟨_, rfl, ?_⟩; replace al := kv al hb; replace an := kv an hb; replace ao := kv ao hb; replace ap := kv ap hb; have ak := ar w.heap.size (ok' := fun k_ => ((P0_1_ k_ ∨ P0_2_ k_ ∨ P1_1_ k_ ∨ P1_2_ k_) ∨ w.heap.size ≤ k_) ∧ k_ ≠ ae ∧ k_ ≠ ag ∧ k_ ≠ ad) aD (fa (fz3 HB af aj aq) (fa (fb aa) (fa (fb ab) (fb ac)))); have ah := ar w.heap.size (ok' := fun k_ => ((P0_1_ k_ ∨ P0_2_ k_ ∨ P1_1_ k_ ∨ P1_2_ k_) ∨ w.heap.size ≤ k_) ∧ k_ ≠ ae ∧ k_ ≠ ag ∧ k_ ≠ ad) aP (fa (fz3 HB af aj aq) (fa (fb aa) (fa (fb ab) (fb ac)))); replace aa := kb aa hb; replace ab := kb ab hb; replace ac := kb ac hb; replace HB := be3 HB af aj aq hb; (try clear hb); (try clear aD); (try clear aP); obtain ⟨cF, cG, cH, cI, cJ, cK⟩ := bz aa; obtain ⟨a1, a2, cL⟩ := Kd.V_slice ak.out; subst cL; obtain ⟨aT, aU, cM⟩ := Kd.V_slice ah.out; subst cM) | ((with_reducible refine gate_store (t := 67) (p := 2) rfl ?_); refine store_event (t := 67) (p := 2) (v := ?vo_w106) (w1 := (((gJ.setCell ⟨ae, 0, none⟩ (.bool aE)).setCell ⟨ae, 1, none⟩ (.slice a1 aF.length a2)).setCell ⟨ae, 2, none⟩ (.slice aT aC.length aU))) ?hg ?ho ?hn ?hr ?_; (case ho => rfl); (case hg => rfl); (case hn => rfl); (case hr => first | (go_simp; done) | (go_simp; rfl)); intro aS hw; have bF : Aside0 (Kd.V (Kd.int .u32) 48 aS w.heap.size (fun k_ => ((P0_1_ k_ ∨ P0_2_ k_ ∨ P1_1_ k_ ∨ P1_2_ k_) ∨ w.heap.size ≤ k_) ∧ k_ ≠ ae ∧ k_ ≠ ag ∧ k_ ≠ ad) (.slice A0_1 l0_1.length c0_1) l0_1) := ⟨(by rw [hw]; exact vf al.out)⟩; have bG : Aside0 (Kd.V (Kd.int .u32) 48 aS w.heap.size (fun k_ => ((P0_1_ k_ ∨ P0_2_ k_ ∨ P1_1_ k_ ∨ P1_2_ k_) ∨ w.heap.size ≤ k_) ∧ k_ ≠ ae ∧ k_ ≠ ag ∧ k_ ≠ ad) (.slice A0_2 l0_2.length c0_2) l0_2) := ⟨(by rw [hw]; exact vf an.out)⟩; have bH : Aside0 (Kd.V (Kd.int .u32) 48 aS w.heap.size (fun k_ => ((P0_1_ k_ ∨ P0_2_ k_ ∨ P1_1_ k_ ∨ P1_2_ k_) ∨ w.heap.size ≤ k_) ∧ k_ ≠ ae ∧ k_ ≠ ag ∧ k_ ≠ ad) (.slice A1_1 l1_1.length c1_1) l1_1) := ⟨(by rw [hw]; exact vf ao.out)⟩; have bI : Aside0 (Kd.V (Kd.int .u32) 48 aS w.heap.size (fun k_ => ((P0_1_ k_ ∨ P0_2_ k_ ∨ P1_1_ k_ ∨ P1_2_ k_) ∨ w.heap.size ≤ k_) ∧ k_ ≠ ae ∧ k_ ≠ ag ∧ k_ ≠ ad) (.slice A1_2 l1_2.length c1_2) l1_2) := ⟨(by rw [hw]; exact vf ap.out)⟩; have bJ : Aside0 (Kd.V (Kd.int .u32) 48 aS w.heap.size (fun k_ => ((P0_1_ k_ ∨ P0_2_ k_ ∨ P1_1_ k_ ∨ P1_2_ k_) ∨ w.heap.size ≤ k_) ∧ k_ ≠ ae ∧ k_ ≠ ag ∧ k_ ≠ ad) (.slice a1 aF.length a2) aF) := ⟨(by rw [hw]; exact vf ak.out)⟩; have bK : Aside0 (Kd.V (Kd.int .u32) 48 aS w.heap.size (fun k_ => ((P0_1_ k_ ∨ P0_2_ k_ ∨ P1_1_ k_ ∨ P1_2_ k_) ∨ w.heap.size ≤ k_) ∧ k_ ≠ ae ∧ k_ ≠ ag ∧ k_ ≠ ad) (.slice aT aC.length aU) aC) := ⟨(by rw [hw]; exact vf ah.out)⟩; have bL : Aside0 (aS.heap[ae]? = some (.cells #[.bool aE, .slice a1 aF.length a2, .slice aT aC.length aU] 67 (0, 0))) := ⟨(by rw [hw]; exact (kp aa.out))⟩; have bM : Aside0 (aS.heap[ag]? = some (.cells #[.bool a1_0, .slice A1_1 l1_1.length c1_1, .slice A1_2 l1_2.length c1_2] 67 (0, 0))) := ⟨(by rw [hw]; exact (kf aH.out ab.out))⟩; have bN : Aside0 (aS.heap[ad]? = some (.cells #[.bool false, .slice none 0 0, .slice none 0 0] 67 (0, 0))) := ⟨(by rw [hw]; exact (kf az.out ac.out))⟩; have bO : Aside0 (Below w.heap.size w aS) := ⟨(by rw [hw]; exact (bu3 HB.out af.out aj.out aq.out))⟩; clear hw al an ao ap ak ah aa ab ac HB; have al := bF; have an := bG; have ao := bH; have ap := bI; have ak := bJ; have ah := bK; have aa := bL; have ab := bM; have ac := bN; have HB := bO; clear bF bG bH bI bJ bK bL bM bN bO; have gK := aw.out; have gL := aA.out; obtain ⟨cN, cO, cP, cQ, cR, cS⟩ := bz ab) | ((with_reducible refine gate_callee (f := 88) rfl ?_); refine goesL_ (some 11) rfl rfl Try.func88 (by kernel_rfl) rfl #[.agg #[.bool a1_0, .slice A1_1 l1_1.length c1_1, .slice A1_2 l1_2.length c1_2]] rfl lu ?_; (with_reducible refine (codewrightref02_Trim.calls k a1_0 (fun k_ => (((P0_1_ k_ ∨ P0_2_ k_ ∨ P1_1_ k_ ∨ P1_2_ k_) ∨ w.heap.size ≤ k_) ∧ (k_ ≠ ae ∧ (k_ ≠ ag ∧ k_ ≠ ad)))) _ _ l1_1 (fun k_ => (((P0_1_ k_ ∨ P0_2_ k_ ∨ P1_1_ k_ ∨ P1_2_ k_) ∨ w.heap.size ≤ k_) ∧ (k_ ≠ ae ∧ (k_ ≠ ag ∧ k_ ≠ ad)))) _ _ l1_2 aL aN aI _ ?side1 ?side2 A4.out).mono ?_); (case side1 => exact vz ao.out); (case side2 => exact vz ap.out); rintro e hu ⟨bP, bQ, rfl, aD, aP, hb⟩; refine ⟨_, rfl, ?_⟩; replace al := kv al hb; replace an := kv an hb; replace ao := kv ao hb; replace ap := kv ap hb; replace ak := kv ak hb; replace ah := kv ah hb; have av := ar w.heap.size (ok' := fun k_ => ((P0_1_ k_ ∨ P0_2_ k_ ∨ P1_1_ k_ ∨ P1_2_ k_) ∨ w.heap.size ≤ k_) ∧ k_ ≠ ae ∧ k_ ≠ ag ∧ k_ ≠ ad) aD (fa (fz3 HB af aj aq) (fa (fb aa) (fa (fb ab) (fb ac)))); have au := ar w.heap.size (ok' := fun k_ => ((P0_1_ k_ ∨ P0_2_ k_ ∨ P1_1_ k_ ∨ P1_2_ k_) ∨ w.heap.size ≤ k_) ∧ k_ ≠ ae ∧ k_ ≠ ag ∧ k_ ≠ ad) aP (fa (fz3 HB af aj aq) (fa (fb aa) (fa (fb ab) (fb ac)))); replace aa := kb aa hb; replace ab := kb ab hb; replace ac := kb ac hb; replace HB := be3 HB af aj aq hb; (try clear hb); (try clear aD); (try clear aP); obtain ⟨cT, cU, cV, cW, cX, cY⟩ := bz ab; obtain ⟨bp, bq, cZ⟩ := Kd.V_slice av.out; subst cZ; obtain ⟨ba, bb, c0⟩ := Kd.V_slice au.out; subst c0; obtain ⟨c1, c2, c3, c4, c5, c6⟩ := bz aa) | ((with_reducible refine gate_callee (f := 57) rfl ?_); refine goesL_ (some 16) rfl rfl Try.func57 (by kernel_rfl) rfl #[.slice a1 aF.length a2, .slice ba aI.length bb] rfl lu ?_; (with_reducible refine (codewrightref01_Mul.calls k _ _ aF _ _ aI aJ _ ?side1 ?side2 ?side3 ?side4 A5.out).mono ?_); (case side1 => exact vr ak.out); (case side2 => exact (Kd.V_reads' ak.out).2.1); (case side3 => exact vr au.out); (case side4 => exact (Kd.V_reads' au.out).2.1); rintro e hv ⟨bR, rfl, aD, hb⟩; refine ⟨_, rfl, ?_⟩; replace aD := R_V_base rfl aD; replace al := kx al hb; replace an := kx an hb; replace ao := kx ao hb; replace ap := kx ap hb; replace ak := kx ak hb; replace ah := kx ah hb; replace av := kx av hb; replace au := kx au hb; have ax := ar0 w.heap.size (ok' := fun k_ => ((P0_1_ k_ ∨ P0_2_ k_ ∨ P1_1_ k_ ∨ P1_2_ k_) ∨ w.heap.size ≤ k_) ∧ k_ ≠ ae ∧ k_ ≠ ag ∧ k_ ≠ ad) aD (fa (fz3 HB af aj aq) (fa (fs aa) (fa (fs ab) (fs ac)))); replace aa := am (blk_below (g := ae) (o := .cells #[.bool aE, .slice a1 aF.length a2, .slice aT aC.length aU] 67 (0, 0)) (kf aG.out aa.out) hb); replace ab := am (blk_below (g := ag) (o := .cells #[.bool aL, .slice bp aN.length bq, .slice ba aI.length bb] 67 (0, 0)) (kp ab.out) hb); replace ac := am (blk_below (g := ad) (o := .cells #[.bool false, .slice none 0 0, .slice none 0 0] 67 (0, 0)) (kf aA.out ac.out) hb); replace HB := be3 HB af aj aq hb; (try clear hb); (try clear aD); obtain ⟨c7, c9, da, db, dc, dd⟩ := bz ab; obtain ⟨de, df, dg, dh, di, dj⟩ := bz aa) | ((with_reducible refine gate_callee (f := 57) rfl ?_); refine goesL_ (some 21) rfl rfl Try.func57 (by kernel_rfl) rfl #[.slice bp aN.length bq, .slice aT aC.length aU] rfl lu ?_; (with_reducible refine (codewrightref01_Mul.calls k _ _ aN _ _ aC aK _ ?side1 ?side2 ?side3 ?side4 A6.out).mono ?_); (case side1 => exact cu (Kd.V_reads' av.out).2.2); (case side2 => exact (Kd.V_reads' av.out).2.1); (case side3 => exact cu (Kd.V_reads' ah.out).2.2); (case side4 => exact (Kd.V_reads' ah.out).2.1); rintro e hx ⟨bS, rfl, aD, hb⟩; refine ⟨_, rfl, ?_⟩; replace aD := R_V_base rfl aD; replace al := kv al hb; replace an := kv an hb; replace ao := kv ao hb; replace ap := kv ap hb; replace ak := kv ak hb; replace ah := kv ah hb; replace av := kv av hb; replace au := kv au hb; replace ax := kv ax hb; have ay := ar0 w.heap.size (ok' := fun k_ => ((P0_1_ k_ ∨ P0_2_ k_ ∨ P1_1_ k_ ∨ P1_2_ k_) ∨ w.heap.size ≤ k_) ∧ k_ ≠ ae ∧ k_ ≠ ag ∧ k_ ≠ ad) aD (fa (fz3 HB af aj aq) (fa (fb aa) (fa (fb ab) (fb ac)))); replace aa := kb aa hb; replace ab := kb ab hb; replace ac := kb ac hb; replace HB := be3 HB af aj aq hb; (try clear hb); (try clear aD); obtain ⟨dk, dl, dm, dn, dp, dq⟩ := bz aa; obtain ⟨dr, dt, du, dv, dw, dx⟩ := bz ab) | ((with_reducible refine gate_callee (f := 57) rfl ?_); refine goesL_ (some 26) rfl rfl Try.func57 (by kernel_rfl) rfl #[.slice aT aC.length aU, .slice ba aI.length bb] rfl lu ?_; (with_reducible refine (codewrightref01_Mul.calls k _ _ aC _ _ aI aM _ ?side1 ?side2 ?side3 ?side4 A7.out).mono ?_); (case side1 => exact cu (Kd.V_reads' ah.out).2.2); (case side2 => exact (Kd.V_reads' ah.out).2.1); (case side3 => exact cu (Kd.V_reads' au.out).2.2); (case side4 => exact (Kd.V_reads' au.out).2.1); rintro e hy ⟨bT, rfl, aD, hb⟩; refine ⟨_, rfl, ?_⟩; replace aD := R_V_base rfl aD; replace al := kv al hb; replace an := kv an hb; replace ao := kv ao hb; replace ap := kv ap hb; replace ak := kv ak hb; replace ah := kv ah hb; replace av := kv av hb; replace au := kv au hb; replace ax := kv ax hb; replace ay := kv ay hb; have aB := ar0 w.heap.size (ok' := fun k_ => ((P0_1_ k_ ∨ P0_2_ k_ ∨ P1_1_ k_ ∨ P1_2_ k_) ∨ w.heap.size ≤ k_) ∧ k_ ≠ ae ∧ k_ ≠ ag ∧ k_ ≠ ad) aD (fa (fz3 HB af aj aq) (fa (fb aa) (fa (fb ab) (fb ac)))); replace aa := kb aa hb; replace ab := kb ab hb; replace ac := kb ac hb; replace HB := be3 HB af aj aq hb; (try clear hb); (try clear aD); obtain ⟨dy, dz, dA, dB, dC, dD⟩ := bz aa; obtain ⟨dE, dF, dG, dH, dI, dJ⟩ := bz ab; obtain ⟨b0, b1, dK⟩ := Kd.V_slice ax.out; subst dK; obtain ⟨b2, b3, dL⟩ := Kd.V_slice ay.out; subst dL) | ((with_reducible refine gate_callee (f := 59) rfl ?_); refine goesL_ (some 41) rfl rfl Try.func59 (by kernel_rfl) rfl #[.slice b0 aJ.length b1, .slice b2 aK.length b3] rfl lu ?_; (with_reducible refine (codewrightref01_Cmp.calls k _ _ aJ _ _ aK aR _ ?side1 ?side2 ?side3 ?side4 gW.out).mono ?_); (case side1 => exact cu (Kd.V_reads' ax.out).2.2); (case side2 => exact (Kd.V_reads' ax.out).2.1); (case side3 => exact cu (Kd.V_reads' ay.out).2.2); (case side4 => exact (Kd.V_reads' ay.out).2.1); rintro e gM ⟨rfl, hb⟩; refine ⟨_, rfl, ?_⟩; replace al := kv al hb; replace an := kv an hb; replace ao := kv ao hb; replace ap := kv ap hb; replace ak := kv ak hb; replace ah := kv ah hb; replace av := kv av hb; replace au := kv au hb; replace ax := kv ax hb; replace ay := kv ay hb; replace aB := kv aB hb; replace aa := kb aa hb; replace ab := kb ab hb; replace ac := kb ac hb; replace HB := be3 HB af aj aq hb; (try clear hb)))
   replace al := am (Kd.V_drew al.out)
   replace an := am (Kd.V_drew an.out)
   replace ao := am (Kd.V_drew ao.out)
   replace ap := am (Kd.V_drew ap.out)
   replace ak := am (Kd.V_drew ak.out)
   replace ah := am (Kd.V_drew ah.out)
   replace av := am (Kd.V_drew av.out)
   replace au := am (Kd.V_drew au.out)
   replace ax := am (Kd.V_drew ax.out)
   replace ay := am (Kd.V_drew ay.out)
   replace aB := am (Kd.V_drew aB.out)
   replace aa := am (blk_drew aa.out)
   replace ab := am (blk_drew ab.out)
   replace ac := am (blk_drew ac.out)
   replace HB := am (below_drew1 HB.out)
   refine start_ (n := 8) (S := fun w' => w'.cell? ⟨ag, 0, none⟩ = some (.bool aL) ∧ w'.cell? ⟨ag, 1, none⟩ = some (.slice bp aN.length bq) ∧ w'.cell? ⟨ag, 2, none⟩ = some (.slice ba aI.length bb)) (ds := []) #[false, false, false, false, false, false, false, false] (by kernel_rfl) rfl rfl ⟨bc ab 0, bc ab 1, bc ab 2⟩ (fun hHeld => ?_); refine with_tabW codewrightref02_Add.tab10 codewrightref02_Add.bits10 (fun HT_ HW_ => ?_)
   generalize gM.drew = hz at al an ao ap ak ah av au ax ay aB aa ab ac HB hHeld ⊢
   refine pq 0 (some 50) #[true, false, false, false, false, false, false, false] HT_ ?_
   refine pq 2 (some 52) #[true, false, true, false, false, false, false, false] HT_ ?_
   refine pq 3 (some 53) #[true, false, true, true, false, false, false, false] HT_ ?_
   refine pq 5 (some 55) #[true, false, true, true, false, true, false, false] HT_ ?_
   refine tq 1 (some 51) #[true, true, true, true, false, true, false, false] HT_ HW_ hHeld ?_
   refine one_ (i := 4) (N := some 54) #[true, true, true, true, true, true, false, false] rfl rfl (one_of HT_.out (by kernel_rfl)) (by decide) (fun K hK => ?_)
   refine goes_ Try.func166 (by kernel_rfl) rfl #[.slice b2 aK.length b3, .slice b0 aJ.length b1] (by rfl) rfl rfl lu ?_
   with_reducible refine (codewrightref01_Sub.calls k _ _ aK _ _ aJ a0 _ ?side1 ?side2 ?side3 ?side4 hs.out).mono ?_
   (case side1 => exact cu (Kd.V_reads' ay.out).2.2)
   (case side2 => exact (Kd.V_reads' ay.out).2.1)
   (case side3 => exact cu (Kd.V_reads' ax.out).2.2)
   (case side4 => exact (Kd.V_reads' ax.out).2.1)
   rintro e hA ⟨g8, rfl, aD, hb⟩
   refine ⟨_, rfl, ?_⟩
   replace aD := R_V_base rfl aD
   replace al := kv al hb
   replace an := kv an hb
   replace ao := kv ao hb
   replace ap := kv ap hb
   replace ak := kv ak hb
   replace ah := kv ah hb
   replace av := kv av hb
   replace au := kv au hb
   replace ax := kv ax hb
   replace ay := kv ay hb
   replace aB := kv aB hb
   have aX := ar0 w.heap.size (ok' := fun k_ => ((P0_1_ k_ ∨ P0_2_ k_ ∨ P1_1_ k_ ∨ P1_2_ k_) ∨ w.heap.size ≤ k_) ∧ k_ ≠ ae ∧ k_ ≠ ag ∧ k_ ≠ ad) aD (fa (fz3 HB af aj aq) (fa (fb aa) (fa (fb ab) (fb ac))))
   replace aa := kb aa hb
   replace ab := kb ab hb
   replace ac := kb ac hb
   replace HB := be3 HB af aj aq hb
   (try clear hb)
   (try clear hb2)
   (try clear hk)
   (try clear hi)
   (try clear aD)
   obtain ⟨dM, dN, b4⟩ := Kd.V_slice aX.out
   (first | subst b4 | (injection b4 with f1_ f2_ f3_; have f4_ := f1_.symm; have f5_ := f3_.symm; clear f1_ f2_ f3_; subst f4_; subst f5_))
   obtain ⟨dO, dP, b5⟩ := Kd.V_slice aB.out
   (first | subst b5 | (injection b5 with f1_ f2_ f3_; have f4_ := f1_.symm; have f5_ := f3_.symm; clear f1_ f2_ f3_; subst f4_; subst f5_))
   refine hK.out _ _ ⟨bc ab 0, bc ab 1, bc ab 2⟩ (fun hHeld => ?_)
   clear hK K
   refine nq 54 ?_
   refine one_ (i := 6) (N := some 56) #[true, true, true, true, true, true, true, false] rfl rfl (one_of HT_.out (by kernel_rfl)) (by decide) (fun K hK => ?_)
   refine goes_ Try.func80 (by kernel_rfl) rfl #[.bool aL, .slice dM a0.length dN, .slice dO aM.length dP] (by rfl) rfl rfl lu ?_
   with_reducible refine (codewrightref02_Make.calls k aL (fun k_ => (((P0_1_ k_ ∨ P0_2_ k_ ∨ P1_1_ k_ ∨ P1_2_ k_) ∨ w.heap.size ≤ k_) ∧ (k_ ≠ ae ∧ (k_ ≠ ag ∧ k_ ≠ ad)))) _ _ a0 (fun k_ => (((P0_1_ k_ ∨ P0_2_ k_ ∨ P1_1_ k_ ∨ P1_2_ k_) ∨ w.heap.size ≤ k_) ∧ (k_ ≠ ae ∧ (k_ ≠ ag ∧ k_ ≠ ad)))) _ _ aM bX bY bZ _ ?side1 ?side2 ht.out).mono ?_
   (case side1 => exact vz aX.out)
   (case side2 => exact vz aB.out)
   rintro e cc ⟨g9, ha, rfl, aD, aP, hb⟩
   refine ⟨_, rfl, ?_⟩
   replace al := kv al hb
   replace an := kv an hb
   replace ao := kv ao hb
   replace ap := kv ap hb
   replace ak := kv ak hb
   replace ah := kv ah hb
   replace av := kv av hb
   replace au := kv au hb
   replace ax := kv ax hb
   replace ay := kv ay hb
   replace aB := kv aB hb
   replace aX := kv aX hb
   have br := ar w.heap.size (ok' := fun k_ => ((P0_1_ k_ ∨ P0_2_ k_ ∨ P1_1_ k_ ∨ P1_2_ k_) ∨ w.heap.size ≤ k_) ∧ k_ ≠ ae ∧ k_ ≠ ag ∧ k_ ≠ ad) aD (fa (fz3 HB af aj aq) (fa (fb aa) (fa (fb ab) (fb ac))))
   have bv := ar w.heap.size (ok' := fun k_ => ((P0_1_ k_ ∨ P0_2_ k_ ∨ P1_1_ k_ ∨ P1_2_ k_) ∨ w.heap.size ≤ k_) ∧ k_ ≠ ae ∧ k_ ≠ ag ∧ k_ ≠ ad) aP (fa (fz3 HB af aj aq) (fa (fb aa) (fa (fb ab) (fb ac))))
   replace aa := kb aa hb
   replace ab := kb ab hb
   replace ac := kb ac hb
   replace HB := be3 HB af aj aq hb
   (try clear hb)
   (try clear hb2)
   (try clear hk)
   (try clear hi)
   (try clear aD)
   (try clear aP)
   obtain ⟨dQ, dR, b6⟩ := Kd.V_slice br.out
   (first | subst b6 | (injection b6 with f1_ f2_ f3_; have f4_ := f1_.symm; have f5_ := f3_.symm; clear f1_ f2_ f3_; subst f4_; subst f5_))
   obtain ⟨dS, dT, b7⟩ := Kd.V_slice bv.out
   (first | subst b7 | (injection b7 with f1_ f2_ f3_; have f4_ := f1_.symm; have f5_ := f3_.symm; clear f1_ f2_ f3_; subst f4_; subst f5_))
   refine hK.out _ _ ⟨bc ab 0, bc ab 1, bc ab 2⟩ (fun hHeld => ?_)
   clear hK K
   refine nq 56 ?_
   refine one_ (i := 7) (N := none) #[true, true, true, true, true, true, true, true] rfl rfl (one_of HT_.out (by kernel_rfl)) (by decide) (fun K hK => ?_)
   have hs131 : cc.cell? ⟨ad, 0, none⟩ = some (.bool false) := bc ac 0
   have hfs131 := blk_frozen ac.out 0
   have hns131_0 := ai.out
   have hns131_1 := aw.out
   have hms131_0 := az.out
   have hms131_1 := aA.out
   have hs133 : cc.cell? ⟨ad, 1, none⟩ = some (.slice none 0 0) := bc ac 1
   have hfs133 := blk_frozen ac.out 1
   have hns133_0 := ai.out
   have hns133_1 := aw.out
   have hms133_0 := az.out
   have hms133_1 := aA.out
   have hs135 : cc.cell? ⟨ad, 2, none⟩ = some (.slice none 0 0) := bc ac 2
   have hfs135 := blk_frozen ac.out 2
   have hns135_0 := ai.out
   have hns135_1 := aw.out
   have hms135_0 := az.out
   have hms135_1 := aA.out
   refine skip_ (w1 := ?_) (by rfl) rfl ?_ ?_
   rotate_left
   ·
    go_simp
    rfl
   refine hK.out _ _ ⟨((cell_far (p := ⟨ad, _, none⟩) aw.out _).trans (((cell_far (p := ⟨ad, _, none⟩) aw.out _).trans (((cell_far (p := ⟨ad, _, none⟩) aw.out _).trans (hHeld.1)))))), ((cell_far (p := ⟨ad, _, none⟩) aw.out _).trans (((cell_far (p := ⟨ad, _, none⟩) aw.out _).trans (((cell_far (p := ⟨ad, _, none⟩) aw.out _).trans (hHeld.2.1)))))), ((cell_far (p := ⟨ad, _, none⟩) aw.out _).trans (((cell_far (p := ⟨ad, _, none⟩) aw.out _).trans (((cell_far (p := ⟨ad, _, none⟩) aw.out _).trans (hHeld.2.2))))))⟩ (fun hHeld => ?_)
   clear hK K
   refine done_ (done_of HT_.out (by kernel_rfl)) ?_
   try go_wp2
   refine bodyPost_ret (results_cell_row rfl _ _ ad 67 #[.bool bX, .slice dQ bY.length dR, .slice dS bZ.length dT] (0, 0) _ rfl (kp ac.out) Try.underlying67 rfl (by kernel_rfl)) rfl ?_
   exact ⟨_, _, by first | rfl | (simp [errW_none, errW_some] <;> rfl) | (simp [*, errW_none, errW_some] <;> rfl), by exact vf br.out, by exact vf bv.out, by repeat (first | (with_reducible first | exact HB.out | apply below_alloc | apply pw_below_drewN | apply below_drew1 | refine below_set ?_ af.out | refine below_set ?_ aj.out | refine below_set ?_ aq.out) | exact HB.out)⟩
end Go.Proofs.Ytecfdemglbfnoaa.PT
end
