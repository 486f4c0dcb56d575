/- Walks and plain facts for the law SemiringLeasts, several texts in one: each theorem says what it shows; no condition beyond those that it names. -/
import Derived.Test.YtecfdemglbfnoaaMSemiringLeastsB
section
namespace Go.Proofs.Ytecfdemglbfnoaa.PT
open Go.RowKit Go.Proofs.YtecfdemglbfnoaaW.PrintWords Go.Proofs.YtecfdemglbfnoaaW.PrintLast Go.Proofs.YtecfdemglbfnoaaW.PrintMore
attribute [local go_sem] max2_int min2_int max_two min_two max_three min_three max_four min_four
set_option linter.unusedVariables false
set_option linter.unusedSimpArgs false
set_option maxHeartbeats 8000000
set_option maxRecDepth 100000
def codewrightref01_Trim.l0 : Nat → List Int → Int → Option (List Int)
 | 0, _, _ => none
 | k + 1, x0, x3 => if x3 > 0 then (if 0 ≤ (wrap64 (x3 - 1)) then (if (wrap64 (x3 - 1)) < (x0.length : Int) then (if (rd x0 (wrap64 (x3 - 1))) = 0 then (codewrightref01_Trim.l0 k x0 (wrap64 (x3 - 1))) else ((some (([] : List Int) : List Int)).bind fun y313 => (if 0 ≤ x3 then (if x3 ≤ (x0.length : Int) then (if y313.length + (x0.take (x3 : Int).toNat).length < 35184372088832 then (some (y313 ++ (x0.take (x3 : Int).toNat))) else (none)) else (none)) else (none)))) else (none)) else (none)) else ((some (([] : List Int) : List Int)).bind fun y320 => (if 0 ≤ x3 then (if x3 ≤ (x0.length : Int) then (if y320.length + (x0.take (x3 : Int).toNat).length < 35184372088832 then (some (y320 ++ (x0.take (x3 : Int).toNat))) else (none)) else (none)) else (none)))
def codewrightref01_Trim.f (k : Nat) (l0 : List Int) : Option (List Int) := codewrightref01_Trim.l0 k l0 (l0.length : Int)
theorem codewrightref01_Trim.calls (k : Nat) (A0 : Option Addr) (c0 : Nat) (l0 : List Int) (r : List Int) (w : World) (hr0 : Kd.C (Kd.int .u32) w A0 l0.length l0) (hc0 : l0.length ≤ c0) (h : codewrightref01_Trim.f k l0 = some r) :
 Calls Try.prog 144 #[.slice A0 l0.length c0] w fun e w' => ∃ v0_ : Value, e = .returned (v0_) ∧ Kd.R (Kd.int .u32) 48 w' w.heap.size (fun _ => True) v0_ r ∧ Below w.heap.size w w' := by
 have aA := am hr0
 have aM := am hc0
 clear hr0 hc0
 have HB := am (Below.refl w.heap.size w)
 have H : (codewrightref01_Trim.l0 k l0 (l0.length : Int)) = some r := h
 clear h
 have H' := am H
 clear H
 go_enter Try.func144, Try.ntmps144
 go_wp2
 go_loopg [3] k (fun kq v3 w' => ∃ (aa : Int), v3 = .int .i64 aa ∧ Aside0 (codewrightref01_Trim.l0 kq l0 aa = some r) ∧ Aside0 (kq ≤ k) ∧ Aside0 (Below w.heap.size w w'))
 case atStart => exact ⟨((l0.length : Int)), (by first | rfl | (simp; done) | (simp [*]; done)), H', ⟨Nat.le_refl _⟩, ⟨by repeat (first | (with_reducible first | exact HB.out | apply below_alloc | apply pw_below_drewN | apply below_drew1) | exact HB.out)⟩⟩
 case round =>
  clear H'
  try clear c1
  obtain ⟨aa, rfl, HA, HK1, HB⟩ := hrel
  cases gk with
  | zero => exact absurd HA.out (by simp [codewrightref01_Trim.l0])
  | succ k1 =>
   have H := HA.out
   clear HA
   simp only [codewrightref01_Trim.l0] at H
   by_cases c2 : aa > 0
   ·
    rw [if_pos c2] at H
    have aD : decide (0 < aa) = true := decide_eq_true c2
    clear c2
    obtain ⟨ji3, hji3⟩ : ∃ j_ : Int, (wrap64 (aa - 1)) = j_ := ⟨_, rfl⟩
    replace H : (if 0 ≤ (ji3) then (if (ji3) < (l0.length : Int) then (if (rd l0 (ji3)) = 0 then (codewrightref01_Trim.l0 k1 l0 ji3) else ((some (([] : List Int) : List Int)).bind fun ac => (if 0 ≤ aa then (if aa ≤ (l0.length : Int) then (if ac.length + (l0.take (aa : Int).toNat).length < 35184372088832 then (some (ac ++ (l0.take (aa : Int).toNat))) else (none)) else (none)) else (none)))) else (none)) else (none)) = some r := by first | (rw [hji3] at H; exact H) | (simp only [hji3] at H ⊢; exact H)
    have hji3w : (IntKind.i64.wrap (aa - 1)) = ji3 := (i64_w _).trans hji3
    by_cases c4 : 0 ≤ (ji3)
    ·
     rw [if_pos c4] at H
     have aW : decide (0 ≤ (ji3)) = true := decide_eq_true c4
     clear c4
     by_cases c5 : (ji3) < (l0.length : Int)
     ·
      rw [if_pos c5] at H
      have aX : decide ((ji3) < (l0.length : Int)) = true := decide_eq_true c5
      clear c5
      by_cases c6 : (rd l0 (ji3)) = 0
      ·
       rw [if_pos c6] at H
       have aE : ((rd l0 (ji3)) == 0) = true := beq_iff_eq.mpr c6
       have aG : ((rd l0 (ji3)) != 0) = false := bne_eq_false_iff_eq.mpr c6
       clear c6
       have H' := am H
       clear H
       have p312 : 0 ≤ ((ji3) : Int) := of_decide_eq_true (by first | (with_reducible assumption) | assumption)
       have q312 : (ji3) < (l0.length : Int) := of_decide_eq_true (by first | (with_reducible assumption) | assumption)
       obtain ⟨ad312, e312, ab⟩ := Kd.at_int aA.out (ji3) p312 q312
       cases e312
       replace ab := (HB.out.cell (World.block_lt_of_cell? w _ ab)).trans ab
       replace p312 := eq_true p312
       replace q312 := eq_true q312
       go_wp2
       go_roundg k1
       case measure => have := HK1.out; omega
       case rel => exact ⟨(ji3), (by first | rfl | (simp; done) | (simp only [← hji3] <;> (first | rfl | simp)) | (simp [*]; done)), H', ⟨by have := HK1.out; omega⟩, ⟨by repeat (first | (with_reducible first | exact HB.out | apply below_alloc | apply pw_below_drewN | apply below_drew1) | exact HB.out)⟩⟩
      ·
       rw [if_neg c6] at H
       have aE : ((rd l0 (ji3)) == 0) = false := beq_eq_false_iff_ne.mpr c6
       have aG : ((rd l0 (ji3)) != 0) = true := bne_iff_ne.mpr c6
       obtain ⟨ac, ad⟩ : ∃ y_ : List Int, y_ = (([] : List Int)) := ⟨_, rfl⟩
       replace H : (if 0 ≤ aa then (if aa ≤ (l0.length : Int) then (if ac.length + (l0.take (aa : Int).toNat).length < 35184372088832 then (some (ac ++ (l0.take (aa : Int).toNat))) else (none)) else (none)) else (none)) = some r := by first | (rw [ad]; with_reducible exact H) | (have H2_ := (Option.bind_some _ _).symm.trans H; rw [ad]; with_reducible exact H2_) | (have H2_ := (Option.bind_some _ _).symm.trans H; with_reducible exact H2_) | with_reducible exact H | (rw [ad]; exact H) | exact H
       have ak := am ad
       clear ad
       by_cases c7 : 0 ≤ aa
       ·
        rw [if_pos c7] at H
        have aY := eq_true c7
        have aZ : decide (0 ≤ aa) = true := decide_eq_true c7
        clear c7
        by_cases c8 : aa ≤ (l0.length : Int)
        ·
         rw [if_pos c8] at H
         have a0 := eq_true c8
         have a1 : decide (aa ≤ (l0.length : Int)) = true := decide_eq_true c8
         clear c8
         by_cases c9 : ac.length + (l0.take (aa : Int).toNat).length < 35184372088832
         ·
          rw [if_pos c9] at H
          have LMc9 := am c9
          clear c9
          obtain ⟨aH, ae⟩ : ∃ y_ : List Int, y_ = (ac ++ (l0.take (aa : Int).toNat)) := ⟨_, rfl⟩
          replace H : (some aH) = some r := by first | (rw [ae]; with_reducible exact H) | (have H2_ := (Option.bind_some _ _).symm.trans H; rw [ae]; with_reducible exact H2_) | (have H2_ := (Option.bind_some _ _).symm.trans H; with_reducible exact H2_) | with_reducible exact H | (rw [ae]; exact H) | exact H
          have au := am ae
          clear ae
          obtain rfl := Option.some.inj H
          have p312 : 0 ≤ ((ji3) : Int) := of_decide_eq_true (by first | (with_reducible assumption) | assumption)
          have q312 : (ji3) < (l0.length : Int) := of_decide_eq_true (by first | (with_reducible assumption) | assumption)
          obtain ⟨ad312, e312, ab⟩ := Kd.at_int aA.out (ji3) p312 q312
          cases e312
          replace ab := (HB.out.cell (World.block_lt_of_cell? w _ ab)).trans ab
          replace p312 := eq_true p312
          replace q312 := eq_true q312
          go_wp2_with (first | ((with_reducible refine gate_dst (N := 18) rfl ?_); refine Kd.R_lit (Kd.int .u32) _ 48 ?hg (N := 18) ?hd (xs := ([] : List Int)) (inner := []) (ok := fun _ => True) (okp := fun _ => True) ?hr ?hp (fun _ hk => hk) trivial (Below.refl _ _) (Nat.le_refl _) (by simp) ?_; (case hd => rfl); (case hg => rfl); (case hr => first | (go_simp; done) | (go_simp; rfl)); (case hp => exact (Reps.none _ _)); intro aI a4 ah hb hg_ hnew_; clear hg_ hnew_; (first | rw [← ak.out] at ah | (simp only [Int.reduceToNat] at ah; rw [← ak.out] at ah)); have al := am (Kd.R_lower ah (below_size (bu HB.out))); replace HB := be HB hb; clear hb ah; obtain ⟨i012, hi012, _, hsz12, _⟩ := info_parts info48; obtain ⟨hcut12, hA12, hC12⟩ := print_take_of (P := Try.prog) (Value.int .u32) 0 42 48 .i64 Try.underlying42 hi012 hsz12 (some ad312) c0 l0 aa (of_decide_eq_true (by first | (with_reducible assumption) | assumption)) (of_decide_eq_true (by first | (with_reducible assumption) | assumption)) aM.out; have an := am (Kd.C_of_reads (h1 := fun _ => rfl) (hA12 _ (Kd.reads_of_C aA.out))); have aN := am hC12; clear hA12 hC12 hi012 hsz12) | ((with_reducible refine gate_builtin (b := .append) (xs := #[.tmp 18, .tmp 21]) rfl ?_); at_builtin; refine Kd.R_append_rows (Kd.int .u32) (w0 := w) w.heap.size rfl (.tmp 18) (.tmp 21) 42 48 (.int .u32 0) 4 rfl Try.underlying42 info48 rfl (by decide) (by omega) aI ac (l0.take (aa : Int).toNat) _ _ _ (fun _ => True) (fun _ => False) rfl rfl ?aO ?aR (fun _ _ h => h) (fun _ h => h.elim) ?aF ?aB ?aS ?aL ?_; (case aR => first | (refine reads_len (show (l0.take (aa : Int).toNat).length = aa.toNat from (by rw [List.length_take]; have h_ : (aa : Int) ≤ (l0.length : Int) := of_decide_eq_true (by first | (with_reducible assumption) | assumption); omega)) ?_; repeat (first | exact (Kd.C_below an.out HB.out) | (with_reducible refine Kd.C_alloc ?_ _) | (with_reducible refine Kd.C_drewN ?_ _) | (with_reducible refine Kd.C_drew ?_))) | (repeat (first | exact (Kd.C_below an.out HB.out) | (with_reducible refine Kd.C_alloc ?_ _) | (with_reducible refine Kd.C_drewN ?_ _) | (with_reducible refine Kd.C_drew ?_)))); (case aB => exact (bu HB.out)); (case aF => exact (fun _ _ => trivial)); (case aO => exact (by (with_reducible repeat (first | apply Kd.R_alloc | apply Kd.R_drewN | apply Kd.R_drew)); exact al.out)); (case aS => exact (below_size (bu HB.out))); (case aL => have := LMc9.out; have hlx_ := (show (l0.take (aa : Int).toNat).length = aa.toNat from (by rw [List.length_take]; have h_ : (aa : Int) ≤ (l0.length : Int) := of_decide_eq_true (by first | (with_reducible assumption) | assumption); omega)); omega); intro a2 a5 ho hb hg hat; rw [← au.out] at ho; replace HB := am (hb); have av := am (ho); clear al ho hb hg hat))
          go_ret
          exact ⟨_, by first | rfl | (simp [errW_none, errW_some] <;> rfl) | (simp only [← hji3]; first | rfl | (simp [errW_none, errW_some] <;> rfl)) | (simp [*, errW_none, errW_some] <;> rfl), by (with_reducible repeat (first | apply Kd.R_alloc | apply Kd.R_drewN | apply Kd.R_drew)); exact av.out, by repeat (first | (with_reducible first | exact HB.out | apply below_alloc | apply pw_below_drewN | apply below_drew1) | exact HB.out)⟩
         ·
          rw [if_neg c9] at H
          exact absurd H (by simp)
        ·
         rw [if_neg c8] at H
         exact absurd H (by simp)
       ·
        rw [if_neg c7] at H
        exact absurd H (by simp)
     ·
      rw [if_neg c5] at H
      exact absurd H (by simp)
    ·
     rw [if_neg c4] at H
     exact absurd H (by simp)
   ·
    rw [if_neg c2] at H
    have aD : decide (0 < aa) = false := decide_eq_false c2
    clear c2
    obtain ⟨ai, af⟩ : ∃ y_ : List Int, y_ = (([] : List Int)) := ⟨_, rfl⟩
    replace H : (if 0 ≤ aa then (if aa ≤ (l0.length : Int) then (if ai.length + (l0.take (aa : Int).toNat).length < 35184372088832 then (some (ai ++ (l0.take (aa : Int).toNat))) else (none)) else (none)) else (none)) = some r := by first | (rw [af]; with_reducible exact H) | (have H2_ := (Option.bind_some _ _).symm.trans H; rw [af]; with_reducible exact H2_) | (have H2_ := (Option.bind_some _ _).symm.trans H; with_reducible exact H2_) | with_reducible exact H | (rw [af]; exact H) | exact H
    have ao := am af
    clear af
    by_cases aw : 0 ≤ aa
    ·
     rw [if_pos aw] at H
     have aP := eq_true aw
     have aQ : decide (0 ≤ aa) = true := decide_eq_true aw
     clear aw
     by_cases ax : aa ≤ (l0.length : Int)
     ·
      rw [if_pos ax] at H
      have aT := eq_true ax
      have aU : decide (aa ≤ (l0.length : Int)) = true := decide_eq_true ax
      clear ax
      by_cases aC : ai.length + (l0.take (aa : Int).toNat).length < 35184372088832
      ·
       rw [if_pos aC] at H
       have LMc16 := am aC
       clear aC
       obtain ⟨aJ, ag⟩ : ∃ y_ : List Int, y_ = (ai ++ (l0.take (aa : Int).toNat)) := ⟨_, rfl⟩
       replace H : (some aJ) = some r := by first | (rw [ag]; with_reducible exact H) | (have H2_ := (Option.bind_some _ _).symm.trans H; rw [ag]; with_reducible exact H2_) | (have H2_ := (Option.bind_some _ _).symm.trans H; with_reducible exact H2_) | with_reducible exact H | (rw [ag]; exact H) | exact H
       have ay := am ag
       clear ag
       obtain rfl := Option.some.inj H
       go_wp2_with (first | ((with_reducible refine gate_dst (N := 18) rfl ?_); refine Kd.R_lit (Kd.int .u32) _ 48 ?hg (N := 18) ?hd (xs := ([] : List Int)) (inner := []) (ok := fun _ => True) (okp := fun _ => True) ?hr ?hp (fun _ hk => hk) trivial (Below.refl _ _) (Nat.le_refl _) (by simp) ?_; (case hd => rfl); (case hg => rfl); (case hr => first | (go_simp; done) | (go_simp; rfl)); (case hp => exact (Reps.none _ _)); intro aK a6 aj hb hg_ hnew_; clear hg_ hnew_; (first | rw [← ao.out] at aj | (simp only [Int.reduceToNat] at aj; rw [← ao.out] at aj)); have ap := am (Kd.R_lower aj (below_size (bu HB.out))); replace HB := be HB hb; clear hb aj; obtain ⟨i019, hi019, _, hsz19, _⟩ := info_parts info48; obtain ⟨hcut19, hA19, hC19⟩ := print_take_of (P := Try.prog) (Value.int .u32) 0 42 48 .i64 Try.underlying42 hi019 hsz19 A0 c0 l0 aa (of_decide_eq_true (by first | (with_reducible assumption) | assumption)) (of_decide_eq_true (by first | (with_reducible assumption) | assumption)) aM.out; have aq := am (Kd.C_of_reads (h1 := fun _ => rfl) (hA19 _ (Kd.reads_of_C aA.out))); have aV := am hC19; clear hA19 hC19 hi019 hsz19) | ((with_reducible refine gate_builtin (b := .append) (xs := #[.tmp 18, .tmp 21]) rfl ?_); at_builtin; refine Kd.R_append_rows (Kd.int .u32) (w0 := w) w.heap.size rfl (.tmp 18) (.tmp 21) 42 48 (.int .u32 0) 4 rfl Try.underlying42 info48 rfl (by decide) (by omega) aK ai (l0.take (aa : Int).toNat) _ _ _ (fun _ => True) (fun _ => False) rfl rfl ?aO ?aR (fun _ _ h => h) (fun _ h => h.elim) ?aF ?aB ?aS ?aL ?_; (case aR => first | (refine reads_len (show (l0.take (aa : Int).toNat).length = aa.toNat from (by rw [List.length_take]; have h_ : (aa : Int) ≤ (l0.length : Int) := of_decide_eq_true (by first | (with_reducible assumption) | assumption); omega)) ?_; repeat (first | exact (Kd.C_below aq.out HB.out) | (with_reducible refine Kd.C_alloc ?_ _) | (with_reducible refine Kd.C_drewN ?_ _) | (with_reducible refine Kd.C_drew ?_))) | (repeat (first | exact (Kd.C_below aq.out HB.out) | (with_reducible refine Kd.C_alloc ?_ _) | (with_reducible refine Kd.C_drewN ?_ _) | (with_reducible refine Kd.C_drew ?_)))); (case aB => exact (bu HB.out)); (case aF => exact (fun _ _ => trivial)); (case aO => exact (by (with_reducible repeat (first | apply Kd.R_alloc | apply Kd.R_drewN | apply Kd.R_drew)); exact ap.out)); (case aS => exact (below_size (bu HB.out))); (case aL => have := LMc16.out; have hlx_ := (show (l0.take (aa : Int).toNat).length = aa.toNat from (by rw [List.length_take]; have h_ : (aa : Int) ≤ (l0.length : Int) := of_decide_eq_true (by first | (with_reducible assumption) | assumption); omega)); omega); intro a3 a7 ho hb hg hat; rw [← ay.out] at ho; replace HB := am (hb); have az := am (ho); clear ap ho hb hg hat))
       go_ret
       exact ⟨_, by first | rfl | (simp [errW_none, errW_some] <;> rfl) | (simp [*, errW_none, errW_some] <;> rfl), by (with_reducible repeat (first | apply Kd.R_alloc | apply Kd.R_drewN | apply Kd.R_drew)); exact az.out, by repeat (first | (with_reducible first | exact HB.out | apply below_alloc | apply pw_below_drewN | apply below_drew1) | exact HB.out)⟩
      ·
       rw [if_neg aC] at H
       exact absurd H (by simp)
     ·
      rw [if_neg ax] at H
      exact absurd H (by simp)
    ·
     rw [if_neg aw] at H
     exact absurd H (by simp)
def codewrightref01_Zero.f (k : Nat) (l0 : List Int) : Option (Bool) := (codewrightref01_Trim.f k l0).bind fun t538 => (some ((t538.length : Int) == 0))
theorem codewrightref01_Zero.calls (k : Nat) (A0 : Option Addr) (c0 : Nat) (l0 : List Int) (r : Bool) (w : World) (hr0 : Kd.C (Kd.int .u32) w A0 l0.length l0) (hc0 : l0.length ≤ c0) (h : codewrightref01_Zero.f k l0 = some r) :
 Calls Try.prog 150 #[.slice A0 l0.length c0] w fun e w' => e = .returned (.bool r) ∧ Below w.heap.size w w' := by
 have ae := am hr0
 have ac := am hc0
 clear hr0 hc0
 have HB := am (Below.refl w.heap.size w)
 have H : ((codewrightref01_Trim.f k l0).bind fun aa => (some ((aa.length : Int) == 0))) = some r := h
 clear h
 obtain ⟨aa, A2, H⟩ := bs H
 replace H : (some ((aa.length : Int) == 0)) = some r := H
 obtain rfl := Option.some.inj H
 go_enter Try.func150, Try.ntmps150
 go_wp2_with (first | ((with_reducible refine gate_callee (f := 144) rfl ?_); refine goesL_ (some 4) rfl rfl Try.func144 (by kernel_rfl) rfl #[.slice A0 l0.length c0] rfl lu ?_; (with_reducible refine (codewrightref01_Trim.calls k _ _ l0 aa _ ?side1 ?side2 A2.out).mono ?_); (case side1 => repeat (first | exact ae.out | (with_reducible refine Kd.C_alloc ?_ _) | (with_reducible refine Kd.C_drewN ?_ _) | (with_reducible refine Kd.C_drew ?_))); (case side2 => first | exact ac.out | exact vz ac.out); rintro e w3 ⟨af, rfl, ad, hb⟩; refine ⟨_, rfl, ?_⟩; have ab := am (Kd.R_lower ad (below_size (bu HB.out))); replace HB := be HB hb; (try clear hb); (try clear ad); obtain ⟨ah, ai, ag⟩ := Kd.R_slice ab.out; subst ag))
 go_ret
 exact ⟨by first | rfl | (simp [errW_none, errW_some] <;> rfl) | (simp [*, errW_none, errW_some] <;> rfl), by repeat (first | (with_reducible first | exact HB.out | apply below_alloc | apply pw_below_drewN | apply below_drew1) | exact HB.out)⟩
def codewrightref46_Least.j0 : Nat → Bool → Int → List Int → Option (Int × List Int)
 | 0, _, _, _ => none
 | k + 1, x10, x542000, x542001 => if x10 = true then ((codewrightref46_None.f).bind fun bt544 => (some (bt544.1, bt544.2))) else ((codewrightref01_Trim.f k x542001).bind fun t548 => (some (mx 0 x542000, t548)))
def codewrightref46_Least.f (k : Nat) (a0_0 : Int) (l0_1 : List Int) : Option (Int × List Int) := if a0_0 ≥ 4611686018427387904 then (codewrightref46_Least.j0 k true a0_0 l0_1) else ((codewrightref01_Zero.f k l0_1).bind fun t543 => (codewrightref46_Least.j0 k t543 a0_0 l0_1))
def codewrightref46_Least.T3 : Bool × List (List Nat × List Nat) := (true, [([], []), ([0], [0]), ([1], [1]), ([], []), ([3], [3]), ([4], [4]), ([2, 5], [2, 5]), ([6, 5, 0, 1, 2, 3, 4, 5, 6], [6])])
def codewrightref46_Least.B3 : List Nat := [0, 1, 3, 0, 8, 24, 63, 127]
theorem codewrightref46_Least.tab3 : rtab .any (opsOf Try.f69 3) = codewrightref46_Least.T3 := by kernel_rfl
theorem codewrightref46_Least.bits3 : waitsOk codewrightref46_Least.T3.2 codewrightref46_Least.B3 = true := by kernel_rfl
theorem codewrightref46_Least.calls (k : Nat) (a0_0 : Int) (A0_1 : Option Addr) (c0_1 : Nat) (l0_1 : List Int) (r1 : Int) (r2 : List Int) (w : World) (hr0_1 : Kd.C (Kd.int .u32) w A0_1 l0_1.length l0_1) (hc0_1 : l0_1.length ≤ c0_1) (h : codewrightref46_Least.f k a0_0 l0_1 = some (r1, r2)) :
 Calls Try.prog 69 #[.agg #[.int .i64 a0_0, .slice A0_1 l0_1.length c0_1]] w fun e w' => ∃ v1_ : Value, e = .returned (.agg #[.int .i64 r1, v1_]) ∧ Kd.V (Kd.int .u32) 48 w' w.heap.size (fun k_ => (w.heap.size ≤ k_)) v1_ r2 ∧ Below w.heap.size w w' := by
 have aY := Try.underlying53
 have ax := am hr0_1
 have aj := am hc0_1
 clear hr0_1 hc0_1
 have HB := am (Below.refl w.heap.size w)
 have H : (if a0_0 ≥ 4611686018427387904 then (codewrightref46_Least.j0 k true a0_0 l0_1) else ((codewrightref01_Zero.f k l0_1).bind fun an => (codewrightref46_Least.j0 k an a0_0 l0_1))) = some (r1, r2) := h
 clear h
 have aM := am H
 clear H
 go_enter Try.func69, Try.ntmps69
 go_upto_region 1 with (first | ((with_reducible refine gate_dst (N := 1) rfl ?_); refine box_event ?hg (N := 1) ?hd (cs := #[.int .i64 a0_0, .slice A0_1 l0_1.length c0_1]) (t := 53) ?hr ?_; (case hd => rfl); (case hg => rfl); (case hr => first | (go_simp; done) | (go_simp; rfl)); intro ag hg w3 hbox hb; have aa := am (hbox); have aS := ng hg (bu HB.out); have af := ng hg (bu HB.out); replace HB := be HB hb; clear hb hbox hg) | ((with_reducible refine gate_dst (N := 2) rfl ?_); refine box_event ?hg (N := 2) ?hd (cs := #[.int .i64 0, .slice none 0 0]) (t := 53) ?hr ?_; (case hd => rfl); (case hg => rfl); (case hr => first | (go_simp; done) | (go_simp; rfl)); intro ad hg w4 hbox hb; have ab := am (hbox); have aT := ng hg (bu1 HB.out af.out); have ah := ng hg (bu1 HB.out af.out); replace HB := be1 HB af hb; have ac := nl hg aa; have ae := nr hg aa; replace aa := kb aa hb; clear hb hbox hg))
 (try simp only [Act.put, List.setIfInBounds_toArray, List.set_cons_zero, List.set_cons_succ])
 go_cut [10] (fun aZ wc => ∃ (kq : Nat) (ak : Bool), aZ = .bool ak ∧ Aside0 (codewrightref46_Least.j0 kq ak a0_0 l0_1 = some (r1, r2)) ∧ Aside0 (kq ≤ k) ∧ Aside0 (wc.heap[ag]? = some (.cells #[.int .i64 a0_0, (.slice A0_1 l0_1.length c0_1)] 53 (0, 0))) ∧ Aside0 (wc.heap[ad]? = some (.cells #[.int .i64 0, (.slice none 0 0)] 53 (0, 0))) ∧ Aside0 (Below w.heap.size w wc))
 case first =>
  have H := aM.out
  clear aM
  by_cases c5 : a0_0 ≥ 4611686018427387904
  ·
   rw [if_pos c5] at H
   have al : decide (4611686018427387904 ≤ a0_0) = true := decide_eq_true c5
   clear c5
   (first | rw [al] | rw [c5b1] | (simp only [i64_w, i32_w]; rw [al]) | skip)
   have H' := am H
   clear H
   have a0 := ac.out
   have a1 := ae.out
   have aB : w4.cell? ⟨ag, 0, none⟩ = some (.int .i64 a0_0) := bc aa 0
   have aC : w4.cell? ⟨ag, 1, none⟩ = some (.slice A0_1 l0_1.length c0_1) := bc aa 1
   have aD := blk_frozen aa.out 0
   have aE := blk_frozen aa.out 1
   go_wp2
   go_meet
   case rel => exact ⟨_, (true), (by first | rfl | (simp; done) | (simp [*]; done)), H', ⟨by first | omega | exact Nat.le_refl _⟩, ⟨by (with_reducible repeat (first | refine blk_drewN ?_ _ | refine blk_drew ?_ | refine blk_alloc ?_ _)); exact aa.out⟩, ⟨by (with_reducible repeat (first | refine blk_drewN ?_ _ | refine blk_drew ?_ | refine blk_alloc ?_ _)); exact ab.out⟩, ⟨by repeat (first | (with_reducible first | exact HB.out | apply below_alloc | apply pw_below_drewN | apply below_drew1 | refine below_set ?_ af.out | refine below_set ?_ ah.out) | exact HB.out)⟩⟩
  ·
   rw [if_neg c5] at H
   have al : decide (4611686018427387904 ≤ a0_0) = false := decide_eq_false c5
   clear c5
   (first | rw [al] | rw [c5b1] | (simp only [i64_w, i32_w]; rw [al]) | skip)
   obtain ⟨an, A8, H⟩ := bs H
   (try dsimp -simprocs only at H)
   have H' := am H
   clear H
   have a2 := ac.out
   have a3 := ae.out
   have ao : w4.cell? ⟨ag, 0, none⟩ = some (.int .i64 a0_0) := bc aa 0
   have ap : w4.cell? ⟨ag, 1, none⟩ = some (.slice A0_1 l0_1.length c0_1) := bc aa 1
   have aq := blk_frozen aa.out 0
   have au := blk_frozen aa.out 1
   go_wp2_with (first | (go_at_call 150; (with_reducible refine (codewrightref01_Zero.calls k _ _ l0_1 an _ ?side1 ?side2 A8.out).mono ?_); (case side1 => repeat (first | exact (Kd.C_below ax.out HB.out) | (with_reducible refine Kd.C_alloc ?_ _) | (with_reducible refine Kd.C_drewN ?_ _) | (with_reducible refine Kd.C_drew ?_))); (case side2 => first | exact aj.out | exact vz aj.out); rintro e a8 ⟨rfl, hb⟩; replace aa := kb aa hb; replace ab := kb ab hb; replace HB := be2 HB af ah hb; (try clear hb)))
   go_meet
   case rel => exact ⟨_, (an), (by first | rfl | (simp; done) | (simp [*]; done)), H', ⟨by first | omega | exact Nat.le_refl _⟩, ⟨by (with_reducible repeat (first | refine blk_drewN ?_ _ | refine blk_drew ?_ | refine blk_alloc ?_ _)); exact aa.out⟩, ⟨by (with_reducible repeat (first | refine blk_drewN ?_ _ | refine blk_drew ?_ | refine blk_alloc ?_ _)); exact ab.out⟩, ⟨by repeat (first | (with_reducible first | exact HB.out | apply below_alloc | apply pw_below_drewN | apply below_drew1 | refine below_set ?_ af.out | refine below_set ?_ ah.out) | exact HB.out)⟩⟩
 case rest =>
  clear aM
  try clear p2
  try clear c5
  try clear al
  try clear c5b1
  try clear c6
  try clear c9
  try clear ao
  try clear ap
  try clear aB
  try clear aC
  try clear aq
  try clear au
  try clear aD
  try clear aE
  obtain ⟨kq, ak, rfl, HA, HJ1, aa, ab, HB⟩ := hcut
  cases kq with
  | zero => exact absurd HA.out (by simp [codewrightref46_Least.j0])
  | succ kj1 =>
   have H := HA.out
   clear HA
   simp only [codewrightref46_Least.j0] at H
   by_cases aH : ak = true
   ·
    subst aH
    have H1 : ((codewrightref46_None.f).bind fun ay => (some (ay.1, ay.2))) = some (r1, r2) := by rw [if_pos rfl] at H; exact H
    clear H
    have H := H1
    clear H1
    obtain ⟨⟨av, aF⟩, a4, H⟩ := bs H
    replace H : (some (av, aF)) = some (r1, r2) := H
    simp only [Option.some.injEq, Prod.mk.injEq] at H
    obtain ⟨rfl, rfl⟩ := H
    go_wp2_with (first | ((with_reducible refine gate_callee (f := 62) rfl ?_); refine goesL_ (some 11) rfl rfl Try.func62 (by kernel_rfl) rfl #[] rfl lu ?_; (with_reducible refine (codewrightref46_None.calls  av aF _ a4.out).mono ?_); rintro e aU ⟨a5, rfl, aw, hb⟩; refine ⟨_, rfl, ?_⟩; replace aw := R_V_base rfl aw; have az := ar0 w.heap.size (ok' := fun k_ => (w.heap.size ≤ k_) ∧ k_ ≠ ag ∧ k_ ≠ ad) aw (fa (fz2 HB af ah) (fa (fb aa) (fb ab))); replace aa := kb aa hb; replace ab := kb ab hb; replace HB := be2 HB af ah hb; (try clear hb); (try clear aw); have aV := ae.out; have aW := ac.out; have aI : aU.cell? ⟨ad, 0, none⟩ = some (.int .i64 0) := bc ab 0; have aJ : aU.cell? ⟨ad, 1, none⟩ = some (.slice none 0 0) := bc ab 1; have aK := blk_frozen ab.out 0; have aL := blk_frozen ab.out 1; obtain ⟨aN, aO, aP⟩ := Kd.V_slice az.out; subst aP))
    refine bodyPost_ret (results_cell_row rfl _ _ ad 53 #[.int .i64 av, .slice aN aF.length aO] (0, 0) _ rfl (by (with_reducible repeat (first | refine blk_drewN ?_ _ | refine blk_drew ?_ | refine blk_alloc ?_ _)); refine blk_put (cs := #[.int .i64 av, .slice none 0 0]) ?_ 1 _ rfl; (with_reducible repeat (first | refine blk_drewN ?_ _ | refine blk_drew ?_ | refine blk_alloc ?_ _)); refine blk_put (cs := #[.int .i64 0, .slice none 0 0]) ?_ 0 _ rfl; (with_reducible repeat (first | refine blk_drewN ?_ _ | refine blk_drew ?_ | refine blk_alloc ?_ _)); exact ab.out) Try.underlying53 rfl (by kernel_rfl)) rfl ?_
    exact ⟨_, by first | rfl | (simp [errW_none, errW_some] <;> rfl) | (simp [*, errW_none, errW_some] <;> rfl), by exact vf az.out, by repeat (first | (with_reducible first | exact HB.out | apply below_alloc | apply pw_below_drewN | apply below_drew1 | refine below_set ?_ af.out | refine below_set ?_ ah.out) | exact HB.out)⟩
   ·
    replace aH := Bool.eq_false_iff.mpr aH
    subst aH
    have H1 : ((codewrightref01_Trim.f kj1 l0_1).bind fun ai => (some (mx 0 a0_0, ai))) = some (r1, r2) := by rw [if_neg (show ¬ (false = true) by decide)] at H; exact H
    clear H
    have H := H1
    clear H1
    obtain ⟨ji18, hji18⟩ : ∃ j_ : Int, (mx 0 a0_0) = j_ := ⟨_, rfl⟩
    replace H : ((codewrightref01_Trim.f kj1 l0_1).bind fun ai => (some (ji18, ai))) = some (r1, r2) := by first | (rw [hji18] at H; exact H) | (simp only [hji18] at H ⊢; exact H)
    have hji18_ : (if 0 < a0_0 then a0_0 else 0) = ji18 := hji18
    obtain ⟨ai, a6, H⟩ := bs H
    replace H : (some (ji18, ai)) = some (r1, r2) := H
    simp only [Option.some.injEq, Prod.mk.injEq] at H
    obtain ⟨rfl, rfl⟩ := H
    try go_wp2
    replace aa := am (blk_drew aa.out)
    replace ab := am (blk_drew ab.out)
    replace HB := am (below_drew1 HB.out)
    refine start_ (n := 8) (S := fun w' => w'.cell? ⟨ag, 0, none⟩ = some (.int .i64 a0_0) ∧ w'.cell? ⟨ag, 1, none⟩ = some (.slice A0_1 l0_1.length c0_1)) (ds := []) #[false, false, false, false, false, false, false, false] (by kernel_rfl) rfl rfl ⟨bc aa 0, bc aa 1⟩ (fun hHeld => ?_); refine with_tabW codewrightref46_Least.tab3 codewrightref46_Least.bits3 (fun HT_ HW_ => ?_)
    generalize wc.drew = a9 at aa ab HB hHeld ⊢
    refine pq 0 (some 12) #[true, false, false, false, false, false, false, false] HT_ ?_
    refine pq 3 (some 15) #[true, false, false, true, false, false, false, false] HT_ ?_
    refine tq 1 (some 13) #[true, true, false, true, false, false, false, false] HT_ HW_ hHeld ?_
    refine pq 2 (some 14) #[true, true, true, true, false, false, false, false] HT_ ?_
    refine tq 4 (some 16) #[true, true, true, true, true, false, false, false] HT_ HW_ hHeld ?_
    refine one_ (i := 5) (N := some 17) #[true, true, true, true, true, true, false, false] rfl rfl (one_of HT_.out (by kernel_rfl)) (by decide) (fun K hK => ?_)
    refine goes_ Try.func144 (by kernel_rfl) rfl #[.slice A0_1 l0_1.length c0_1] (by rfl) rfl rfl lu ?_
    with_reducible refine (codewrightref01_Trim.calls kj1 _ _ l0_1 ai _ ?side1 ?side2 a6.out).mono ?_
    (case side1 => repeat (first | exact (Kd.C_below ax.out HB.out) | (with_reducible refine Kd.C_alloc ?_ _) | (with_reducible refine Kd.C_drewN ?_ _) | (with_reducible refine Kd.C_drew ?_)))
    (case side2 => first | exact aj.out | exact vz aj.out)
    rintro e aX ⟨a7, rfl, aw, hb⟩
    refine ⟨_, rfl, ?_⟩
    replace aw := R_V_base rfl aw
    have aA := ar0 w.heap.size (ok' := fun k_ => (w.heap.size ≤ k_) ∧ k_ ≠ ag ∧ k_ ≠ ad) aw (fa (fz2 HB af ah) (fa (fb aa) (fb ab)))
    replace aa := kb aa hb
    replace ab := kb ab hb
    replace HB := be2 HB af ah hb
    (try clear hb)
    (try clear hb2)
    (try clear hk)
    (try clear hi)
    (try clear aw)
    obtain ⟨aQ, aR, aG⟩ := Kd.V_slice aA.out
    (first | subst aG | (injection aG with f1_ f2_ f3_; have f4_ := f1_.symm; have f5_ := f3_.symm; clear f1_ f2_ f3_; subst f4_; subst f5_))
    refine hK.out _ _ ⟨bc aa 0, bc aa 1⟩ (fun hHeld => ?_)
    clear hK K
    refine nq 17 ?_
    refine pq 6 (some 18) #[true, true, true, true, true, true, true, false] HT_ ?_
    refine one_ (i := 7) (N := none) #[true, true, true, true, true, true, true, true] rfl rfl (one_of HT_.out (by kernel_rfl)) (by decide) (fun K hK => ?_)
    have hs23 : aX.cell? ⟨ad, 0, none⟩ = some (.int .i64 0) := bc ab 0
    have hfs23 := blk_frozen ab.out 0
    have hns23_0 := ac.out
    have hms23_0 := ae.out
    have hs24 : aX.cell? ⟨ad, 1, none⟩ = some (.slice none 0 0) := bc ab 1
    have hfs24 := blk_frozen ab.out 1
    have hns24_0 := ac.out
    have hms24_0 := ae.out
    refine skip_ (w1 := ?_) (by rfl) rfl ?_ ?_
    rotate_left
    ·
     go_simp
     rfl
    refine hK.out _ _ ⟨((cell_far (p := ⟨ad, _, none⟩) ac.out _).trans (((cell_far (p := ⟨ad, _, none⟩) ac.out _).trans (hHeld.1)))), ((cell_far (p := ⟨ad, _, none⟩) ac.out _).trans (((cell_far (p := ⟨ad, _, none⟩) ac.out _).trans (hHeld.2))))⟩ (fun hHeld => ?_)
    clear hK K
    refine done_ (done_of HT_.out (by kernel_rfl)) ?_
    try go_wp2
    refine bodyPost_ret (results_cell_row rfl _ _ ad 53 #[.int .i64 ji18, .slice aQ ai.length aR] (0, 0) _ rfl (by (with_reducible repeat (first | refine blk_drewN ?_ _ | refine blk_drew ?_ | refine blk_alloc ?_ _)); refine blk_put (cs := #[.int .i64 ji18, .slice none 0 0]) ?_ 1 _ rfl; (with_reducible repeat (first | refine blk_drewN ?_ _ | refine blk_drew ?_ | refine blk_alloc ?_ _)); refine blk_put (cs := #[.int .i64 0, .slice none 0 0]) ?_ 0 _ rfl; (with_reducible repeat (first | refine blk_drewN ?_ _ | refine blk_drew ?_ | refine blk_alloc ?_ _)); exact ab.out) Try.underlying53 rfl (by kernel_rfl)) rfl ?_
    exact ⟨_, by first | rfl | (simp [errW_none, errW_some] <;> rfl) | (simp only [← hji18]; first | rfl | (simp [errW_none, errW_some] <;> rfl)) | (simp [*, errW_none, errW_some] <;> rfl), by exact vf aA.out, by repeat (first | (with_reducible first | exact HB.out | apply below_alloc | apply pw_below_drewN | apply below_drew1 | refine below_set ?_ af.out | refine below_set ?_ ah.out) | exact HB.out)⟩
def codewrightref01_limb.f (l0 : List Int) (a1 : Int) : Option (Int) := if a1 < (l0.length : Int) then (if 0 ≤ a1 then (some (IntKind.u64.wrap (rd l0 a1))) else (none)) else (some 0)
theorem codewrightref01_limb.calls (A0 : Option Addr) (c0 : Nat) (l0 : List Int) (a1 : Int) (r : Int) (w : World) (hr0 : Kd.C (Kd.int .u32) w A0 l0.length l0) (hc0 : l0.length ≤ c0) (h : codewrightref01_limb.f l0 a1 = some r) :
 Calls Try.prog 143 #[.slice A0 l0.length c0, .int .i64 a1] w fun e w' => e = .returned (.int .u64 r) ∧ Drawn0 w w' := by
 have ac := am hr0
 have ae := am hc0
 clear hr0 hc0
 have H : (if a1 < (l0.length : Int) then (if 0 ≤ a1 then (some (IntKind.u64.wrap (rd l0 a1))) else (none)) else (some 0)) = some r := h
 clear h
 by_cases c3 : a1 < (l0.length : Int)
 ·
  rw [if_pos c3] at H
  have ab : decide (a1 < (l0.length : Int)) = true := decide_eq_true c3
  clear c3
  by_cases c4 : 0 ≤ a1
  ·
   rw [if_pos c4] at H
   have ad : decide (0 ≤ a1) = true := decide_eq_true c4
   clear c4
   obtain rfl := Option.some.inj H
   have p311 : 0 ≤ (a1 : Int) := of_decide_eq_true (by first | (with_reducible assumption) | assumption)
   have q311 : a1 < (l0.length : Int) := of_decide_eq_true (by first | (with_reducible assumption) | assumption)
   obtain ⟨ad311, e311, aa⟩ := Kd.at_int ac.out a1 p311 q311
   cases e311
   replace p311 := eq_true p311
   replace q311 := eq_true q311
   go_enter Try.func143, Try.ntmps143
   go_wp2
   go_ret
   exact ⟨by first | rfl | (simp; done) | (simp [*]; done), by repeat (first | exact Drawn0.refl _ | apply Drawn0.step)⟩
  ·
   rw [if_neg c4] at H
   exact absurd H (by simp)
 ·
  rw [if_neg c3] at H
  have ab : decide (a1 < (l0.length : Int)) = false := decide_eq_false c3
  clear c3
  obtain rfl := Option.some.inj H
  go_enter Try.func143, Try.ntmps143
  go_wp2
  go_ret
  exact ⟨by first | rfl | (simp; done) | (simp [*]; done), by repeat (first | exact Drawn0.refl _ | apply Drawn0.step)⟩
mutual
def codewrightref01_Add.l0 : Nat → List Int → List Int → List Int → Int → Int → Option (List Int)
 | 0, _, _, _, _, _ => none
 | k + 1, x0, x1, x5, x6, x7 => if x7 < (x0.length : Int) then (codewrightref01_Add.j1 k x0 x1 x5 x6 x7 true) else (if x7 < (x1.length : Int) then (codewrightref01_Add.j1 k x0 x1 x5 x6 x7 true) else (codewrightref01_Add.j1 k x0 x1 x5 x6 x7 (decide (x6 > 0))))
def codewrightref01_Add.j1 : Nat → List Int → List Int → List Int → Int → Int → Bool → Option (List Int)
 | 0, _, _, _, _, _, _ => none
 | k + 1, x0, x1, x5, x6, x7, x22 => if x22 = true then ((codewrightref01_limb.f x0 x7).bind fun t327 => ((codewrightref01_limb.f x1 x7).bind fun t328 => (if x5.length < 35184372088832 then (codewrightref01_Add.l0 k x0 x1 (x5 ++ [(Int.tmod (IntKind.u64.wrap ((IntKind.u64.wrap (t327 + t328)) + x6)) 4294967296) % 4294967296]) (IntKind.u64.wrap (Int.tdiv (IntKind.u64.wrap ((IntKind.u64.wrap (t327 + t328)) + x6)) 4294967296)) (wrap64 (x7 + 1))) else (none)))) else ((codewrightref01_Trim.f k x5).bind fun t332 => (some t332))
end
def codewrightref01_Add.f (k : Nat) (l0 : List Int) (l1 : List Int) : Option (List Int) := codewrightref01_Add.l0 k l0 l1 ([] : List Int) 0 0
theorem codewrightref01_Add.calls (k : Nat) (A0 : Option Addr) (c0 : Nat) (l0 : List Int) (A1 : Option Addr) (c1 : Nat) (l1 : List Int) (r : List Int) (w : World) (hr0 : Kd.C (Kd.int .u32) w A0 l0.length l0) (hc0 : l0.length ≤ c0) (hr1 : Kd.C (Kd.int .u32) w A1 l1.length l1) (hc1 : l1.length ≤ c1) (h : codewrightref01_Add.f k l0 l1 = some r) :
 Calls Try.prog 55 #[.slice A0 l0.length c0, .slice A1 l1.length c1] w fun e w' => ∃ v0_ : Value, e = .returned (v0_) ∧ Kd.R (Kd.int .u32) 48 w' w.heap.size (fun _ => True) v0_ r ∧ Below w.heap.size w w' := by
 have aA := am hr0
 have ay := am hc0
 clear hr0 hc0
 have aC := am hr1
 have az := am hc1
 clear hr1 hc1
 have HB := am (Below.refl w.heap.size w)
 have H : (codewrightref01_Add.l0 k l0 l1 ([] : List Int) 0 0) = some r := h
 clear h
 have H' := am H
 clear H
 go_enter Try.func55, Try.ntmps55
 go_wp2
 go_loopg [5, 6, 7] k (fun kq v5 v6 v7 w' => ∃ (ab : List Int) (ac : Int) (aa : Int), v6 = .int .u64 ac ∧ v7 = .int .i64 aa ∧ Aside0 (codewrightref01_Add.l0 kq l0 l1 ab ac aa = some r) ∧ Aside0 (kq ≤ k) ∧ Aside0 (Kd.R (Kd.int .u32) 48 w' w.heap.size (fun _ => True) v5 ab) ∧ Aside0 (Below w.heap.size w w'))
 case atStart => exact ⟨(([] : List Int)), (0), (0), (by first | rfl | (simp; done) | (simp [*]; done)), (by first | rfl | (simp; done) | (simp [*]; done)), H', ⟨Nat.le_refl _⟩, ⟨by first | exact Kd.R_nil _ _ _ _ _ | exact Kd.N_nil _ _ _ _ _ | exact Kd.V_nil _ _ _ _ _ | exact Kd.Q_nil _ _ _ _ _ | exact Kd.S_nil _ _ _ _ _⟩, ⟨by repeat (first | (with_reducible first | exact HB.out | apply below_alloc | apply pw_below_drewN | apply below_drew1) | exact HB.out)⟩⟩
 case round =>
  clear H'
  try clear c1
  try clear p2
  obtain ⟨ab, ac, aa, rfl, rfl, HA, HK1, ad, HB⟩ := hrel
  cases gk with
  | zero => exact absurd HA.out (by simp [codewrightref01_Add.l0])
  | succ k1 =>
   have H := HA.out
   clear HA
   simp only [codewrightref01_Add.l0] at H
   have aq := am H
   clear H
   go_upto_region 4 with (fail)
   go_cut [22] (fun aD wc => ∃ (kq : Nat) (ah : Bool), aD = .bool ah ∧ Aside0 (codewrightref01_Add.j1 kq l0 l1 ab ac aa ah = some r) ∧ Aside0 (kq ≤ k1) ∧ Aside0 (Kd.R (Kd.int .u32) 48 wc w.heap.size (fun _ => True) u5 ab) ∧ Aside0 (Below w.heap.size w wc))
   case first =>
    have H := aq.out
    clear aq
    by_cases c4 : aa < (l0.length : Int)
    ·
     rw [if_pos c4] at H
     have ai : decide (aa < (l0.length : Int)) = true := decide_eq_true c4
     clear c4
     (first | rw [ai] | rw [c4b1] | (simp only [i64_w, i32_w]; rw [ai]) | skip)
     have H' := am H
     clear H
     go_wp2
     go_meet
     case rel => exact ⟨_, (true), (by first | rfl | (simp; done) | (simp [*]; done)), H', ⟨by have := HK1.out; first | omega | exact Nat.le_refl _⟩, ⟨by (with_reducible repeat (first | apply Kd.R_alloc | apply Kd.R_drewN | apply Kd.R_drew)); exact ad.out⟩, ⟨by repeat (first | (with_reducible first | exact HB.out | apply below_alloc | apply pw_below_drewN | apply below_drew1) | exact HB.out)⟩⟩
    ·
     rw [if_neg c4] at H
     have ai : decide (aa < (l0.length : Int)) = false := decide_eq_false c4
     clear c4
     (first | rw [ai] | rw [c4b1] | (simp only [i64_w, i32_w]; rw [ai]) | skip)
     by_cases c5 : aa < (l1.length : Int)
     ·
      rw [if_pos c5] at H
      have ak : decide (aa < (l1.length : Int)) = true := decide_eq_true c5
      clear c5
      have H' := am H
      clear H
      go_wp2
      go_meet
      case rel => exact ⟨_, (true), (by first | rfl | (simp; done) | (simp [*]; done)), H', ⟨by have := HK1.out; first | omega | exact Nat.le_refl _⟩, ⟨by (with_reducible repeat (first | apply Kd.R_alloc | apply Kd.R_drewN | apply Kd.R_drew)); exact ad.out⟩, ⟨by repeat (first | (with_reducible first | exact HB.out | apply below_alloc | apply pw_below_drewN | apply below_drew1) | exact HB.out)⟩⟩
     ·
      rw [if_neg c5] at H
      have ak : decide (aa < (l1.length : Int)) = false := decide_eq_false c5
      clear c5
      have H' := am H
      clear H
      go_wp2
      go_meet
      case rel => exact ⟨_, (decide (ac > 0)), (by first | rfl | (simp; done) | (simp [*]; done)), H', ⟨by have := HK1.out; first | omega | exact Nat.le_refl _⟩, ⟨by (with_reducible repeat (first | apply Kd.R_alloc | apply Kd.R_drewN | apply Kd.R_drew)); exact ad.out⟩, ⟨by repeat (first | (with_reducible first | exact HB.out | apply below_alloc | apply pw_below_drewN | apply below_drew1) | exact HB.out)⟩⟩
   case rest =>
    clear aq
    try clear c1
    try clear p2
    try clear c4
    try clear ai
    try clear c4b1
    try clear c5
    try clear ak
    try clear p2
    obtain ⟨kq, ah, rfl, HA, HJ2, ad, HB⟩ := hcut
    cases kq with
    | zero => exact absurd HA.out (by simp [codewrightref01_Add.j1])
    | succ kj2 =>
     have H := HA.out
     clear HA
     simp only [codewrightref01_Add.j1] at H
     by_cases c6 : ah = true
     ·
      subst c6
      have H1 : ((codewrightref01_limb.f l0 aa).bind fun ae => ((codewrightref01_limb.f l1 aa).bind fun af => (if ab.length < 35184372088832 then (codewrightref01_Add.l0 kj2 l0 l1 (ab ++ [(Int.tmod (IntKind.u64.wrap ((IntKind.u64.wrap (ae + af)) + ac)) 4294967296) % 4294967296]) (IntKind.u64.wrap (Int.tdiv (IntKind.u64.wrap ((IntKind.u64.wrap (ae + af)) + ac)) 4294967296)) (wrap64 (aa + 1))) else (none)))) = some r := by rw [if_pos rfl] at H; exact H
      clear H
      have H := H1
      clear H1
      obtain ⟨ae, A7, H⟩ := bs H
      (try dsimp -simprocs only at H)
      obtain ⟨af, A8, H⟩ := bs H
      (try dsimp -simprocs only at H)
      by_cases c9 : ab.length < 35184372088832
      ·
       rw [if_pos c9] at H
       have LMc9 := am c9
       clear c9
       obtain ⟨al, ag⟩ : ∃ y_ : List Int, y_ = (ab ++ [(Int.tmod (IntKind.u64.wrap ((IntKind.u64.wrap (ae + af)) + ac)) 4294967296) % 4294967296]) := ⟨_, rfl⟩
       replace H : (codewrightref01_Add.l0 kj2 l0 l1 al (IntKind.u64.wrap (Int.tdiv (IntKind.u64.wrap ((IntKind.u64.wrap (ae + af)) + ac)) 4294967296)) (wrap64 (aa + 1))) = some r := by first | (rw [ag]; with_reducible exact H) | (have H2_ := (Option.bind_some _ _).symm.trans H; rw [ag]; with_reducible exact H2_) | (have H2_ := (Option.bind_some _ _).symm.trans H; with_reducible exact H2_) | with_reducible exact H | (rw [ag]; exact H) | exact H
       have an := am ag
       clear ag
       have H' := am H
       clear H
       go_wp2_with (first | ((with_reducible refine gate_callee (f := 143) rfl ?_); refine goesL_ (some 27) rfl rfl Try.func143 (by kernel_rfl) rfl #[.slice A0 l0.length c0, .int .i64 aa] rfl lu ?_; (with_reducible refine (codewrightref01_limb.calls _ _ l0 aa ae _ ?side1 ?side2 A7.out).mono ?_); (case side1 => repeat (first | exact (Kd.C_below aA.out HB.out) | (with_reducible refine Kd.C_alloc ?_ _) | (with_reducible refine Kd.C_drewN ?_ _) | (with_reducible refine Kd.C_drew ?_))); (case side2 => first | exact ay.out | exact vz ay.out); rintro e w' ⟨rfl, ⟨nd, rfl⟩⟩; refine ⟨_, rfl, ?_⟩) | ((with_reducible refine gate_callee (f := 143) rfl ?_); refine goesL_ (some 30) rfl rfl Try.func143 (by kernel_rfl) rfl #[.slice A1 l1.length c1, .int .i64 aa] rfl lu ?_; (with_reducible refine (codewrightref01_limb.calls _ _ l1 aa af _ ?side1 ?side2 A8.out).mono ?_); (case side1 => repeat (first | exact (Kd.C_below aC.out (bu HB.out)) | (with_reducible refine Kd.C_alloc ?_ _) | (with_reducible refine Kd.C_drewN ?_ _) | (with_reducible refine Kd.C_drew ?_))); (case side2 => first | exact az.out | exact vz az.out); rintro e w' ⟨rfl, ⟨nd, rfl⟩⟩; refine ⟨_, rfl, ?_⟩) | ((with_reducible refine gate_builtin (b := .append) (xs := #[.tmp 34, .tmp 38]) rfl ?_); (try (refine gate_guard (by rfl) ?_; dsimp only)); at_builtin; refine Kd.R_append (Kd.int .u32) (w0 := w) w.heap.size rfl (.tmp 34) (.tmp 38) 42 48 (.int .u32 0) 4 rfl Try.underlying42 info48 rfl (by decide) (by omega) u5 ab ((Int.tmod (IntKind.u64.wrap ((IntKind.u64.wrap (ae + af)) + ac)) 4294967296) % 4294967296) [.int .u32 ((Int.tmod (IntKind.u64.wrap ((IntKind.u64.wrap (ae + af)) + ac)) 4294967296) % 4294967296)] (fun _ => True) (fun _ => False) rfl rfl ?aP (fun _ hk => hk.elim) ?aF ?aO ?aB ?aS ?aL ?_; (case aP => exact rfl); (case aB => exact (bu HB.out)); (case aF => exact (fun _ _ => trivial)); (case aO => exact (by (with_reducible repeat (first | apply Kd.R_alloc | apply Kd.R_drewN | apply Kd.R_drew)); exact ad.out)); (case aS => exact (below_size (bu HB.out))); (case aL => have := LMc9.out; omega); intro aE aI ho hb hg hat; rw [← an.out] at ho; replace HB := am (hb); have ao := am (ho); clear ad ho hb hg hat))
       go_roundg kj2
       case measure => have := HK1.out; have := HJ2.out; omega
       case rel => exact ⟨(al), (IntKind.u64.wrap (Int.tdiv (IntKind.u64.wrap ((IntKind.u64.wrap (ae + af)) + ac)) 4294967296)), (wrap64 (aa + 1)), (by first | rfl | (simp; done) | (simp [*]; done)), (by first | rfl | (simp; done) | (simp [*]; done)), H', ⟨by have := HK1.out; have := HJ2.out; omega⟩, ⟨by (with_reducible repeat (first | apply Kd.R_alloc | apply Kd.R_drewN | apply Kd.R_drew)); exact ao.out⟩, ⟨by repeat (first | (with_reducible first | exact HB.out | apply below_alloc | apply pw_below_drewN | apply below_drew1) | exact HB.out)⟩⟩
      ·
       rw [if_neg c9] at H
       exact absurd H (by simp)
     ·
      replace c6 := Bool.eq_false_iff.mpr c6
      subst c6
      have H1 : ((codewrightref01_Trim.f kj2 ab).bind fun aj => (some aj)) = some r := by rw [if_neg (show ¬ (false = true) by decide)] at H; exact H
      clear H
      have H := H1
      clear H1
      obtain ⟨aj, aG, H⟩ := bs H
      replace H : (some aj) = some r := H
      obtain rfl := Option.some.inj H
      obtain ⟨au, av, aw⟩ := Kd.R_slice ad.out
      subst aw
      go_wp2_with (first | ((with_reducible refine gate_callee (f := 144) rfl ?_); refine goesL_ (some 43) rfl rfl Try.func144 (by kernel_rfl) rfl #[.slice au ab.length av] rfl lu ?_; (with_reducible refine (codewrightref01_Trim.calls kj2 _ _ ab aj _ ?side1 ?side2 aG.out).mono ?_); (case side1 => exact cu (Kd.R_reads' ad.out).2.2); (case side2 => exact (Kd.R_reads' ad.out).2.1); rintro e aJ ⟨aH, rfl, ax, hb⟩; refine ⟨_, rfl, ?_⟩; have ap := am (Kd.R_lower (Kd.R_new' ax (Kd.R_lt (by (with_reducible repeat (first | apply Kd.R_alloc | apply Kd.R_drewN | apply Kd.R_drew)); exact ad.out))) (below_size (bu HB.out))); replace ad := am (Kd.R_elder' (by (with_reducible repeat (first | apply Kd.R_alloc | apply Kd.R_drewN | apply Kd.R_drew)); exact ad.out) (Kd.R_base ax) hb); replace HB := be HB hb; (try clear hb); (try clear ax)))
      go_ret
      exact ⟨_, by first | rfl | (simp [errW_none, errW_some] <;> rfl) | (simp [*, errW_none, errW_some] <;> rfl), by (with_reducible repeat (first | apply Kd.R_alloc | apply Kd.R_drewN | apply Kd.R_drew)); exact Kd.R_mono ap.out (fun _ hk => trivial), by repeat (first | (with_reducible first | exact HB.out | apply below_alloc | apply pw_below_drewN | apply below_drew1) | exact HB.out)⟩
def codewrightref46_LeastAdd.f (k : Nat) (a0_0 : Int) (l0_1 : List Int) (a1_0 : Int) (l1_1 : List Int) : Option (Int × List Int) := (codewrightref46_Least.f k a0_0 l0_1).bind fun bt554 => ((codewrightref46_Least.f k a1_0 l1_1).bind fun bt558 => (if bt554.1 < bt558.1 then (some (bt554.1, bt554.2)) else (if bt558.1 < bt554.1 then (some (bt558.1, bt558.2)) else (if bt558.1 = 4611686018427387904 then (some (bt558.1, bt558.2)) else ((codewrightref01_Add.f k bt554.2 bt558.2).bind fun t562 => (some (bt554.1, t562)))))))
def codewrightref46_LeastAdd.T7 : Bool × List (List Nat × List Nat) := (true, [([], []), ([0], [0]), ([], []), ([2], [2]), ([], []), ([4], [4]), ([3, 5], [3, 5]), ([1, 6], [1, 6]), ([7, 6, 0, 1, 2, 3, 4, 5, 6, 7], [7])])
def codewrightref46_LeastAdd.B7 : List Nat := [0, 1, 0, 4, 0, 16, 60, 127, 255]
theorem codewrightref46_LeastAdd.tab7 : rtab .any (opsOf Try.f65 7) = codewrightref46_LeastAdd.T7 := by kernel_rfl
theorem codewrightref46_LeastAdd.bits7 : waitsOk codewrightref46_LeastAdd.T7.2 codewrightref46_LeastAdd.B7 = true := by kernel_rfl
theorem codewrightref46_LeastAdd.calls (k : Nat) (a0_0 : Int) (A0_1 : Option Addr) (c0_1 : Nat) (l0_1 : List Int) (a1_0 : Int) (A1_1 : Option Addr) (c1_1 : Nat) (l1_1 : List Int) (r1 : Int) (r2 : List Int) (w : World) (hr0_1 : Kd.C (Kd.int .u32) w A0_1 l0_1.length l0_1) (hc0_1 : l0_1.length ≤ c0_1) (hr1_1 : Kd.C (Kd.int .u32) w A1_1 l1_1.length l1_1) (hc1_1 : l1_1.length ≤ c1_1) (h : codewrightref46_LeastAdd.f k a0_0 l0_1 a1_0 l1_1 = some (r1, r2)) :
 Calls Try.prog 65 #[.agg #[.int .i64 a0_0, .slice A0_1 l0_1.length c0_1], .agg #[.int .i64 a1_0, .slice A1_1 l1_1.length c1_1]] w fun e w' => ∃ v1_ : Value, e = .returned (.agg #[.int .i64 r1, v1_]) ∧ Kd.V (Kd.int .u32) 48 w' w.heap.size (fun k_ => (w.heap.size ≤ k_)) v1_ r2 ∧ Below w.heap.size w w' := by
 have dB := Try.underlying53
 have aG := am hr0_1
 have aA := am hc0_1
 clear hr0_1 hc0_1
 have aH := am hr1_1
 have aB := am hc1_1
 clear hr1_1 hc1_1
 have HB := am (Below.refl w.heap.size w)
 have H : ((codewrightref46_Least.f k a0_0 l0_1).bind fun aF => ((codewrightref46_Least.f k a1_0 l1_1).bind fun aC => (if aF.1 < aC.1 then (some (aF.1, aF.2)) else (if aC.1 < aF.1 then (some (aC.1, aC.2)) else (if aC.1 = 4611686018427387904 then (some (aC.1, aC.2)) else ((codewrightref01_Add.f k aF.2 aC.2).bind fun aK => (some (aF.1, aK)))))))) = some (r1, r2) := h
 clear h
 obtain ⟨⟨au, ax⟩, A3, H⟩ := bs H
 (try dsimp -simprocs only at H)
 obtain ⟨⟨av, ay⟩, A4, H⟩ := bs H
 (try dsimp -simprocs only at H)
 by_cases c5 : au < av
 ·
  rw [if_pos c5] at H
  have cN : decide (au < av) = true := decide_eq_true c5
  clear c5
  simp only [Option.some.injEq, Prod.mk.injEq] at H
  obtain ⟨rfl, rfl⟩ := H
  go_enter Try.func65, Try.ntmps65
  go_wp2_with (first | ((with_reducible refine gate_dst (N := 2) rfl ?_); refine box_event ?hg (N := 2) ?hd (cs := #[.int .i64 a0_0, .slice A0_1 l0_1.length c0_1]) (t := 53) ?hr ?_; (case hd => rfl); (case hg => rfl); (case hr => first | (go_simp; done) | (go_simp; rfl)); intro af hg w6 hbox hb; have aa := am (hbox); have aL := ng hg (bu HB.out); have ad := ng hg (bu HB.out); replace HB := be HB hb; clear hb hbox hg) | ((with_reducible refine gate_dst (N := 3) rfl ?_); refine box_event ?hg (N := 3) ?hd (cs := #[.int .i64 a1_0, .slice A1_1 l1_1.length c1_1]) (t := 53) ?hr ?_; (case hd => rfl); (case hg => rfl); (case hr => first | (go_simp; done) | (go_simp; rfl)); intro ae hg w7 hbox hb; have ab := am (hbox); have aM := ng hg (bu1 HB.out ad.out); have ag := ng hg (bu1 HB.out ad.out); replace HB := be1 HB ad hb; have aq := nl hg aa; have ao := nr hg aa; replace aa := kb aa hb; clear hb hbox hg) | ((with_reducible refine gate_dst (N := 4) rfl ?_); refine box_event ?hg (N := 4) ?hd (cs := #[.int .i64 0, .slice none 0 0]) (t := 53) ?hr ?_; (case hd => rfl); (case hg => rfl); (case hr => first | (go_simp; done) | (go_simp; rfl)); intro ai hg w8 hbox hb; have ac := am (hbox); have aN := ng hg (bu2 HB.out ad.out ag.out); have an := ng hg (bu2 HB.out ad.out ag.out); replace HB := be2 HB ad ag hb; have aj := nl hg aa; have ak := nr hg aa; replace aa := kb aa hb; have al := nl hg ab; have ah := nr hg ab; replace ab := kb ab hb; clear hb hbox hg; have dC := aq.out; have dD := ao.out; have c9 := aj.out; have da := ak.out; have a7 : w8.cell? ⟨af, 0, none⟩ = some (.int .i64 a0_0) := bc aa 0; have a8 : w8.cell? ⟨af, 1, none⟩ = some (.slice A0_1 l0_1.length c0_1) := bc aa 1; have a9 := blk_frozen aa.out 0; have ba := blk_frozen aa.out 1) | ((with_reducible refine gate_callee (f := 69) rfl ?_); refine goesL_ (some 6) rfl rfl Try.func69 (by kernel_rfl) rfl #[.agg #[.int .i64 a0_0, .slice A0_1 l0_1.length c0_1]] rfl lu ?_; (with_reducible refine (codewrightref46_Least.calls k a0_0 _ _ l0_1 au ax _ ?side1 ?side2 A3.out).mono ?_); (case side1 => repeat (first | exact (Kd.C_below aG.out HB.out) | (with_reducible refine Kd.C_alloc ?_ _) | (with_reducible refine Kd.C_drewN ?_ _) | (with_reducible refine Kd.C_drew ?_))); (case side2 => first | exact aA.out | exact vz aA.out); rintro e bb ⟨aQ, rfl, az, hb⟩; refine ⟨_, rfl, ?_⟩; have ap := ar0 w.heap.size (ok' := fun k_ => (w.heap.size ≤ k_) ∧ k_ ≠ af ∧ k_ ≠ ae ∧ k_ ≠ ai) az (fa (fz3 HB ad ag an) (fa (fb aa) (fa (fb ab) (fb ac)))); replace aa := kb aa hb; replace ab := kb ab hb; replace ac := kb ac hb; replace HB := be3 HB ad ag an hb; (try clear hb); (try clear az); have bd : bb.cell? ⟨af, 0, none⟩ = some (.int .i64 a0_0) := bc aa 0; have bf : bb.cell? ⟨af, 1, none⟩ = some (.slice A0_1 l0_1.length c0_1) := bc aa 1; have bg := blk_frozen aa.out 0; have bh := blk_frozen aa.out 1; obtain ⟨aR, aS, cO⟩ := Kd.V_slice ap.out; subst cO; have db := al.out; have dc := ah.out; have bi : bb.cell? ⟨ae, 0, none⟩ = some (.int .i64 a1_0) := bc ab 0; have bj : bb.cell? ⟨ae, 1, none⟩ = some (.slice A1_1 l1_1.length c1_1) := bc ab 1; have bk := blk_frozen ab.out 0; have bl := blk_frozen ab.out 1) | ((with_reducible refine gate_callee (f := 69) rfl ?_); refine goesL_ (some 8) rfl rfl Try.func69 (by kernel_rfl) rfl #[.agg #[.int .i64 a1_0, .slice A1_1 l1_1.length c1_1]] rfl lu ?_; (with_reducible refine (codewrightref46_Least.calls k a1_0 _ _ l1_1 av ay _ ?side1 ?side2 A4.out).mono ?_); (case side1 => exact Kd.C_below aH.out (bu3 HB.out ad.out ag.out an.out)); (case side2 => first | exact aB.out | exact vz aB.out); rintro e aV ⟨aT, rfl, az, hb⟩; refine ⟨_, rfl, ?_⟩; replace ap := kx ap hb; have aw := ar0 w.heap.size (ok' := fun k_ => (w.heap.size ≤ k_) ∧ k_ ≠ af ∧ k_ ≠ ae ∧ k_ ≠ ai) az (fa (fz3 HB ad ag an) (fa (fs aa) (fa (fs ab) (fs ac)))); replace aa := am (blk_below (g := af) (o := .cells #[.int .i64 au, .slice aR ax.length aS] 53 (0, 0)) (by (with_reducible repeat (first | refine blk_drewN ?_ _ | refine blk_drew ?_ | refine blk_alloc ?_ _)); refine blk_put (cs := #[.int .i64 au, .slice A0_1 l0_1.length c0_1]) ?_ 1 _ rfl; (with_reducible repeat (first | refine blk_drewN ?_ _ | refine blk_drew ?_ | refine blk_alloc ?_ _)); refine blk_put (cs := #[.int .i64 a0_0, .slice A0_1 l0_1.length c0_1]) ?_ 0 _ rfl; (with_reducible repeat (first | refine blk_drewN ?_ _ | refine blk_drew ?_ | refine blk_alloc ?_ _)); exact aa.out) hb); replace ab := am (blk_below (g := ae) (o := .cells #[.int .i64 a1_0, .slice A1_1 l1_1.length c1_1] 53 (0, 0)) (kf ao.out ab.out) hb); replace ac := am (blk_below (g := ai) (o := .cells #[.int .i64 0, .slice none 0 0] 53 (0, 0)) (kf ak.out ac.out) hb); replace HB := be3 HB ad ag an hb; (try clear hb); (try clear az); have bm : aV.cell? ⟨ae, 0, none⟩ = some (.int .i64 a1_0) := bc ab 0; have bn : aV.cell? ⟨ae, 1, none⟩ = some (.slice A1_1 l1_1.length c1_1) := bc ab 1; have bo := blk_frozen ab.out 0; have bp := blk_frozen ab.out 1; obtain ⟨dE, dF, cP⟩ := Kd.V_slice aw.out; subst cP; have bq : aV.cell? ⟨af, 0, none⟩ = some (.int .i64 au) := bc aa 0; have br : aV.cell? ⟨af, 1, none⟩ = some (.slice aR ax.length aS) := bc aa 1; have bv := blk_frozen aa.out 0; have bw := blk_frozen aa.out 1; have bx : aV.cell? ⟨ai, 0, none⟩ = some (.int .i64 0) := bc ac 0; have bz : aV.cell? ⟨ai, 1, none⟩ = some (.slice none 0 0) := bc ac 1; have bA := blk_frozen ac.out 0; have bB := blk_frozen ac.out 1))
  refine bodyPost_ret (results_cell_row rfl _ _ ai 53 #[.int .i64 au, .slice aR ax.length aS] (0, 0) _ rfl (by (with_reducible repeat (first | refine blk_drewN ?_ _ | refine blk_drew ?_ | refine blk_alloc ?_ _)); refine blk_put (cs := #[.int .i64 au, .slice none 0 0]) ?_ 1 _ rfl; (with_reducible repeat (first | refine blk_drewN ?_ _ | refine blk_drew ?_ | refine blk_alloc ?_ _)); refine blk_put (cs := #[.int .i64 0, .slice none 0 0]) ?_ 0 _ rfl; (with_reducible repeat (first | refine blk_drewN ?_ _ | refine blk_drew ?_ | refine blk_alloc ?_ _)); refine blk_far ?_ ah.out _; (with_reducible repeat (first | refine blk_drewN ?_ _ | refine blk_drew ?_ | refine blk_alloc ?_ _)); refine blk_far ?_ ah.out _; (with_reducible repeat (first | refine blk_drewN ?_ _ | refine blk_drew ?_ | refine blk_alloc ?_ _)); exact ac.out) Try.underlying53 rfl (by kernel_rfl)) rfl ?_
  exact ⟨_, by first | rfl | (simp [errW_none, errW_some] <;> rfl) | (simp [*, errW_none, errW_some] <;> rfl), by exact vf ap.out, by repeat (first | (with_reducible first | exact HB.out | apply below_alloc | apply pw_below_drewN | apply below_drew1 | refine below_set ?_ ad.out | refine below_set ?_ ag.out | refine below_set ?_ an.out) | exact HB.out)⟩
 ·
  rw [if_neg c5] at H
  have cN : decide (au < av) = false := decide_eq_false c5
  clear c5
  by_cases aW : av < au
  ·
   rw [if_pos aW] at H
   have aZ : decide (av < au) = true := decide_eq_true aW
   clear aW
   simp only [Option.some.injEq, Prod.mk.injEq] at H
   obtain ⟨rfl, rfl⟩ := H
   go_enter Try.func65, Try.ntmps65
   go_wp2_with (first | ((with_reducible refine gate_dst (N := 2) rfl ?_); refine box_event ?hg (N := 2) ?hd (cs := #[.int .i64 a0_0, .slice A0_1 l0_1.length c0_1]) (t := 53) ?hr ?_; (case hd => rfl); (case hg => rfl); (case hr => first | (go_simp; done) | (go_simp; rfl)); intro af hg dJ hbox hb; have aa := am (hbox); have aL := ng hg (bu HB.out); have ad := ng hg (bu HB.out); replace HB := be HB hb; clear hb hbox hg) | ((with_reducible refine gate_dst (N := 3) rfl ?_); refine box_event ?hg (N := 3) ?hd (cs := #[.int .i64 a1_0, .slice A1_1 l1_1.length c1_1]) (t := 53) ?hr ?_; (case hd => rfl); (case hg => rfl); (case hr => first | (go_simp; done) | (go_simp; rfl)); intro ae hg dK hbox hb; have ab := am (hbox); have aM := ng hg (bu1 HB.out ad.out); have ag := ng hg (bu1 HB.out ad.out); replace HB := be1 HB ad hb; have aq := nl hg aa; have ao := nr hg aa; replace aa := kb aa hb; clear hb hbox hg) | ((with_reducible refine gate_dst (N := 4) rfl ?_); refine box_event ?hg (N := 4) ?hd (cs := #[.int .i64 0, .slice none 0 0]) (t := 53) ?hr ?_; (case hd => rfl); (case hg => rfl); (case hr => first | (go_simp; done) | (go_simp; rfl)); intro ai hg dd hbox hb; have ac := am (hbox); have aN := ng hg (bu2 HB.out ad.out ag.out); have an := ng hg (bu2 HB.out ad.out ag.out); replace HB := be2 HB ad ag hb; have aj := nl hg aa; have ak := nr hg aa; replace aa := kb aa hb; have al := nl hg ab; have ah := nr hg ab; replace ab := kb ab hb; clear hb hbox hg; have de := aq.out; have df := ao.out; have dg := aj.out; have dh := ak.out; have bC : dd.cell? ⟨af, 0, none⟩ = some (.int .i64 a0_0) := bc aa 0; have bD : dd.cell? ⟨af, 1, none⟩ = some (.slice A0_1 l0_1.length c0_1) := bc aa 1; have bE := blk_frozen aa.out 0; have bF := blk_frozen aa.out 1) | ((with_reducible refine gate_callee (f := 69) rfl ?_); refine goesL_ (some 6) rfl rfl Try.func69 (by kernel_rfl) rfl #[.agg #[.int .i64 a0_0, .slice A0_1 l0_1.length c0_1]] rfl lu ?_; (with_reducible refine (codewrightref46_Least.calls k a0_0 _ _ l0_1 au ax _ ?side1 ?side2 A3.out).mono ?_); (case side1 => repeat (first | exact (Kd.C_below aG.out HB.out) | (with_reducible refine Kd.C_alloc ?_ _) | (with_reducible refine Kd.C_drewN ?_ _) | (with_reducible refine Kd.C_drew ?_))); (case side2 => first | exact aA.out | exact vz aA.out); rintro e bG ⟨aQ, rfl, az, hb⟩; refine ⟨_, rfl, ?_⟩; have ap := ar0 w.heap.size (ok' := fun k_ => (w.heap.size ≤ k_) ∧ k_ ≠ af ∧ k_ ≠ ae ∧ k_ ≠ ai) az (fa (fz3 HB ad ag an) (fa (fb aa) (fa (fb ab) (fb ac)))); replace aa := kb aa hb; replace ab := kb ab hb; replace ac := kb ac hb; replace HB := be3 HB ad ag an hb; (try clear hb); (try clear az); have bH : bG.cell? ⟨af, 0, none⟩ = some (.int .i64 a0_0) := bc aa 0; have bI : bG.cell? ⟨af, 1, none⟩ = some (.slice A0_1 l0_1.length c0_1) := bc aa 1; have bJ := blk_frozen aa.out 0; have bK := blk_frozen aa.out 1; obtain ⟨a0, a1, cQ⟩ := Kd.V_slice ap.out; subst cQ; have di := al.out; have dj := ah.out; have bL : bG.cell? ⟨ae, 0, none⟩ = some (.int .i64 a1_0) := bc ab 0; have bM : bG.cell? ⟨ae, 1, none⟩ = some (.slice A1_1 l1_1.length c1_1) := bc ab 1; have bN := blk_frozen ab.out 0; have bO := blk_frozen ab.out 1) | ((with_reducible refine gate_callee (f := 69) rfl ?_); refine goesL_ (some 8) rfl rfl Try.func69 (by kernel_rfl) rfl #[.agg #[.int .i64 a1_0, .slice A1_1 l1_1.length c1_1]] rfl lu ?_; (with_reducible refine (codewrightref46_Least.calls k a1_0 _ _ l1_1 av ay _ ?side1 ?side2 A4.out).mono ?_); (case side1 => exact Kd.C_below aH.out (bu3 HB.out ad.out ag.out an.out)); (case side2 => first | exact aB.out | exact vz aB.out); rintro e aX ⟨aT, rfl, az, hb⟩; refine ⟨_, rfl, ?_⟩; replace ap := kx ap hb; have aw := ar0 w.heap.size (ok' := fun k_ => (w.heap.size ≤ k_) ∧ k_ ≠ af ∧ k_ ≠ ae ∧ k_ ≠ ai) az (fa (fz3 HB ad ag an) (fa (fs aa) (fa (fs ab) (fs ac)))); replace aa := am (blk_below (g := af) (o := .cells #[.int .i64 au, .slice a0 ax.length a1] 53 (0, 0)) (by (with_reducible repeat (first | refine blk_drewN ?_ _ | refine blk_drew ?_ | refine blk_alloc ?_ _)); refine blk_put (cs := #[.int .i64 au, .slice A0_1 l0_1.length c0_1]) ?_ 1 _ rfl; (with_reducible repeat (first | refine blk_drewN ?_ _ | refine blk_drew ?_ | refine blk_alloc ?_ _)); refine blk_put (cs := #[.int .i64 a0_0, .slice A0_1 l0_1.length c0_1]) ?_ 0 _ rfl; (with_reducible repeat (first | refine blk_drewN ?_ _ | refine blk_drew ?_ | refine blk_alloc ?_ _)); exact aa.out) hb); replace ab := am (blk_below (g := ae) (o := .cells #[.int .i64 a1_0, .slice A1_1 l1_1.length c1_1] 53 (0, 0)) (kf ao.out ab.out) hb); replace ac := am (blk_below (g := ai) (o := .cells #[.int .i64 0, .slice none 0 0] 53 (0, 0)) (kf ak.out ac.out) hb); replace HB := be3 HB ad ag an hb; (try clear hb); (try clear az); have bP : aX.cell? ⟨ae, 0, none⟩ = some (.int .i64 a1_0) := bc ab 0; have bQ : aX.cell? ⟨ae, 1, none⟩ = some (.slice A1_1 l1_1.length c1_1) := bc ab 1; have bR := blk_frozen ab.out 0; have bS := blk_frozen ab.out 1; obtain ⟨cR, cS, cT⟩ := Kd.V_slice aw.out; subst cT; have bT : aX.cell? ⟨af, 0, none⟩ = some (.int .i64 au) := bc aa 0; have bU : aX.cell? ⟨af, 1, none⟩ = some (.slice a0 ax.length a1) := bc aa 1; have bV := blk_frozen aa.out 0; have bW := blk_frozen aa.out 1; have bX : aX.cell? ⟨ai, 0, none⟩ = some (.int .i64 0) := bc ac 0; have bY : aX.cell? ⟨ai, 1, none⟩ = some (.slice none 0 0) := bc ac 1; have bZ := blk_frozen ac.out 0; have b0 := blk_frozen ac.out 1))
   refine bodyPost_ret (results_cell_row rfl _ _ ai 53 #[.int .i64 av, .slice cR ay.length cS] (0, 0) _ rfl (by (with_reducible repeat (first | refine blk_drewN ?_ _ | refine blk_drew ?_ | refine blk_alloc ?_ _)); refine blk_put (cs := #[.int .i64 av, .slice none 0 0]) ?_ 1 _ rfl; (with_reducible repeat (first | refine blk_drewN ?_ _ | refine blk_drew ?_ | refine blk_alloc ?_ _)); refine blk_put (cs := #[.int .i64 0, .slice none 0 0]) ?_ 0 _ rfl; (with_reducible repeat (first | refine blk_drewN ?_ _ | refine blk_drew ?_ | refine blk_alloc ?_ _)); refine blk_far ?_ ah.out _; (with_reducible repeat (first | refine blk_drewN ?_ _ | refine blk_drew ?_ | refine blk_alloc ?_ _)); refine blk_far ?_ ah.out _; (with_reducible repeat (first | refine blk_drewN ?_ _ | refine blk_drew ?_ | refine blk_alloc ?_ _)); exact ac.out) Try.underlying53 rfl (by kernel_rfl)) rfl ?_
   exact ⟨_, by first | rfl | (simp [errW_none, errW_some] <;> rfl) | (simp [*, errW_none, errW_some] <;> rfl), by exact vf aw.out, by repeat (first | (with_reducible first | exact HB.out | apply below_alloc | apply pw_below_drewN | apply below_drew1 | refine below_set ?_ ad.out | refine below_set ?_ ag.out | refine below_set ?_ an.out) | exact HB.out)⟩
  ·
   rw [if_neg aW] at H
   have aZ : decide (av < au) = false := decide_eq_false aW
   clear aW
   by_cases aU : av = 4611686018427387904
   ·
    rw [if_pos aU] at H
    have a2 : (av == 4611686018427387904) = true := beq_iff_eq.mpr aU
    have a3 : (av != 4611686018427387904) = false := bne_eq_false_iff_eq.mpr aU
    clear aU
    simp only [Option.some.injEq, Prod.mk.injEq] at H
    obtain ⟨rfl, rfl⟩ := H
    go_enter Try.func65, Try.ntmps65
    go_wp2_with (first | ((with_reducible refine gate_dst (N := 2) rfl ?_); refine box_event ?hg (N := 2) ?hd (cs := #[.int .i64 a0_0, .slice A0_1 l0_1.length c0_1]) (t := 53) ?hr ?_; (case hd => rfl); (case hg => rfl); (case hr => first | (go_simp; done) | (go_simp; rfl)); intro af hg dL hbox hb; have aa := am (hbox); have aL := ng hg (bu HB.out); have ad := ng hg (bu HB.out); replace HB := be HB hb; clear hb hbox hg) | ((with_reducible refine gate_dst (N := 3) rfl ?_); refine box_event ?hg (N := 3) ?hd (cs := #[.int .i64 a1_0, .slice A1_1 l1_1.length c1_1]) (t := 53) ?hr ?_; (case hd => rfl); (case hg => rfl); (case hr => first | (go_simp; done) | (go_simp; rfl)); intro ae hg dM hbox hb; have ab := am (hbox); have aM := ng hg (bu1 HB.out ad.out); have ag := ng hg (bu1 HB.out ad.out); replace HB := be1 HB ad hb; have aq := nl hg aa; have ao := nr hg aa; replace aa := kb aa hb; clear hb hbox hg) | ((with_reducible refine gate_dst (N := 4) rfl ?_); refine box_event ?hg (N := 4) ?hd (cs := #[.int .i64 0, .slice none 0 0]) (t := 53) ?hr ?_; (case hd => rfl); (case hg => rfl); (case hr => first | (go_simp; done) | (go_simp; rfl)); intro ai hg dk hbox hb; have ac := am (hbox); have aN := ng hg (bu2 HB.out ad.out ag.out); have an := ng hg (bu2 HB.out ad.out ag.out); replace HB := be2 HB ad ag hb; have aj := nl hg aa; have ak := nr hg aa; replace aa := kb aa hb; have al := nl hg ab; have ah := nr hg ab; replace ab := kb ab hb; clear hb hbox hg; have dl := aq.out; have dm := ao.out; have dn := aj.out; have dp := ak.out; have b1 : dk.cell? ⟨af, 0, none⟩ = some (.int .i64 a0_0) := bc aa 0; have b2 : dk.cell? ⟨af, 1, none⟩ = some (.slice A0_1 l0_1.length c0_1) := bc aa 1; have b3 := blk_frozen aa.out 0; have b4 := blk_frozen aa.out 1) | ((with_reducible refine gate_callee (f := 69) rfl ?_); refine goesL_ (some 6) rfl rfl Try.func69 (by kernel_rfl) rfl #[.agg #[.int .i64 a0_0, .slice A0_1 l0_1.length c0_1]] rfl lu ?_; (with_reducible refine (codewrightref46_Least.calls k a0_0 _ _ l0_1 au ax _ ?side1 ?side2 A3.out).mono ?_); (case side1 => repeat (first | exact (Kd.C_below aG.out HB.out) | (with_reducible refine Kd.C_alloc ?_ _) | (with_reducible refine Kd.C_drewN ?_ _) | (with_reducible refine Kd.C_drew ?_))); (case side2 => first | exact aA.out | exact vz aA.out); rintro e b5 ⟨aQ, rfl, az, hb⟩; refine ⟨_, rfl, ?_⟩; have ap := ar0 w.heap.size (ok' := fun k_ => (w.heap.size ≤ k_) ∧ k_ ≠ af ∧ k_ ≠ ae ∧ k_ ≠ ai) az (fa (fz3 HB ad ag an) (fa (fb aa) (fa (fb ab) (fb ac)))); replace aa := kb aa hb; replace ab := kb ab hb; replace ac := kb ac hb; replace HB := be3 HB ad ag an hb; (try clear hb); (try clear az); have b6 : b5.cell? ⟨af, 0, none⟩ = some (.int .i64 a0_0) := bc aa 0; have b7 : b5.cell? ⟨af, 1, none⟩ = some (.slice A0_1 l0_1.length c0_1) := bc aa 1; have b8 := blk_frozen aa.out 0; have b9 := blk_frozen aa.out 1; obtain ⟨a4, a5, cU⟩ := Kd.V_slice ap.out; subst cU; have dq := al.out; have dr := ah.out; have ca : b5.cell? ⟨ae, 0, none⟩ = some (.int .i64 a1_0) := bc ab 0; have cb : b5.cell? ⟨ae, 1, none⟩ = some (.slice A1_1 l1_1.length c1_1) := bc ab 1; have cc := blk_frozen ab.out 0; have cd := blk_frozen ab.out 1) | ((with_reducible refine gate_callee (f := 69) rfl ?_); refine goesL_ (some 8) rfl rfl Try.func69 (by kernel_rfl) rfl #[.agg #[.int .i64 a1_0, .slice A1_1 l1_1.length c1_1]] rfl lu ?_; (with_reducible refine (codewrightref46_Least.calls k a1_0 _ _ l1_1 av ay _ ?side1 ?side2 A4.out).mono ?_); (case side1 => exact Kd.C_below aH.out (bu3 HB.out ad.out ag.out an.out)); (case side2 => first | exact aB.out | exact vz aB.out); rintro e aY ⟨aT, rfl, az, hb⟩; refine ⟨_, rfl, ?_⟩; replace ap := kx ap hb; have aw := ar0 w.heap.size (ok' := fun k_ => (w.heap.size ≤ k_) ∧ k_ ≠ af ∧ k_ ≠ ae ∧ k_ ≠ ai) az (fa (fz3 HB ad ag an) (fa (fs aa) (fa (fs ab) (fs ac)))); replace aa := am (blk_below (g := af) (o := .cells #[.int .i64 au, .slice a4 ax.length a5] 53 (0, 0)) (by (with_reducible repeat (first | refine blk_drewN ?_ _ | refine blk_drew ?_ | refine blk_alloc ?_ _)); refine blk_put (cs := #[.int .i64 au, .slice A0_1 l0_1.length c0_1]) ?_ 1 _ rfl; (with_reducible repeat (first | refine blk_drewN ?_ _ | refine blk_drew ?_ | refine blk_alloc ?_ _)); refine blk_put (cs := #[.int .i64 a0_0, .slice A0_1 l0_1.length c0_1]) ?_ 0 _ rfl; (with_reducible repeat (first | refine blk_drewN ?_ _ | refine blk_drew ?_ | refine blk_alloc ?_ _)); exact aa.out) hb); replace ab := am (blk_below (g := ae) (o := .cells #[.int .i64 a1_0, .slice A1_1 l1_1.length c1_1] 53 (0, 0)) (kf ao.out ab.out) hb); replace ac := am (blk_below (g := ai) (o := .cells #[.int .i64 0, .slice none 0 0] 53 (0, 0)) (kf ak.out ac.out) hb); replace HB := be3 HB ad ag an hb; (try clear hb); (try clear az); have ce : aY.cell? ⟨ae, 0, none⟩ = some (.int .i64 a1_0) := bc ab 0; have cf : aY.cell? ⟨ae, 1, none⟩ = some (.slice A1_1 l1_1.length c1_1) := bc ab 1; have cg := blk_frozen ab.out 0; have ch := blk_frozen ab.out 1; obtain ⟨cV, cW, cX⟩ := Kd.V_slice aw.out; subst cX; have ci : aY.cell? ⟨af, 0, none⟩ = some (.int .i64 au) := bc aa 0; have cj : aY.cell? ⟨af, 1, none⟩ = some (.slice a4 ax.length a5) := bc aa 1; have ck := blk_frozen aa.out 0; have cl := blk_frozen aa.out 1; have cm : aY.cell? ⟨ai, 0, none⟩ = some (.int .i64 0) := bc ac 0; have cn : aY.cell? ⟨ai, 1, none⟩ = some (.slice none 0 0) := bc ac 1; have co := blk_frozen ac.out 0; have cp := blk_frozen ac.out 1))
    refine bodyPost_ret (results_cell_row rfl _ _ ai 53 #[.int .i64 av, .slice cV ay.length cW] (0, 0) _ rfl (by (with_reducible repeat (first | refine blk_drewN ?_ _ | refine blk_drew ?_ | refine blk_alloc ?_ _)); refine blk_put (cs := #[.int .i64 av, .slice none 0 0]) ?_ 1 _ rfl; (with_reducible repeat (first | refine blk_drewN ?_ _ | refine blk_drew ?_ | refine blk_alloc ?_ _)); refine blk_put (cs := #[.int .i64 0, .slice none 0 0]) ?_ 0 _ rfl; (with_reducible repeat (first | refine blk_drewN ?_ _ | refine blk_drew ?_ | refine blk_alloc ?_ _)); refine blk_far ?_ ah.out _; (with_reducible repeat (first | refine blk_drewN ?_ _ | refine blk_drew ?_ | refine blk_alloc ?_ _)); refine blk_far ?_ ah.out _; (with_reducible repeat (first | refine blk_drewN ?_ _ | refine blk_drew ?_ | refine blk_alloc ?_ _)); exact ac.out) Try.underlying53 rfl (by kernel_rfl)) rfl ?_
    exact ⟨_, by first | rfl | (simp [errW_none, errW_some] <;> rfl) | (simp [*, errW_none, errW_some] <;> rfl), by exact vf aw.out, by repeat (first | (with_reducible first | exact HB.out | apply below_alloc | apply pw_below_drewN | apply below_drew1 | refine below_set ?_ ad.out | refine below_set ?_ ag.out | refine below_set ?_ an.out) | exact HB.out)⟩
   ·
    rw [if_neg aU] at H
    have a2 : (av == 4611686018427387904) = false := beq_eq_false_iff_ne.mpr aU
    have a3 : (av != 4611686018427387904) = true := bne_iff_ne.mpr aU
    obtain ⟨aK, dG, H⟩ := bs H
    replace H : (some (au, aK)) = some (r1, r2) := H
    simp only [Option.some.injEq, Prod.mk.injEq] at H
    obtain ⟨rfl, rfl⟩ := H
    go_enter Try.func65, Try.ntmps65
    try go_wp2_with (first | ((with_reducible refine gate_dst (N := 2) rfl ?_); refine box_event ?hg (N := 2) ?hd (cs := #[.int .i64 a0_0, .slice A0_1 l0_1.length c0_1]) (t := 53) ?hr ?_; (case hd => rfl); (case hg => rfl); (case hr => first | (go_simp; done) | (go_simp; rfl)); intro af hg dN hbox hb; have aa := am (hbox); have aL := ng hg (bu HB.out); have ad := ng hg (bu HB.out); replace HB := be HB hb; clear hb hbox hg) | ((with_reducible refine gate_dst (N := 3) rfl ?_); refine box_event ?hg (N := 3) ?hd (cs := #[.int .i64 a1_0, .slice A1_1 l1_1.length c1_1]) (t := 53) ?hr ?_; (case hd => rfl); (case hg => rfl); (case hr => first | (go_simp; done) | (go_simp; rfl)); intro ae hg dO hbox hb; have ab := am (hbox); have aM := ng hg (bu1 HB.out ad.out); have ag := ng hg (bu1 HB.out ad.out); replace HB := be1 HB ad hb; have aq := nl hg aa; have ao := nr hg aa; replace aa := kb aa hb; clear hb hbox hg) | ((with_reducible refine gate_dst (N := 4) rfl ?_); refine box_event ?hg (N := 4) ?hd (cs := #[.int .i64 0, .slice none 0 0]) (t := 53) ?hr ?_; (case hd => rfl); (case hg => rfl); (case hr => first | (go_simp; done) | (go_simp; rfl)); intro ai hg dt hbox hb; have ac := am (hbox); have aN := ng hg (bu2 HB.out ad.out ag.out); have an := ng hg (bu2 HB.out ad.out ag.out); replace HB := be2 HB ad ag hb; have aj := nl hg aa; have ak := nr hg aa; replace aa := kb aa hb; have al := nl hg ab; have ah := nr hg ab; replace ab := kb ab hb; clear hb hbox hg; have du := aq.out; have dv := ao.out; have dw := aj.out; have dx := ak.out; have cq : dt.cell? ⟨af, 0, none⟩ = some (.int .i64 a0_0) := bc aa 0; have cr : dt.cell? ⟨af, 1, none⟩ = some (.slice A0_1 l0_1.length c0_1) := bc aa 1; have ct := blk_frozen aa.out 0; have cv := blk_frozen aa.out 1) | ((with_reducible refine gate_callee (f := 69) rfl ?_); refine goesL_ (some 6) rfl rfl Try.func69 (by kernel_rfl) rfl #[.agg #[.int .i64 a0_0, .slice A0_1 l0_1.length c0_1]] rfl lu ?_; (with_reducible refine (codewrightref46_Least.calls k a0_0 _ _ l0_1 au ax _ ?side1 ?side2 A3.out).mono ?_); (case side1 => repeat (first | exact (Kd.C_below aG.out HB.out) | (with_reducible refine Kd.C_alloc ?_ _) | (with_reducible refine Kd.C_drewN ?_ _) | (with_reducible refine Kd.C_drew ?_))); (case side2 => first | exact aA.out | exact vz aA.out); rintro e cw ⟨aQ, rfl, az, hb⟩; refine ⟨_, rfl, ?_⟩; have ap := ar0 w.heap.size (ok' := fun k_ => (w.heap.size ≤ k_) ∧ k_ ≠ af ∧ k_ ≠ ae ∧ k_ ≠ ai) az (fa (fz3 HB ad ag an) (fa (fb aa) (fa (fb ab) (fb ac)))); replace aa := kb aa hb; replace ab := kb ab hb; replace ac := kb ac hb; replace HB := be3 HB ad ag an hb; (try clear hb); (try clear az); have cx : cw.cell? ⟨af, 0, none⟩ = some (.int .i64 a0_0) := bc aa 0; have cy : cw.cell? ⟨af, 1, none⟩ = some (.slice A0_1 l0_1.length c0_1) := bc aa 1; have cz := blk_frozen aa.out 0; have cA := blk_frozen aa.out 1; obtain ⟨aI, aJ, cY⟩ := Kd.V_slice ap.out; subst cY; have dy := al.out; have dz := ah.out; have cB : cw.cell? ⟨ae, 0, none⟩ = some (.int .i64 a1_0) := bc ab 0; have cC : cw.cell? ⟨ae, 1, none⟩ = some (.slice A1_1 l1_1.length c1_1) := bc ab 1; have cD := blk_frozen ab.out 0; have cE := blk_frozen ab.out 1) | ((with_reducible refine gate_callee (f := 69) rfl ?_); refine goesL_ (some 8) rfl rfl Try.func69 (by kernel_rfl) rfl #[.agg #[.int .i64 a1_0, .slice A1_1 l1_1.length c1_1]] rfl lu ?_; (with_reducible refine (codewrightref46_Least.calls k a1_0 _ _ l1_1 av ay _ ?side1 ?side2 A4.out).mono ?_); (case side1 => exact Kd.C_below aH.out (bu3 HB.out ad.out ag.out an.out)); (case side2 => first | exact aB.out | exact vz aB.out); rintro e aO ⟨aT, rfl, az, hb⟩; refine ⟨_, rfl, ?_⟩; replace ap := kx ap hb; have aw := ar0 w.heap.size (ok' := fun k_ => (w.heap.size ≤ k_) ∧ k_ ≠ af ∧ k_ ≠ ae ∧ k_ ≠ ai) az (fa (fz3 HB ad ag an) (fa (fs aa) (fa (fs ab) (fs ac)))); replace aa := am (blk_below (g := af) (o := .cells #[.int .i64 au, .slice aI ax.length aJ] 53 (0, 0)) (by (with_reducible repeat (first | refine blk_drewN ?_ _ | refine blk_drew ?_ | refine blk_alloc ?_ _)); refine blk_put (cs := #[.int .i64 au, .slice A0_1 l0_1.length c0_1]) ?_ 1 _ rfl; (with_reducible repeat (first | refine blk_drewN ?_ _ | refine blk_drew ?_ | refine blk_alloc ?_ _)); refine blk_put (cs := #[.int .i64 a0_0, .slice A0_1 l0_1.length c0_1]) ?_ 0 _ rfl; (with_reducible repeat (first | refine blk_drewN ?_ _ | refine blk_drew ?_ | refine blk_alloc ?_ _)); exact aa.out) hb); replace ab := am (blk_below (g := ae) (o := .cells #[.int .i64 a1_0, .slice A1_1 l1_1.length c1_1] 53 (0, 0)) (kf ao.out ab.out) hb); replace ac := am (blk_below (g := ai) (o := .cells #[.int .i64 0, .slice none 0 0] 53 (0, 0)) (kf ak.out ac.out) hb); replace HB := be3 HB ad ag an hb; (try clear hb); (try clear az); have cF : aO.cell? ⟨ae, 0, none⟩ = some (.int .i64 a1_0) := bc ab 0; have cG : aO.cell? ⟨ae, 1, none⟩ = some (.slice A1_1 l1_1.length c1_1) := bc ab 1; have cH := blk_frozen ab.out 0; have cI := blk_frozen ab.out 1; obtain ⟨aD, aE, cZ⟩ := Kd.V_slice aw.out; subst cZ; have cJ : aO.cell? ⟨af, 0, none⟩ = some (.int .i64 au) := bc aa 0; have cK : aO.cell? ⟨af, 1, none⟩ = some (.slice aI ax.length aJ) := bc aa 1; have cL := blk_frozen aa.out 0; have cM := blk_frozen aa.out 1))
    have c0 : Aside0 (Kd.V (Kd.int .u32) 48 ((aO.setCell ⟨ae, 0, none⟩ (.int .i64 av)).setCell ⟨ae, 1, none⟩ (.slice aD ay.length aE)) w.heap.size (fun k_ => (w.heap.size ≤ k_) ∧ k_ ≠ af ∧ k_ ≠ ae ∧ k_ ≠ ai) (.slice aI ax.length aJ) ax) := ⟨by exact vf ap.out⟩
    have c1 : Aside0 (Kd.V (Kd.int .u32) 48 ((aO.setCell ⟨ae, 0, none⟩ (.int .i64 av)).setCell ⟨ae, 1, none⟩ (.slice aD ay.length aE)) w.heap.size (fun k_ => (w.heap.size ≤ k_) ∧ k_ ≠ af ∧ k_ ≠ ae ∧ k_ ≠ ai) (.slice aD ay.length aE) ay) := ⟨by exact vf aw.out⟩
    have c2 : Aside0 (((aO.setCell ⟨ae, 0, none⟩ (.int .i64 av)).setCell ⟨ae, 1, none⟩ (.slice aD ay.length aE)).heap[af]? = some (.cells #[.int .i64 au, .slice aI ax.length aJ] 53 (0, 0))) := ⟨by (with_reducible repeat (first | refine blk_drewN ?_ _ | refine blk_drew ?_ | refine blk_alloc ?_ _)); refine blk_far ?_ aq.out _; (with_reducible repeat (first | refine blk_drewN ?_ _ | refine blk_drew ?_ | refine blk_alloc ?_ _)); refine blk_far ?_ aq.out _; (with_reducible repeat (first | refine blk_drewN ?_ _ | refine blk_drew ?_ | refine blk_alloc ?_ _)); exact aa.out⟩
    have c3 : Aside0 (((aO.setCell ⟨ae, 0, none⟩ (.int .i64 av)).setCell ⟨ae, 1, none⟩ (.slice aD ay.length aE)).heap[ae]? = some (.cells #[.int .i64 av, .slice aD ay.length aE] 53 (0, 0))) := ⟨by (with_reducible repeat (first | refine blk_drewN ?_ _ | refine blk_drew ?_ | refine blk_alloc ?_ _)); refine blk_put (cs := #[.int .i64 av, .slice A1_1 l1_1.length c1_1]) ?_ 1 _ rfl; (with_reducible repeat (first | refine blk_drewN ?_ _ | refine blk_drew ?_ | refine blk_alloc ?_ _)); refine blk_put (cs := #[.int .i64 a1_0, .slice A1_1 l1_1.length c1_1]) ?_ 0 _ rfl; (with_reducible repeat (first | refine blk_drewN ?_ _ | refine blk_drew ?_ | refine blk_alloc ?_ _)); exact ab.out⟩
    have c4 : Aside0 (((aO.setCell ⟨ae, 0, none⟩ (.int .i64 av)).setCell ⟨ae, 1, none⟩ (.slice aD ay.length aE)).heap[ai]? = some (.cells #[.int .i64 0, .slice none 0 0] 53 (0, 0))) := ⟨by (with_reducible repeat (first | refine blk_drewN ?_ _ | refine blk_drew ?_ | refine blk_alloc ?_ _)); refine blk_far ?_ ah.out _; (with_reducible repeat (first | refine blk_drewN ?_ _ | refine blk_drew ?_ | refine blk_alloc ?_ _)); refine blk_far ?_ ah.out _; (with_reducible repeat (first | refine blk_drewN ?_ _ | refine blk_drew ?_ | refine blk_alloc ?_ _)); exact ac.out⟩
    have c6 : Aside0 (Below w.heap.size w ((aO.setCell ⟨ae, 0, none⟩ (.int .i64 av)).setCell ⟨ae, 1, none⟩ (.slice aD ay.length aE))) := ⟨by repeat (first | (with_reducible first | exact HB.out | apply below_alloc | apply pw_below_drewN | apply below_drew1 | refine below_set ?_ ad.out | refine below_set ?_ ag.out | refine below_set ?_ an.out) | exact HB.out)⟩
    (try clear ap)
    (try clear aw)
    (try clear aa)
    (try clear ab)
    (try clear ac)
    (try clear HB)
    generalize ((aO.setCell ⟨ae, 0, none⟩ (.int .i64 av)).setCell ⟨ae, 1, none⟩ (.slice aD ay.length aE)) = dH at c0 c1 c2 c3 c4 c6 ⊢
    have ap := c0
    have aw := c1
    have aa := c2
    have ab := c3
    have ac := c4
    have HB := c6
    clear c0 c1 c2 c3 c4 c6
    replace ap := am (Kd.V_drew ap.out)
    replace aw := am (Kd.V_drew aw.out)
    replace aa := am (blk_drew aa.out)
    replace ab := am (blk_drew ab.out)
    replace ac := am (blk_drew ac.out)
    replace HB := am (below_drew1 HB.out)
    refine start_ (n := 9) (S := fun w' => w'.cell? ⟨af, 0, none⟩ = some (.int .i64 au) ∧ w'.cell? ⟨af, 1, none⟩ = some (.slice aI ax.length aJ) ∧ w'.cell? ⟨ae, 0, none⟩ = some (.int .i64 av) ∧ w'.cell? ⟨ae, 1, none⟩ = some (.slice aD ay.length aE)) (ds := []) #[false, false, false, false, false, false, false, false, false] (by kernel_rfl) rfl rfl ⟨bc aa 0, bc aa 1, bc ab 0, bc ab 1⟩ (fun hHeld => ?_); refine with_tabW codewrightref46_LeastAdd.tab7 codewrightref46_LeastAdd.bits7 (fun HT_ HW_ => ?_)
    generalize dH.drew = dP at ap aw aa ab ac HB hHeld ⊢
    refine pq 0 (some 26) #[true, false, false, false, false, false, false, false, false] HT_ ?_
    refine pq 2 (some 28) #[true, false, true, false, false, false, false, false, false] HT_ ?_
    refine pq 4 (some 30) #[true, false, true, false, true, false, false, false, false] HT_ ?_
    refine tq 1 (some 27) #[true, true, true, false, true, false, false, false, false] HT_ HW_ hHeld ?_
    refine tq 3 (some 29) #[true, true, true, true, true, false, false, false, false] HT_ HW_ hHeld ?_
    refine tq 5 (some 31) #[true, true, true, true, true, true, false, false, false] HT_ HW_ hHeld ?_
    refine one_ (i := 6) (N := some 32) #[true, true, true, true, true, true, true, false, false] rfl rfl (one_of HT_.out (by kernel_rfl)) (by decide) (fun K hK => ?_)
    refine goes_ Try.func55 (by kernel_rfl) rfl #[.slice aI ax.length aJ, .slice aD ay.length aE] (by rfl) rfl rfl lu ?_
    with_reducible refine (codewrightref01_Add.calls k _ _ ax _ _ ay aK _ ?side1 ?side2 ?side3 ?side4 dG.out).mono ?_
    (case side1 => exact cu (Kd.V_reads' ap.out).2.2)
    (case side2 => exact (Kd.V_reads' ap.out).2.1)
    (case side3 => exact cu (Kd.V_reads' aw.out).2.2)
    (case side4 => exact (Kd.V_reads' aw.out).2.1)
    rintro e dA ⟨dI, rfl, az, hb⟩
    refine ⟨_, rfl, ?_⟩
    replace az := R_V_base rfl az
    replace ap := kv ap hb
    replace aw := kv aw hb
    have aP := ar0 w.heap.size (ok' := fun k_ => (w.heap.size ≤ k_) ∧ k_ ≠ af ∧ k_ ≠ ae ∧ k_ ≠ ai) az (fa (fz3 HB ad ag an) (fa (fb aa) (fa (fb ab) (fb ac))))
    replace aa := kb aa hb
    replace ab := kb ab hb
    replace ac := kb ac hb
    replace HB := be3 HB ad ag an hb
    (try clear hb)
    (try clear hb2)
    (try clear hk)
    (try clear hi)
    (try clear az)
    obtain ⟨c7, c8, a6⟩ := Kd.V_slice aP.out
    (first | subst a6 | (injection a6 with f1_ f2_ f3_; have f4_ := f1_.symm; have f5_ := f3_.symm; clear f1_ f2_ f3_; subst f4_; subst f5_))
    refine hK.out _ _ ⟨bc aa 0, bc aa 1, bc ab 0, bc ab 1⟩ (fun hHeld => ?_)
    clear hK K
    refine nq 32 ?_
    refine pq 7 (some 33) #[true, true, true, true, true, true, true, true, false] HT_ ?_
    refine one_ (i := 8) (N := none) #[true, true, true, true, true, true, true, true, true] rfl rfl (one_of HT_.out (by kernel_rfl)) (by decide) (fun K hK => ?_)
    have hs76 : dA.cell? ⟨ai, 0, none⟩ = some (.int .i64 0) := bc ac 0
    have hfs76 := blk_frozen ac.out 0
    have hns76_0 := aj.out
    have hns76_1 := al.out
    have hms76_0 := ak.out
    have hms76_1 := ah.out
    have hs77 : dA.cell? ⟨ai, 1, none⟩ = some (.slice none 0 0) := bc ac 1
    have hfs77 := blk_frozen ac.out 1
    have hns77_0 := aj.out
    have hns77_1 := al.out
    have hms77_0 := ak.out
    have hms77_1 := ah.out
    refine skip_ (w1 := ?_) (by rfl) rfl ?_ ?_
    rotate_left
    ·
     go_simp
     rfl
    refine hK.out _ _ ⟨((cell_far (p := ⟨ai, _, none⟩) aj.out _).trans (((cell_far (p := ⟨ai, _, none⟩) aj.out _).trans (hHeld.1)))), ((cell_far (p := ⟨ai, _, none⟩) aj.out _).trans (((cell_far (p := ⟨ai, _, none⟩) aj.out _).trans (hHeld.2.1)))), ((cell_far (p := ⟨ai, _, none⟩) al.out _).trans (((cell_far (p := ⟨ai, _, none⟩) al.out _).trans (hHeld.2.2.1)))), ((cell_far (p := ⟨ai, _, none⟩) al.out _).trans (((cell_far (p := ⟨ai, _, none⟩) al.out _).trans (hHeld.2.2.2))))⟩ (fun hHeld => ?_)
    clear hK K
    refine done_ (done_of HT_.out (by kernel_rfl)) ?_
    try go_wp2
    refine bodyPost_ret (results_cell_row rfl _ _ ai 53 #[.int .i64 au, .slice c7 aK.length c8] (0, 0) _ rfl (by (with_reducible repeat (first | refine blk_drewN ?_ _ | refine blk_drew ?_ | refine blk_alloc ?_ _)); refine blk_put (cs := #[.int .i64 au, .slice none 0 0]) ?_ 1 _ rfl; (with_reducible repeat (first | refine blk_drewN ?_ _ | refine blk_drew ?_ | refine blk_alloc ?_ _)); refine blk_put (cs := #[.int .i64 0, .slice none 0 0]) ?_ 0 _ rfl; (with_reducible repeat (first | refine blk_drewN ?_ _ | refine blk_drew ?_ | refine blk_alloc ?_ _)); exact ac.out) Try.underlying53 rfl (by kernel_rfl)) rfl ?_
    exact ⟨_, by first | rfl | (simp [errW_none, errW_some] <;> rfl) | (simp [*, errW_none, errW_some] <;> rfl), by exact vf aP.out, by repeat (first | (with_reducible first | exact HB.out | apply below_alloc | apply pw_below_drewN | apply below_drew1 | refine below_set ?_ ad.out | refine below_set ?_ ag.out | refine below_set ?_ an.out) | exact HB.out)⟩
mutual
def nat_times.l0 : Nat → List Int → List Int → List Int → Int → Int → Option (List Int)
 | 0, _, _, _, _, _ => none
 | k + 1, x1, x5, x18, x19, x20 => if x20 < x19 then (if 0 ≤ x20 then (if x20 < (x18.length : Int) then (nat_times.l1 k x1 x5 x20 (rd x18 x20) 0 x18 x19 x20 x1 (x1.length : Int) 0) else (none)) else (none)) else ((nat_short.f k x5).bind fun t338 => (some t338))
def nat_times.l1 : Nat → List Int → List Int → Int → Int → Int → List Int → Int → Int → List Int → Int → Int → Option (List Int)
 | 0, _, _, _, _, _, _, _, _, _, _, _ => none
 | k + 1, x1, x5, x6, x7, x8, x18, x19, x20, x25, x26, x27 => if x27 < x26 then (if 0 ≤ x27 then (if x27 < (x25.length : Int) then (if 0 ≤ (wrap64 (x6 + x27)) then (if (wrap64 (x6 + x27)) < (x5.length : Int) then (nat_times.l1 k x1 (x5.set ((wrap64 (x6 + x27)) : Int).toNat ((IntKind.u64.wrap ((IntKind.u64.wrap ((IntKind.u64.wrap ((IntKind.u64.wrap (x7)) * (IntKind.u64.wrap (rd x25 x27)))) + (IntKind.u64.wrap (rd x5 (wrap64 (x6 + x27)))))) + x8)) % 4294967296)) x6 x7 ((IntKind.u64.wrap ((IntKind.u64.wrap ((IntKind.u64.wrap ((IntKind.u64.wrap (x7)) * (IntKind.u64.wrap (rd x25 x27)))) + (IntKind.u64.wrap (rd x5 (wrap64 (x6 + x27)))))) + x8)) / 4294967296) x18 x19 x20 x25 x26 (wrap64 (x27 + 1))) else (none)) else (none)) else (none)) else (none)) else (if 0 ≤ (wrap64 (x6 + (x1.length : Int))) then (if (wrap64 (x6 + (x1.length : Int))) < (x5.length : Int) then (nat_times.l0 k x1 (x5.set ((wrap64 (x6 + (x1.length : Int))) : Int).toNat ((x8) % 4294967296)) x18 x19 (wrap64 (x20 + 1))) else (none)) else (none))
end
def nat_times.f (k : Nat) (l0 : List Int) (l1 : List Int) : Option (List Int) := if 0 ≤ (wrap64 ((l0.length : Int) + (l1.length : Int))) then (if (wrap64 ((l0.length : Int) + (l1.length : Int)) : Int).toNat ≤ 70368744177664 then (nat_times.l0 k l1 (List.replicate (wrap64 ((l0.length : Int) + (l1.length : Int)) : Int).toNat 0) l0 (l0.length : Int) 0) else (none)) else (none)
theorem nat_times.calls (k : Nat) (A0 : Option Addr) (c0 : Nat) (l0 : List Int) (A1 : Option Addr) (c1 : Nat) (l1 : List Int) (r : List Int) (w : World) (hr0 : Kd.C (Kd.int .u32) w A0 l0.length l0) (hc0 : l0.length ≤ c0) (hr1 : Kd.C (Kd.int .u32) w A1 l1.length l1) (hc1 : l1.length ≤ c1) (h : nat_times.f k l0 l1 = some r) :
 Calls Try.prog 180 #[.slice A0 l0.length c0, .slice A1 l1.length c1] w fun e w' => ∃ v0_ : Value, e = .returned (v0_) ∧ Kd.V (Kd.int .u32) 48 w' w.heap.size (fun k_ => (w.heap.size ≤ k_)) v0_ r ∧ Below w.heap.size w w' := by
 have bi := am hr0
 have bq := am hc0
 clear hr0 hc0
 have bj := am hr1
 have br := am hc1
 clear hr1 hc1
 have HB := am (Below.refl w.heap.size w)
 have H : (if 0 ≤ (wrap64 ((l0.length : Int) + (l1.length : Int))) then (if (wrap64 ((l0.length : Int) + (l1.length : Int)) : Int).toNat ≤ 70368744177664 then (nat_times.l0 k l1 (List.replicate (wrap64 ((l0.length : Int) + (l1.length : Int)) : Int).toNat 0) l0 (l0.length : Int) 0) else (none)) else (none)) = some r := h
 clear h
 obtain ⟨ji3, hji3⟩ : ∃ j_ : Int, (wrap64 ((l0.length : Int) + (l1.length : Int))) = j_ := ⟨_, rfl⟩
 replace H : (if 0 ≤ (ji3) then (if (ji3 : Int).toNat ≤ 70368744177664 then (nat_times.l0 k l1 (List.replicate (ji3 : Int).toNat 0) l0 (l0.length : Int) 0) else (none)) else (none)) = some r := by first | (rw [hji3] at H; exact H) | (simp only [hji3] at H ⊢; exact H)
 have hji3w : (IntKind.i64.wrap ((l0.length : Int) + (l1.length : Int))) = ji3 := (i64_w _).trans hji3
 by_cases c4 : 0 ≤ (ji3)
 ·
  rw [if_pos c4] at H
  have aw := eq_true c4
  have ax : decide (0 ≤ (ji3)) = true := decide_eq_true c4
  clear c4
  by_cases c5 : (ji3 : Int).toNat ≤ 70368744177664
  ·
   rw [if_pos c5] at H
   have ay := eq_true c5
   have az : decide ((ji3 : Int).toNat ≤ 70368744177664) = true := decide_eq_true c5
   clear c5
   obtain ⟨aA, ah⟩ : ∃ y_ : List Int, y_ = (List.replicate (ji3 : Int).toNat 0) := ⟨_, rfl⟩
   replace H : (nat_times.l0 k l1 aA l0 (l0.length : Int) 0) = some r := by first | (rw [ah]; with_reducible exact H) | (have H2_ := (Option.bind_some _ _).symm.trans H; rw [ah]; with_reducible exact H2_) | (have H2_ := (Option.bind_some _ _).symm.trans H; with_reducible exact H2_) | with_reducible exact H | (rw [ah]; exact H) | exact H
   have an := am ah
   clear ah
   have H' := am H
   clear H
   go_enter Try.func180, Try.ntmps180
   go_wp2_with (first | ((with_reducible refine gate_dst (N := 17) rfl ?_); refine Kd.R_make (Kd.int .u32) _ 48 rfl (N := 17) rfl 42 _ _ rfl ji3 rfl rfl Try.underlying42 (.int .u32 0) 4 info48 rfl (by decide) (by omega) 0 (ok := fun _ => True) (okp := fun _ => True) rfl (fun _ hk => hk) trivial (of_decide_eq_true (by first | (with_reducible assumption) | assumption)) (Nat.le_trans (Nat.mul_le_mul_right _ (of_decide_eq_true (by first | (with_reducible assumption) | assumption) : ji3.toNat ≤ 70368744177664)) (by omega)) (Below.refl _ _) (Nat.le_refl _) ?_; intro aB w6 aC hb hg_ hnew_; clear hg_ hnew_; (first | rw [← an.out] at aC | (simp only [Int.reduceToNat] at aC; rw [← an.out] at aC)); have aD := am (Kd.R_lower (Kd.R_newM (M := fun k_ => (w.heap.size ≤ k_)) aC (below_size (bu HB.out)) (fun k_ h_ => h_)) (below_size (bu HB.out))); replace HB := be HB hb; clear hb aC))
   go_loopg [20] k (fun kq bk w' => ∃ (ak : List Int) (aa : Int), bk = .int .i64 aa ∧ Aside0 (nat_times.l0 kq l1 ak l0 (l0.length : Int) aa = some r) ∧ Aside0 (kq ≤ k) ∧ Aside0 (Kd.R (Kd.int .u32) 48 w' w.heap.size (fun k_ => (w.heap.size ≤ k_)) aB ak) ∧ Aside0 (Below w.heap.size w w'))
   case atStart => exact ⟨(aA), (0), (by first | rfl | (simp; done) | (simp [*]; done)), H', ⟨Nat.le_refl _⟩, ⟨by (with_reducible repeat (first | apply Kd.R_alloc | apply Kd.R_drewN | apply Kd.R_drew)); exact Kd.R_mono aD.out (fun _ hk => hk.1)⟩, ⟨by repeat (first | (with_reducible first | exact HB.out | apply below_alloc | apply pw_below_drewN | apply below_drew1) | exact HB.out)⟩⟩
   case round =>
    clear H'
    try clear c1
    try clear p2
    try clear c4
    try clear aw
    try clear ax
    try clear c5
    try clear ay
    try clear az
    try clear p6
    obtain ⟨ak, aa, rfl, HA, HK1, ad, HB⟩ := hrel
    cases gk with
    | zero => exact absurd HA.out (by simp [nat_times.l0])
    | succ k1 =>
     have H := HA.out
     clear HA
     simp only [nat_times.l0] at H
     by_cases c8 : aa < (l0.length : Int)
     ·
      rw [if_pos c8] at H
      have aE : decide (aa < (l0.length : Int)) = true := decide_eq_true c8
      clear c8
      by_cases c9 : 0 ≤ aa
      ·
       rw [if_pos c9] at H
       have aY : decide (0 ≤ aa) = true := decide_eq_true c9
       clear c9
       by_cases aF : aa < (l0.length : Int)
       ·
        rw [if_pos aF] at H
        have aG : decide (aa < (l0.length : Int)) = true := decide_eq_true aF
        clear aF
        have H' := am H
        clear H
        have p341 : 0 ≤ (aa : Int) := of_decide_eq_true (by first | (with_reducible assumption) | assumption)
        have q341 : aa < (l0.length : Int) := of_decide_eq_true (by first | (with_reducible assumption) | assumption)
        obtain ⟨ad341, e341, af⟩ := Kd.at_int bi.out aa p341 q341
        cases e341
        replace af := (HB.out.cell (World.block_lt_of_cell? w _ af)).trans af
        replace p341 := eq_true p341
        replace q341 := eq_true q341
        go_wp2
        go_loopg [8, 27] k1 (fun kq v8 bl w' => ∃ (ac : List Int) (ae : Int) (ab : Int), v8 = .int .u64 ae ∧ bl = .int .i64 ab ∧ Aside0 (nat_times.l1 kq l1 ac aa (rd l0 aa) ae l0 (l0.length : Int) aa l1 (l1.length : Int) ab = some r) ∧ Aside0 (kq ≤ k1) ∧ Aside0 (Kd.R (Kd.int .u32) 48 w' w.heap.size (fun k_ => (w.heap.size ≤ k_)) aB ac) ∧ Aside0 (Below w.heap.size w w'))
        case atStart => exact ⟨(ak), (0), (0), (by first | rfl | (simp; done) | (simp [*]; done)), (by first | rfl | (simp; done) | (simp [*]; done)), H', ⟨Nat.le_refl _⟩, ⟨by (with_reducible repeat (first | apply Kd.R_alloc | apply Kd.R_drewN | apply Kd.R_drew)); exact ad.out⟩, ⟨by repeat (first | (with_reducible first | exact HB.out | apply below_alloc | apply pw_below_drewN | apply below_drew1) | exact HB.out)⟩⟩
        case round =>
         clear H'
         try clear c1
         try clear p2
         try clear p3
         try clear q3
         try clear hx3
         try clear c4
         try clear aw
         try clear ax
         try clear c5
         try clear ay
         try clear az
         try clear p6
         try clear c8
         try clear aE
         try clear c9
         try clear aY
         try clear aF
         try clear aG
         try clear af
         try clear p2
         try clear p341
         try clear p6
         try clear q341
         obtain ⟨ac, ae, ab, rfl, rfl, HA, HK2, ad, HB⟩ := hrel
         cases gk with
         | zero => exact absurd HA.out (by simp [nat_times.l1])
         | succ k2 =>
          have H := HA.out
          clear HA
          simp only [nat_times.l1] at H
          by_cases av : ab < (l1.length : Int)
          ·
           rw [if_pos av] at H
           have aH : decide (ab < (l1.length : Int)) = true := decide_eq_true av
           clear av
           by_cases aS : 0 ≤ ab
           ·
            rw [if_pos aS] at H
            have a9 : decide (0 ≤ ab) = true := decide_eq_true aS
            clear aS
            by_cases aT : ab < (l1.length : Int)
            ·
             rw [if_pos aT] at H
             have ba : decide (ab < (l1.length : Int)) = true := decide_eq_true aT
             clear aT
             obtain ⟨ji14, hji14⟩ : ∃ j_ : Int, (wrap64 (aa + ab)) = j_ := ⟨_, rfl⟩
             replace H : (if 0 ≤ (ji14) then (if (ji14) < (ac.length : Int) then (nat_times.l1 k2 l1 (ac.set ((ji14) : Int).toNat ((IntKind.u64.wrap ((IntKind.u64.wrap ((IntKind.u64.wrap ((IntKind.u64.wrap ((rd l0 aa))) * (IntKind.u64.wrap (rd l1 ab)))) + (IntKind.u64.wrap (rd ac (ji14))))) + ae)) % 4294967296)) aa (rd l0 aa) ((IntKind.u64.wrap ((IntKind.u64.wrap ((IntKind.u64.wrap ((IntKind.u64.wrap ((rd l0 aa))) * (IntKind.u64.wrap (rd l1 ab)))) + (IntKind.u64.wrap (rd ac (ji14))))) + ae)) / 4294967296) l0 (l0.length : Int) aa l1 (l1.length : Int) (wrap64 (ab + 1))) else (none)) else (none)) = some r := by first | (rw [hji14] at H; exact H) | (simp only [hji14] at H ⊢; exact H)
             have hji14w : (IntKind.i64.wrap (aa + ab)) = ji14 := (i64_w _).trans hji14
             by_cases aU : 0 ≤ (ji14)
             ·
              rw [if_pos aU] at H
              have bb : decide (0 ≤ (ji14)) = true := decide_eq_true aU
              clear aU
              by_cases aV : (ji14) < (ac.length : Int)
              ·
               rw [if_pos aV] at H
               have bd : decide ((ji14) < (ac.length : Int)) = true := decide_eq_true aV
               clear aV
               obtain ⟨ao, ai⟩ : ∃ y_ : List Int, y_ = (ac.set ((ji14) : Int).toNat ((IntKind.u64.wrap ((IntKind.u64.wrap ((IntKind.u64.wrap ((IntKind.u64.wrap ((rd l0 aa))) * (IntKind.u64.wrap (rd l1 ab)))) + (IntKind.u64.wrap (rd ac (ji14))))) + ae)) % 4294967296)) := ⟨_, rfl⟩
               replace H : (nat_times.l1 k2 l1 ao aa (rd l0 aa) ((IntKind.u64.wrap ((IntKind.u64.wrap ((IntKind.u64.wrap ((IntKind.u64.wrap ((rd l0 aa))) * (IntKind.u64.wrap (rd l1 ab)))) + (IntKind.u64.wrap (rd ac (ji14))))) + ae)) / 4294967296) l0 (l0.length : Int) aa l1 (l1.length : Int) (wrap64 (ab + 1))) = some r := by first | (rw [ai]; with_reducible exact H) | (have H2_ := (Option.bind_some _ _).symm.trans H; rw [ai]; with_reducible exact H2_) | (have H2_ := (Option.bind_some _ _).symm.trans H; with_reducible exact H2_) | with_reducible exact H | (rw [ai]; exact H) | exact H
               have aI := am ai
               clear ai
               have H' := am H
               clear H
               have p342 : 0 ≤ (ab : Int) := of_decide_eq_true (by first | (with_reducible assumption) | assumption)
               have q342 : ab < (l1.length : Int) := of_decide_eq_true (by first | (with_reducible assumption) | assumption)
               obtain ⟨ad342, e342, ag⟩ := Kd.at_int bj.out ab p342 q342
               cases e342
               replace ag := (HB.out.cell (World.block_lt_of_cell? w _ ag)).trans ag
               replace p342 := eq_true p342
               replace q342 := eq_true q342
               obtain ⟨bm, aZ, a0⟩ := Kd.R_slice ad.out
               subst a0
               have p343 : 0 ≤ ((ji14) : Int) := of_decide_eq_true (by first | (with_reducible assumption) | assumption)
               have q343 : (ji14) < (ac.length : Int) := of_decide_eq_true (by first | (with_reducible assumption) | assumption)
               obtain ⟨ad343, e343, al⟩ := Kd.at_int (Kd.R_reads' ad.out).2.2 (ji14) p343 q343
               cases e343
               replace p343 := eq_true p343
               replace q343 := eq_true q343
               have p17 : 0 ≤ ((ji14) : Int) := of_decide_eq_true (by first | (with_reducible assumption) | assumption)
               have q17 : ((ji14) : Int) < ((ac.length : Int) : Int) := of_decide_eq_true (by first | (with_reducible assumption) | assumption)
               obtain ⟨go17, bn, aJ, aK, gl17, cl17, HG17⟩ := Kd.R_form ad.out (by omega)
               (first | cases aJ | (injection aJ with ea_ en_ ec_; (first | subst ea_ | (injection ea_ with ea_; subst ea_)); subst ec_; clear en_))
               have GB17 := am aK
               have GG17 := am HG17
               clear aK gl17 HG17
               (first | simp only [add_plain] at al | skip)
               obtain ⟨a1, a2⟩ := Kd.R_celln 0 ad.out ((ji14) : Int) p17 q17
               replace p17 := eq_true p17
               replace q17 := eq_true q17
               have ap := Kd.R_putg ad.out ((ji14) : Int) ((IntKind.u64.wrap ((IntKind.u64.wrap ((IntKind.u64.wrap ((IntKind.u64.wrap ((rd l0 aa))) * (IntKind.u64.wrap (rd l1 ab)))) + (IntKind.u64.wrap (rd ac (ji14))))) + ae)) % 4294967296)
               go_wp2_with (first | ((with_reducible refine gate_store (t := 48) (p := 53) rfl ?_); refine store_event (t := 48) (p := 53) (v := ?vo_w20) (w1 := (wr.setCell ⟨go17, ((ji14) : Int).toNat, none⟩ (.int .u32 ((IntKind.u64.wrap ((IntKind.u64.wrap ((IntKind.u64.wrap ((IntKind.u64.wrap ((rd l0 aa))) * (IntKind.u64.wrap (rd l1 ab)))) + (IntKind.u64.wrap (rd ac (ji14))))) + ae)) % 4294967296)))) ?hg ?ho ?hn ?hr ?_; (case ho => rfl); (case hg => rfl); (case hn => rfl); (case hr => first | (go_simp; done) | (go_simp; rfl)); intro a3 hw; have hg : wr.grownBy a3 (some go17) := (by rw [hw]; exact ap.2); have hp_ : Kd.R (Kd.int .u32) 48 a3 w.heap.size (fun k_ => (w.heap.size ≤ k_)) (.slice (some ⟨go17, 0, none⟩) ac.length aZ) ao := (by rw [hw, aI.out]; exact ap.1); clear ap; replace ad := am (hp_); replace HB := am ((by rw [hw]; exact below_set (HB.out) GB17.out : Below w.heap.size w a3)); clear hg hw hp_))
               go_roundg k2
               case measure => have := HK1.out; have := HK2.out; omega
               case rel => exact ⟨(ao), ((IntKind.u64.wrap ((IntKind.u64.wrap ((IntKind.u64.wrap ((IntKind.u64.wrap ((rd l0 aa))) * (IntKind.u64.wrap (rd l1 ab)))) + (IntKind.u64.wrap (rd ac (ji14))))) + ae)) / 4294967296), (wrap64 (ab + 1)), (by first | rfl | (simp; done) | (simp only [← hji14] <;> (first | rfl | simp)) | (simp [*]; done)), (by first | rfl | (simp; done) | (simp [*]; done)), H', ⟨by have := HK1.out; have := HK2.out; omega⟩, ⟨by (with_reducible repeat (first | apply Kd.R_alloc | apply Kd.R_drewN | apply Kd.R_drew)); exact ad.out⟩, ⟨by repeat (first | (with_reducible first | exact HB.out | apply below_alloc | apply pw_below_drewN | apply below_drew1) | exact HB.out)⟩⟩
              ·
               rw [if_neg aV] at H
               exact absurd H (by simp)
             ·
              rw [if_neg aU] at H
              exact absurd H (by simp)
            ·
             rw [if_neg aT] at H
             exact absurd H (by simp)
           ·
            rw [if_neg aS] at H
            exact absurd H (by simp)
          ·
           rw [if_neg av] at H
           have aH : decide (ab < (l1.length : Int)) = false := decide_eq_false av
           clear av
           obtain ⟨ji21, hji21⟩ : ∃ j_ : Int, (wrap64 (aa + (l1.length : Int))) = j_ := ⟨_, rfl⟩
           replace H : (if 0 ≤ (ji21) then (if (ji21) < (ac.length : Int) then (nat_times.l0 k2 l1 (ac.set ((ji21) : Int).toNat ((ae) % 4294967296)) l0 (l0.length : Int) (wrap64 (aa + 1))) else (none)) else (none)) = some r := by first | (rw [hji21] at H; exact H) | (simp only [hji21] at H ⊢; exact H)
           have hji21w : (IntKind.i64.wrap (aa + (l1.length : Int))) = ji21 := (i64_w _).trans hji21
           by_cases aW : 0 ≤ (ji21)
           ·
            rw [if_pos aW] at H
            have bf : decide (0 ≤ (ji21)) = true := decide_eq_true aW
            clear aW
            by_cases aX : (ji21) < (ac.length : Int)
            ·
             rw [if_pos aX] at H
             have bg : decide ((ji21) < (ac.length : Int)) = true := decide_eq_true aX
             clear aX
             obtain ⟨aq, aj⟩ : ∃ y_ : List Int, y_ = (ac.set ((ji21) : Int).toNat ((ae) % 4294967296)) := ⟨_, rfl⟩
             replace H : (nat_times.l0 k2 l1 aq l0 (l0.length : Int) (wrap64 (aa + 1))) = some r := by first | (rw [aj]; with_reducible exact H) | (have H2_ := (Option.bind_some _ _).symm.trans H; rw [aj]; with_reducible exact H2_) | (have H2_ := (Option.bind_some _ _).symm.trans H; with_reducible exact H2_) | with_reducible exact H | (rw [aj]; exact H) | exact H
             have aL := am aj
             clear aj
             have H' := am H
             clear H
             have p24 : 0 ≤ ((ji21) : Int) := of_decide_eq_true (by first | (with_reducible assumption) | assumption)
             have q24 : ((ji21) : Int) < ((ac.length : Int) : Int) := of_decide_eq_true (by first | (with_reducible assumption) | assumption)
             obtain ⟨go24, a4, aM, aN, gl24, cl24, HG24⟩ := Kd.R_form ad.out (by omega)
             (first | cases aM | (injection aM with ea_ en_ ec_; (first | subst ea_ | (injection ea_ with ea_; subst ea_)); subst ec_; clear en_))
             have GB24 := am aN
             have GG24 := am HG24
             clear aN gl24 HG24
             obtain ⟨a5, a6⟩ := Kd.R_celln 0 ad.out ((ji21) : Int) p24 q24
             replace p24 := eq_true p24
             replace q24 := eq_true q24
             have au := Kd.R_putg ad.out ((ji21) : Int) ((ae) % 4294967296)
             go_wp2_with (first | ((with_reducible refine gate_store (t := 48) (p := 64) rfl ?_); refine store_event (t := 48) (p := 64) (v := ?vo_w26) (w1 := (wr.setCell ⟨go24, ((ji21) : Int).toNat, none⟩ (.int .u32 ((ae) % 4294967296)))) ?hg ?ho ?hn ?hr ?_; (case ho => rfl); (case hg => rfl); (case hn => rfl); (case hr => first | (go_simp; done) | (go_simp; rfl)); intro a7 hw; have hg : wr.grownBy a7 (some go24) := (by rw [hw]; exact au.2); have hp_ : Kd.R (Kd.int .u32) 48 a7 w.heap.size (fun k_ => (w.heap.size ≤ k_)) (.slice (some ⟨go24, 0, none⟩) ac.length a4) aq := (by rw [hw, aL.out]; exact au.1); clear au; replace ad := am (hp_); replace HB := am ((by rw [hw]; exact below_set (HB.out) GB24.out : Below w.heap.size w a7)); clear hg hw hp_))
             go_roundg k2
             case measure => have := HK1.out; have := HK2.out; omega
             case rel => exact ⟨(aq), (wrap64 (aa + 1)), (by first | rfl | (simp; done) | (simp [*]; done)), H', ⟨by have := HK1.out; have := HK2.out; omega⟩, ⟨by (with_reducible repeat (first | apply Kd.R_alloc | apply Kd.R_drewN | apply Kd.R_drew)); exact ad.out⟩, ⟨by repeat (first | (with_reducible first | exact HB.out | apply below_alloc | apply pw_below_drewN | apply below_drew1) | exact HB.out)⟩⟩
            ·
             rw [if_neg aX] at H
             exact absurd H (by simp)
           ·
            rw [if_neg aW] at H
            exact absurd H (by simp)
       ·
        rw [if_neg aF] at H
        exact absurd H (by simp)
      ·
       rw [if_neg c9] at H
       exact absurd H (by simp)
     ·
      rw [if_neg c8] at H
      have aE : decide (aa < (l0.length : Int)) = false := decide_eq_false c8
      clear c8
      obtain ⟨aO, bo, H⟩ := bs H
      replace H : (some aO) = some r := H
      obtain rfl := Option.some.inj H
      obtain ⟨aP, aQ, a8⟩ := Kd.R_slice ad.out
      subst a8
      go_wp2_with (first | ((with_reducible refine gate_callee (f := 179) rfl ?_); refine goesL_ (some 67) rfl rfl Try.func179 (by kernel_rfl) rfl #[.slice aP ak.length aQ] rfl lu ?_; (with_reducible refine (nat_short.calls k1 (fun k_ => some k_ = (.slice aP ak.length aQ : Value).ownBlock) _ _ ak aO _ ?side1 bo.out).mono ?_); (case side1 => exact Kd.R_V (Kd.R_tight rfl (ad.out))); rintro e bv ⟨bp, rfl, bh, hb⟩; refine ⟨_, rfl, ?_⟩; have aR := am (Kd.V_lower (Kd.V_mono (ok' := fun k_ => (w.heap.size ≤ k_)) bh (fun k_ hk_ => Or.elim hk_ (fun hs_ => ((ad.out).1 k_ hs_.symm)) (fun hn_ => (Nat.le_trans (below_size (bu HB.out)) hn_)))) (below_size (bu HB.out))); replace ad := am (Kd.R_below (by (with_reducible repeat (first | apply Kd.R_alloc | apply Kd.R_drewN | apply Kd.R_drew)); exact ad.out) hb); replace HB := be HB hb; (try clear hb); (try clear bh)))
      go_ret
      exact ⟨_, by first | rfl | (simp [errW_none, errW_some] <;> rfl) | (simp only [← hji3]; first | rfl | (simp [errW_none, errW_some] <;> rfl)) | (simp [*, errW_none, errW_some] <;> rfl), by (with_reducible repeat (first | apply Kd.V_alloc | apply Kd.V_drewN | apply Kd.V_drew)); exact aR.out, by repeat (first | (with_reducible first | exact HB.out | apply below_alloc | apply pw_below_drewN | apply below_drew1) | exact HB.out)⟩
  ·
   rw [if_neg c5] at H
   exact absurd H (by simp)
 ·
  rw [if_neg c4] at H
  exact absurd H (by simp)
def nat_Mul.l0 : Nat → List Int → List (List Int) → Int → Int → Option (List Int)
 | 0, _, _, _, _ => none
 | k + 1, x3, x7, x8, x9 => if x9 < x8 then (if 0 ≤ x9 then (if x9 < (x7.length : Int) then ((nat_short.f k (rd_L4 x7 x9)).bind fun t350 => ((nat_times.f k x3 t350).bind fun t353 => (nat_Mul.l0 k t353 x7 x8 (wrap64 (x9 + 1))))) else (none)) else (none)) else ((nat_Trim.f k x3).bind fun t356 => (some t356))
def nat_Mul.f (k : Nat) (l0 : List (List Int)) : Option (List Int) := nat_Mul.l0 k (([1] : List Int)) l0 (l0.length : Int) 0
theorem nat_Mul.calls (k : Nat) (A0 : Option Addr) (c0 : Nat) (l0 : List (List Int)) (r : List Int) (w : World) (hr0 : Kd.C (Kd.slice 48 (Kd.int .u32)) w A0 l0.length l0) (hc0 : l0.length ≤ c0) (h : nat_Mul.f k l0 = some r) :
 Calls Try.prog 145 #[.slice A0 l0.length c0] w fun e w' => ∃ v0_ : Value, e = .returned (v0_) ∧ Kd.R (Kd.int .u32) 48 w' w.heap.size (fun _ => True) v0_ r ∧ Below w.heap.size w w' := by
 have aI := am hr0
 have aQ := am hc0
 clear hr0 hc0
 have HB := am (Below.refl w.heap.size w)
 have H : (nat_Mul.l0 k (([1] : List Int)) l0 (l0.length : Int) 0) = some r := h
 clear h
 obtain ⟨ax, af⟩ : ∃ y_ : List Int, y_ = (([1] : List Int)) := ⟨_, rfl⟩
 rw [← af] at H
 have aj := am af
 clear af
 have H' := am H
 clear H
 go_enter Try.func145, Try.ntmps145
 go_wp2_with (first | ((with_reducible refine gate_dst (N := 6) rfl ?_); refine Kd.R_lit (Kd.int .u32) _ 48 ?hg (N := 6) ?hd (xs := ([1] : List Int)) (inner := [.int .u32 1]) (ok := fun _ => True) (okp := fun _ => True) ?hr ?hp (fun _ hk => hk) trivial (Below.refl _ _) (Nat.le_refl _) (by simp) ?_; (case hd => rfl); (case hg => rfl); (case hr => first | (go_simp; done) | (go_simp; rfl)); (case hp => exact (Reps.one (show Kd.M (Kd.int .u32) _ _ _ 1 [.int .u32 1] from rfl) (Reps.none _ _))); intro aJ w2 ao hb hg_ hnew_; clear hg_ hnew_; (first | rw [← aj.out] at ao | (simp only [Int.reduceToNat] at ao; rw [← aj.out] at ao)); have ap := am (Kd.R_lower ao (below_size (bu HB.out))); replace HB := be HB hb; clear hb ao))
 go_loopg [3, 9] k (fun kq v3 v9 w' => ∃ (ae : List Int) (aa : Int), v9 = .int .i64 aa ∧ Aside0 (nat_Mul.l0 kq ae l0 (l0.length : Int) aa = some r) ∧ Aside0 (kq ≤ k) ∧ Aside0 (Kd.V (Kd.int .u32) 48 w' w.heap.size (fun _ => True) v3 ae) ∧ Aside0 (Below w.heap.size w w'))
 case atStart => exact ⟨(ax), (0), (by first | rfl | (simp; done) | (simp [*]; done)), H', ⟨Nat.le_refl _⟩, ⟨Kd.R_V (by (with_reducible repeat (first | apply Kd.R_alloc | apply Kd.R_drewN | apply Kd.R_drew)); exact ap.out)⟩, ⟨by repeat (first | (with_reducible first | exact HB.out | apply below_alloc | apply pw_below_drewN | apply below_drew1) | exact HB.out)⟩⟩
 case round =>
  clear H'
  try clear c1
  try clear p2
  obtain ⟨ae, aa, rfl, HA, HK1, ab, HB⟩ := hrel
  cases gk with
  | zero => exact absurd HA.out (by simp [nat_Mul.l0])
  | succ k1 =>
   have H := HA.out
   clear HA
   simp only [nat_Mul.l0] at H
   by_cases c4 : aa < (l0.length : Int)
   ·
    rw [if_pos c4] at H
    have ay : decide (aa < (l0.length : Int)) = true := decide_eq_true c4
    clear c4
    by_cases c5 : 0 ≤ aa
    ·
     rw [if_pos c5] at H
     have aK : decide (0 ≤ aa) = true := decide_eq_true c5
     clear c5
     by_cases c6 : aa < (l0.length : Int)
     ·
      rw [if_pos c6] at H
      have aL : decide (aa < (l0.length : Int)) = true := decide_eq_true c6
      clear c6
      obtain ⟨ak, A7, H⟩ := bs H
      (try dsimp -simprocs only at H)
      obtain ⟨aq, A8, H⟩ := bs H
      (try dsimp -simprocs only at H)
      have H' := am H
      clear H
      have p349 : 0 ≤ (aa : Int) := of_decide_eq_true (by first | (with_reducible assumption) | assumption)
      have q349 : aa < (l0.length : Int) := of_decide_eq_true (by first | (with_reducible assumption) | assumption)
      obtain ⟨ad349, al, an, e349, ac, hl349_0, hi349_0⟩ := at_L4 aI.out aa p349 q349
      cases e349
      replace ac := (HB.out.cell (World.block_lt_of_cell? w _ ac)).trans ac
      have ag := am hi349_0
      have ah := am hl349_0
      clear hi349_0 hl349_0
      replace p349 := eq_true p349
      replace q349 := eq_true q349
      go_wp2_with (first | ((with_reducible refine gate_callee (f := 179) rfl ?_); refine goesL_ (some 15) rfl rfl Try.func179 (by kernel_rfl) rfl #[.slice al (rd_L4 l0 aa).length an] rfl lu ?_; (with_reducible refine (nat_short.calls k1 (fun k_ => k_ < w.heap.size) _ _ (rd_L4 l0 aa) ak _ ?side1 A7.out).mono ?_); (case side1 => exact Kd.V_mk ah.out (Kd.F_below (Kd.C_F (Kd.heap_int .u32) ag.out) (bu HB.out))); rintro e w9 ⟨aM, rfl, ai, hb⟩; refine ⟨_, rfl, ?_⟩; replace ab := kv ab hb; have ad := am (Kd.V_lower (Kd.V_mono (ok' := fun k_ => True) ai (fun k_ hk_ => trivial)) (below_size (bu HB.out))); replace HB := be HB hb; (try clear hb); (try clear ai); obtain ⟨az, aA, aB⟩ := Kd.V_slice ab.out; subst aB; obtain ⟨aC, aD, aE⟩ := Kd.V_slice ad.out; subst aE) | ((with_reducible refine gate_callee (f := 180) rfl ?_); refine goesL_ (some 16) rfl rfl Try.func180 (by kernel_rfl) rfl #[.slice az ae.length aA, .slice aC ak.length aD] rfl lu ?_; (with_reducible refine (nat_times.calls k1 _ _ ae _ _ ak aq _ ?side1 ?side2 ?side3 ?side4 A8.out).mono ?_); (case side1 => exact cu (Kd.V_reads' ab.out).2.2); (case side2 => exact (Kd.V_reads' ab.out).2.1); (case side3 => exact cu (Kd.V_reads' ad.out).2.2); (case side4 => exact (Kd.V_reads' ad.out).2.1); rintro e aR ⟨aN, rfl, ai, hb⟩; refine ⟨_, rfl, ?_⟩; replace ab := kv ab hb; replace ad := kv ad hb; have au := am (Kd.V_lower (Kd.V_mono (ok' := fun k_ => True) ai (fun k_ hk_ => trivial)) (below_size (bu HB.out))); replace HB := be HB hb; (try clear hb); (try clear ai)))
      go_roundg k1
      case measure => have := HK1.out; omega
      case rel => exact ⟨(aq), (wrap64 (aa + 1)), (by first | rfl | (simp; done) | (simp [*]; done)), H', ⟨by have := HK1.out; omega⟩, ⟨by (with_reducible repeat (first | apply Kd.V_alloc | apply Kd.V_drewN | apply Kd.V_drew)); exact au.out⟩, ⟨by repeat (first | (with_reducible first | exact HB.out | apply below_alloc | apply pw_below_drewN | apply below_drew1) | exact HB.out)⟩⟩
     ·
      rw [if_neg c6] at H
      exact absurd H (by simp)
    ·
     rw [if_neg c5] at H
     exact absurd H (by simp)
   ·
    rw [if_neg c4] at H
    have ay : decide (aa < (l0.length : Int)) = false := decide_eq_false c4
    clear c4
    obtain ⟨av, aO, H⟩ := bs H
    replace H : (some av) = some r := H
    obtain rfl := Option.some.inj H
    obtain ⟨aF, aG, aH⟩ := Kd.V_slice ab.out
    subst aH
    go_wp2_with (first | ((with_reducible refine gate_callee (f := 177) rfl ?_); refine goesL_ (some 19) rfl rfl Try.func177 (by kernel_rfl) rfl #[.slice aF ae.length aG] rfl lu ?_; (with_reducible refine (nat_Trim.calls k1 _ _ ae av _ ?side1 ?side2 aO.out).mono ?_); (case side1 => exact cu (Kd.V_reads' ab.out).2.2); (case side2 => exact (Kd.V_reads' ab.out).2.1); rintro e aS ⟨aP, rfl, ai, hb⟩; refine ⟨_, rfl, ?_⟩; replace ab := am (Kd.V_elder' (vu ab.out) (Kd.R_base ai) hb); have aw := am (Kd.R_lower ai (below_size (bu HB.out))); replace HB := be HB hb; (try clear hb); (try clear ai)))
    go_ret
    exact ⟨_, by first | rfl | (simp [errW_none, errW_some] <;> rfl) | (simp [*, errW_none, errW_some] <;> rfl), by (with_reducible repeat (first | apply Kd.R_alloc | apply Kd.R_drewN | apply Kd.R_drew)); exact aw.out, by repeat (first | (with_reducible first | exact HB.out | apply below_alloc | apply pw_below_drewN | apply below_drew1) | exact HB.out)⟩
def semiring_Leasts_Mul.f (k : Nat)  (a1_0 : Int) (l1_1 : List Int) (a2_0 : Int) (l2_1 : List Int) : Option (Int × List Int) := (semiring_least.f k a1_0 l1_1).bind fun bt569 => ((semiring_least.f k a2_0 l2_1).bind fun bt573 => ((semiring_capped.f bt569.1 bt573.1).bind fun t579 => (if t579 = 4611686018427387904 then ((semiring_never.f).bind fun bt580 => (some (bt580.1, bt580.2))) else ((nat_Mul.f k (([bt569.2, bt573.2] : List (List Int)))).bind fun t587 => (some (t579, t587))))))
def semiring_Leasts_Mul.T1 : Bool × List (List Nat × List Nat) := (true, [([], []), ([0], [0]), ([], []), ([2, 1], [2]), ([], []), ([], []), ([4, 1, 3, 0, 1, 4, 5], [1, 4]), ([5, 3, 6, 0, 1, 2, 3, 4, 5, 6], [3, 5])])
def semiring_Leasts_Mul.B1 : List Nat := [0, 1, 0, 7, 0, 0, 63, 127]
theorem semiring_Leasts_Mul.tab1 : rtab .any (opsOf Try.f66 1) = semiring_Leasts_Mul.T1 := by kernel_rfl
theorem semiring_Leasts_Mul.bits1 : waitsOk semiring_Leasts_Mul.T1.2 semiring_Leasts_Mul.B1 = true := by kernel_rfl
theorem semiring_Leasts_Mul.calls (k : Nat)  (a1_0 : Int) (A1_1 : Option Addr) (c1_1 : Nat) (l1_1 : List Int) (a2_0 : Int) (A2_1 : Option Addr) (c2_1 : Nat) (l2_1 : List Int) (r1 : Int) (r2 : List Int) (w : World) (hr1_1 : Kd.C (Kd.int .u32) w A1_1 l1_1.length l1_1) (hc1_1 : l1_1.length ≤ c1_1) (hr2_1 : Kd.C (Kd.int .u32) w A2_1 l2_1.length l2_1) (hc2_1 : l2_1.length ≤ c2_1) (h : semiring_Leasts_Mul.f k a1_0 l1_1 a2_0 l2_1 = some (r1, r2)) :
 Calls Try.prog 66 #[.agg #[], .agg #[.int .i64 a1_0, .slice A1_1 l1_1.length c1_1], .agg #[.int .i64 a2_0, .slice A2_1 l2_1.length c2_1]] w fun e w' => ∃ v1_ : Value, e = .returned (.agg #[.int .i64 r1, v1_]) ∧ Kd.V (Kd.int .u32) 48 w' w.heap.size (fun k_ => (w.heap.size ≤ k_)) v1_ r2 ∧ Below w.heap.size w w' := by
 have d3 := Try.underlying54
 have d4 := Try.underlying53
 have bY := am hr1_1
 have bv := am hc1_1
 clear hr1_1 hc1_1
 have bZ := am hr2_1
 have bw := am hc2_1
 clear hr2_1 hc2_1
 have HB := am (Below.refl w.heap.size w)
 have H : ((semiring_least.f k a1_0 l1_1).bind fun cj => ((semiring_least.f k a2_0 l2_1).bind fun ck => ((semiring_capped.f cj.1 ck.1).bind fun bi => (if bi = 4611686018427387904 then ((semiring_never.f).bind fun cl => (some (cl.1, cl.2))) else ((nat_Mul.f k (([cj.2, ck.2] : List (List Int)))).bind fun bz => (some (bi, bz))))))) = some (r1, r2) := h
 clear h
 obtain ⟨⟨aS, aQ⟩, A4, H⟩ := bs H
 (try dsimp -simprocs only at H)
 obtain ⟨⟨a1, aR⟩, A5, H⟩ := bs H
 (try dsimp -simprocs only at H)
 obtain ⟨bi, A6, H⟩ := bs H
 (try dsimp -simprocs only at H)
 go_enter Try.func66, Try.ntmps66
 try go_wp2_with (first | ((with_reducible refine gate_dst (N := 3) rfl ?_); refine box_event ?hg (N := 3) ?hd (cs := #[]) (t := 54) ?hr ?_; (case hd => rfl); (case hg => rfl); (case hr => first | (go_simp; done) | (go_simp; rfl)); intro ax hg w9 hbox hb; have ac := am (hbox); have da := ng hg (bu HB.out); have ai := ng hg (bu HB.out); replace HB := be HB hb; clear hb hbox hg) | ((with_reducible refine gate_dst (N := 4) rfl ?_); refine box_event ?hg (N := 4) ?hd (cs := #[.int .i64 a1_0, .slice A1_1 l1_1.length c1_1]) (t := 53) ?hr ?_; (case hd => rfl); (case hg => rfl); (case hr => first | (go_simp; done) | (go_simp; rfl)); intro ae hg ea hbox hb; have aa := am (hbox); have db := ng hg (bu1 HB.out ai.out); have ak := ng hg (bu1 HB.out ai.out); replace HB := be1 HB ai hb; have co := nl hg ac; have cp := nr hg ac; replace ac := kb ac hb; clear hb hbox hg) | ((with_reducible refine gate_dst (N := 5) rfl ?_); refine box_event ?hg (N := 5) ?hd (cs := #[.int .i64 a2_0, .slice A2_1 l2_1.length c2_1]) (t := 53) ?hr ?_; (case hd => rfl); (case hg => rfl); (case hr => first | (go_simp; done) | (go_simp; rfl)); intro af hg eb hbox hb; have ab := am (hbox); have dc := ng hg (bu2 HB.out ai.out ak.out); have al := ng hg (bu2 HB.out ai.out ak.out); replace HB := be2 HB ai ak hb; have cq := nl hg ac; have cr := nr hg ac; replace ac := kb ac hb; have ct := nl hg aa; have cv := nr hg aa; replace aa := kb aa hb; clear hb hbox hg) | ((with_reducible refine gate_dst (N := 6) rfl ?_); refine box_event ?hg (N := 6) ?hd (cs := #[.int .i64 0, .slice none 0 0]) (t := 53) ?hr ?_; (case hd => rfl); (case hg => rfl); (case hr => first | (go_simp; done) | (go_simp; rfl)); intro aj hg d5 hbox hb; have ad := am (hbox); have dd := ng hg (bu3 HB.out ai.out ak.out al.out); have au := ng hg (bu3 HB.out ai.out ak.out al.out); replace HB := be3 HB ai ak al hb; have bm := nl hg ac; have bO := nr hg ac; replace ac := kb ac hb; have bn := nl hg aa; have bP := nr hg aa; replace aa := kb aa hb; have bo := nl hg ab; have bQ := nr hg ab; replace ab := kb ab hb; clear hb hbox hg))
 replace ac := am (blk_drew ac.out)
 replace aa := am (blk_drew aa.out)
 replace ab := am (blk_drew ab.out)
 replace ad := am (blk_drew ad.out)
 replace HB := am (below_drew1 HB.out)
 refine start_ (n := 8) (S := fun w' => w'.cell? ⟨ae, 0, none⟩ = some (.int .i64 a1_0) ∧ w'.cell? ⟨ae, 1, none⟩ = some (.slice A1_1 l1_1.length c1_1) ∧ w'.cell? ⟨af, 0, none⟩ = some (.int .i64 a2_0) ∧ w'.cell? ⟨af, 1, none⟩ = some (.slice A2_1 l2_1.length c2_1)) (ds := []) #[false, false, false, false, false, false, false, false] (by kernel_rfl) rfl rfl ⟨bc aa 0, bc aa 1, bc ab 0, bc ab 1⟩ (fun hHeld => ?_); refine with_tabW semiring_Leasts_Mul.tab1 semiring_Leasts_Mul.bits1 (fun HT_ HW_ => ?_)
 generalize d5.drew = ec at ac aa ab ad HB hHeld ⊢
 refine tq 0 (some 10) #[true, false, false, false, false, false, false, false] HT_ HW_ hHeld ?_
 refine tq 2 (some 12) #[true, false, true, false, false, false, false, false] HT_ HW_ hHeld ?_
 refine join_ (σ := Value × Value × Nat × Nat) 2 #[true, true, true, true, true, true, false, false] (fun s_ => [(11, .agg #[.int .i64 aS, s_.1]), (13, .agg #[.int .i64 a1, s_.2.1]), (7, .pointer (some ⟨s_.2.2.1, 0, none⟩)), (8, .pointer (some ⟨s_.2.2.2, 0, none⟩))]) (fun s_ w' => (w'.cell? ⟨ae, 0, none⟩ = some (.int .i64 a1_0) ∧ w'.cell? ⟨ae, 1, none⟩ = some (.slice A1_1 l1_1.length c1_1) ∧ w'.cell? ⟨af, 0, none⟩ = some (.int .i64 a2_0) ∧ w'.cell? ⟨af, 1, none⟩ = some (.slice A2_1 l2_1.length c2_1)) ∧ (Kd.V (Kd.int .u32) 48 w' w.heap.size (fun k_ => (w.heap.size ≤ k_) ∧ k_ ≠ ax ∧ k_ ≠ ae ∧ k_ ≠ af ∧ k_ ≠ aj ∧ k_ ≠ s_.2.2.1 ∧ k_ ≠ s_.2.2.2) s_.1 aQ) ∧ (Kd.V (Kd.int .u32) 48 w' w.heap.size (fun k_ => (w.heap.size ≤ k_) ∧ k_ ≠ ax ∧ k_ ≠ ae ∧ k_ ≠ af ∧ k_ ≠ aj ∧ k_ ≠ s_.2.2.1 ∧ k_ ≠ s_.2.2.2) s_.2.1 aR) ∧ (w'.heap[ax]? = some (.cells #[] 54 (0, 0))) ∧ (w'.heap[ae]? = some (.cells #[.int .i64 a1_0, .slice A1_1 l1_1.length c1_1] 53 (0, 0))) ∧ (w'.heap[af]? = some (.cells #[.int .i64 a2_0, .slice A2_1 l2_1.length c2_1] 53 (0, 0))) ∧ (w'.heap[aj]? = some (.cells #[.int .i64 0, .slice none 0 0] 53 (0, 0))) ∧ (w'.heap[s_.2.2.1]? = some (.cells #[.int .i64 0, .slice none 0 0] 53 (0, 0))) ∧ (w'.heap[s_.2.2.2]? = some (.cells #[.int .i64 0, .slice none 0 0] 53 (0, 0))) ∧ (w.heap.size ≤ s_.2.2.1) ∧ (w.heap.size ≤ s_.2.2.1) ∧ (ax ≠ s_.2.2.1) ∧ (s_.2.2.1 ≠ ax) ∧ (ae ≠ s_.2.2.1) ∧ (s_.2.2.1 ≠ ae) ∧ (af ≠ s_.2.2.1) ∧ (s_.2.2.1 ≠ af) ∧ (aj ≠ s_.2.2.1) ∧ (s_.2.2.1 ≠ aj) ∧ (s_.2.2.2 ≠ s_.2.2.1) ∧ (s_.2.2.1 ≠ s_.2.2.2) ∧ (w.heap.size ≤ s_.2.2.2) ∧ (w.heap.size ≤ s_.2.2.2) ∧ (ax ≠ s_.2.2.2) ∧ (s_.2.2.2 ≠ ax) ∧ (ae ≠ s_.2.2.2) ∧ (s_.2.2.2 ≠ ae) ∧ (af ≠ s_.2.2.2) ∧ (s_.2.2.2 ≠ af) ∧ (aj ≠ s_.2.2.2) ∧ (s_.2.2.2 ≠ aj) ∧ (Below w.heap.size w w')) ?_ ?_
 rotate_left
 ·
  intro hJ1_3_4_5
  refine join_ (σ := Value × Value × Nat) 3 #[true, true, true, true, true, false, false, false] (fun s_ => [(11, .agg #[.int .i64 aS, s_.1]), (13, .agg #[.int .i64 a1, s_.2.1]), (7, .pointer (some ⟨s_.2.2, 0, none⟩))]) (fun s_ w' => (w'.cell? ⟨ae, 0, none⟩ = some (.int .i64 a1_0) ∧ w'.cell? ⟨ae, 1, none⟩ = some (.slice A1_1 l1_1.length c1_1) ∧ w'.cell? ⟨af, 0, none⟩ = some (.int .i64 a2_0) ∧ w'.cell? ⟨af, 1, none⟩ = some (.slice A2_1 l2_1.length c2_1)) ∧ (Kd.V (Kd.int .u32) 48 w' w.heap.size (fun k_ => (w.heap.size ≤ k_) ∧ k_ ≠ ax ∧ k_ ≠ ae ∧ k_ ≠ af ∧ k_ ≠ aj ∧ k_ ≠ s_.2.2) s_.1 aQ) ∧ (Kd.V (Kd.int .u32) 48 w' w.heap.size (fun k_ => (w.heap.size ≤ k_) ∧ k_ ≠ ax ∧ k_ ≠ ae ∧ k_ ≠ af ∧ k_ ≠ aj ∧ k_ ≠ s_.2.2) s_.2.1 aR) ∧ (w'.heap[ax]? = some (.cells #[] 54 (0, 0))) ∧ (w'.heap[ae]? = some (.cells #[.int .i64 a1_0, .slice A1_1 l1_1.length c1_1] 53 (0, 0))) ∧ (w'.heap[af]? = some (.cells #[.int .i64 a2_0, .slice A2_1 l2_1.length c2_1] 53 (0, 0))) ∧ (w'.heap[aj]? = some (.cells #[.int .i64 0, .slice none 0 0] 53 (0, 0))) ∧ (w'.heap[s_.2.2]? = some (.cells #[.int .i64 0, .slice none 0 0] 53 (0, 0))) ∧ (w.heap.size ≤ s_.2.2) ∧ (w.heap.size ≤ s_.2.2) ∧ (ax ≠ s_.2.2) ∧ (s_.2.2 ≠ ax) ∧ (ae ≠ s_.2.2) ∧ (s_.2.2 ≠ ae) ∧ (af ≠ s_.2.2) ∧ (s_.2.2 ≠ af) ∧ (aj ≠ s_.2.2) ∧ (s_.2.2 ≠ aj) ∧ (Below w.heap.size w w')) ?_ ?_
  rotate_left
  ·
   intro hJ1_3_4
   refine join_ (σ := Value × Value × Nat) 3 #[true, true, true, true, false, true, false, false] (fun s_ => [(11, .agg #[.int .i64 aS, s_.1]), (13, .agg #[.int .i64 a1, s_.2.1]), (8, .pointer (some ⟨s_.2.2, 0, none⟩))]) (fun s_ w' => (w'.cell? ⟨ae, 0, none⟩ = some (.int .i64 a1_0) ∧ w'.cell? ⟨ae, 1, none⟩ = some (.slice A1_1 l1_1.length c1_1) ∧ w'.cell? ⟨af, 0, none⟩ = some (.int .i64 a2_0) ∧ w'.cell? ⟨af, 1, none⟩ = some (.slice A2_1 l2_1.length c2_1)) ∧ (Kd.V (Kd.int .u32) 48 w' w.heap.size (fun k_ => (w.heap.size ≤ k_) ∧ k_ ≠ ax ∧ k_ ≠ ae ∧ k_ ≠ af ∧ k_ ≠ aj ∧ k_ ≠ s_.2.2) s_.1 aQ) ∧ (Kd.V (Kd.int .u32) 48 w' w.heap.size (fun k_ => (w.heap.size ≤ k_) ∧ k_ ≠ ax ∧ k_ ≠ ae ∧ k_ ≠ af ∧ k_ ≠ aj ∧ k_ ≠ s_.2.2) s_.2.1 aR) ∧ (w'.heap[ax]? = some (.cells #[] 54 (0, 0))) ∧ (w'.heap[ae]? = some (.cells #[.int .i64 a1_0, .slice A1_1 l1_1.length c1_1] 53 (0, 0))) ∧ (w'.heap[af]? = some (.cells #[.int .i64 a2_0, .slice A2_1 l2_1.length c2_1] 53 (0, 0))) ∧ (w'.heap[aj]? = some (.cells #[.int .i64 0, .slice none 0 0] 53 (0, 0))) ∧ (w'.heap[s_.2.2]? = some (.cells #[.int .i64 0, .slice none 0 0] 53 (0, 0))) ∧ (w.heap.size ≤ s_.2.2) ∧ (w.heap.size ≤ s_.2.2) ∧ (ax ≠ s_.2.2) ∧ (s_.2.2 ≠ ax) ∧ (ae ≠ s_.2.2) ∧ (s_.2.2 ≠ ae) ∧ (af ≠ s_.2.2) ∧ (s_.2.2 ≠ af) ∧ (aj ≠ s_.2.2) ∧ (s_.2.2 ≠ aj) ∧ (Below w.heap.size w w')) ?_ ?_
   rotate_left
   ·
    intro hJ1_3_5
    refine join_ (σ := Value × Nat × Nat) 3 #[true, true, true, false, true, true, false, false] (fun s_ => [(11, .agg #[.int .i64 aS, s_.1]), (7, .pointer (some ⟨s_.2.1, 0, none⟩)), (8, .pointer (some ⟨s_.2.2, 0, none⟩))]) (fun s_ w' => (w'.cell? ⟨ae, 0, none⟩ = some (.int .i64 a1_0) ∧ w'.cell? ⟨ae, 1, none⟩ = some (.slice A1_1 l1_1.length c1_1) ∧ w'.cell? ⟨af, 0, none⟩ = some (.int .i64 a2_0) ∧ w'.cell? ⟨af, 1, none⟩ = some (.slice A2_1 l2_1.length c2_1)) ∧ (Kd.V (Kd.int .u32) 48 w' w.heap.size (fun k_ => (w.heap.size ≤ k_) ∧ k_ ≠ ax ∧ k_ ≠ ae ∧ k_ ≠ af ∧ k_ ≠ aj ∧ k_ ≠ s_.2.1 ∧ k_ ≠ s_.2.2) s_.1 aQ) ∧ (w'.heap[ax]? = some (.cells #[] 54 (0, 0))) ∧ (w'.heap[ae]? = some (.cells #[.int .i64 a1_0, .slice A1_1 l1_1.length c1_1] 53 (0, 0))) ∧ (w'.heap[af]? = some (.cells #[.int .i64 a2_0, .slice A2_1 l2_1.length c2_1] 53 (0, 0))) ∧ (w'.heap[aj]? = some (.cells #[.int .i64 0, .slice none 0 0] 53 (0, 0))) ∧ (w'.heap[s_.2.1]? = some (.cells #[.int .i64 0, .slice none 0 0] 53 (0, 0))) ∧ (w'.heap[s_.2.2]? = some (.cells #[.int .i64 0, .slice none 0 0] 53 (0, 0))) ∧ (w.heap.size ≤ s_.2.1) ∧ (w.heap.size ≤ s_.2.1) ∧ (ax ≠ s_.2.1) ∧ (s_.2.1 ≠ ax) ∧ (ae ≠ s_.2.1) ∧ (s_.2.1 ≠ ae) ∧ (af ≠ s_.2.1) ∧ (s_.2.1 ≠ af) ∧ (aj ≠ s_.2.1) ∧ (s_.2.1 ≠ aj) ∧ (s_.2.2 ≠ s_.2.1) ∧ (s_.2.1 ≠ s_.2.2) ∧ (w.heap.size ≤ s_.2.2) ∧ (w.heap.size ≤ s_.2.2) ∧ (ax ≠ s_.2.2) ∧ (s_.2.2 ≠ ax) ∧ (ae ≠ s_.2.2) ∧ (s_.2.2 ≠ ae) ∧ (af ≠ s_.2.2) ∧ (s_.2.2 ≠ af) ∧ (aj ≠ s_.2.2) ∧ (s_.2.2 ≠ aj) ∧ (Below w.heap.size w w')) ?_ ?_
    rotate_left
    ·
     intro hJ1_4_5
     refine join_ (σ := Value × Value) 4 #[true, true, true, true, false, false, false, false] (fun s_ => [(11, .agg #[.int .i64 aS, s_.1]), (13, .agg #[.int .i64 a1, s_.2])]) (fun s_ w' => (w'.cell? ⟨ae, 0, none⟩ = some (.int .i64 a1_0) ∧ w'.cell? ⟨ae, 1, none⟩ = some (.slice A1_1 l1_1.length c1_1) ∧ w'.cell? ⟨af, 0, none⟩ = some (.int .i64 a2_0) ∧ w'.cell? ⟨af, 1, none⟩ = some (.slice A2_1 l2_1.length c2_1)) ∧ (Kd.V (Kd.int .u32) 48 w' w.heap.size (fun k_ => (w.heap.size ≤ k_) ∧ k_ ≠ ax ∧ k_ ≠ ae ∧ k_ ≠ af ∧ k_ ≠ aj) s_.1 aQ) ∧ (Kd.V (Kd.int .u32) 48 w' w.heap.size (fun k_ => (w.heap.size ≤ k_) ∧ k_ ≠ ax ∧ k_ ≠ ae ∧ k_ ≠ af ∧ k_ ≠ aj) s_.2 aR) ∧ (w'.heap[ax]? = some (.cells #[] 54 (0, 0))) ∧ (w'.heap[ae]? = some (.cells #[.int .i64 a1_0, .slice A1_1 l1_1.length c1_1] 53 (0, 0))) ∧ (w'.heap[af]? = some (.cells #[.int .i64 a2_0, .slice A2_1 l2_1.length c2_1] 53 (0, 0))) ∧ (w'.heap[aj]? = some (.cells #[.int .i64 0, .slice none 0 0] 53 (0, 0))) ∧ (Below w.heap.size w w')) ?_ ?_
     rotate_left
     ·
      intro hJ1_3
      refine join_ (σ := Value × Nat) 4 #[true, true, true, false, true, false, false, false] (fun s_ => [(11, .agg #[.int .i64 aS, s_.1]), (7, .pointer (some ⟨s_.2, 0, none⟩))]) (fun s_ w' => (w'.cell? ⟨ae, 0, none⟩ = some (.int .i64 a1_0) ∧ w'.cell? ⟨ae, 1, none⟩ = some (.slice A1_1 l1_1.length c1_1) ∧ w'.cell? ⟨af, 0, none⟩ = some (.int .i64 a2_0) ∧ w'.cell? ⟨af, 1, none⟩ = some (.slice A2_1 l2_1.length c2_1)) ∧ (Kd.V (Kd.int .u32) 48 w' w.heap.size (fun k_ => (w.heap.size ≤ k_) ∧ k_ ≠ ax ∧ k_ ≠ ae ∧ k_ ≠ af ∧ k_ ≠ aj ∧ k_ ≠ s_.2) s_.1 aQ) ∧ (w'.heap[ax]? = some (.cells #[] 54 (0, 0))) ∧ (w'.heap[ae]? = some (.cells #[.int .i64 a1_0, .slice A1_1 l1_1.length c1_1] 53 (0, 0))) ∧ (w'.heap[af]? = some (.cells #[.int .i64 a2_0, .slice A2_1 l2_1.length c2_1] 53 (0, 0))) ∧ (w'.heap[aj]? = some (.cells #[.int .i64 0, .slice none 0 0] 53 (0, 0))) ∧ (w'.heap[s_.2]? = some (.cells #[.int .i64 0, .slice none 0 0] 53 (0, 0))) ∧ (w.heap.size ≤ s_.2) ∧ (w.heap.size ≤ s_.2) ∧ (ax ≠ s_.2) ∧ (s_.2 ≠ ax) ∧ (ae ≠ s_.2) ∧ (s_.2 ≠ ae) ∧ (af ≠ s_.2) ∧ (s_.2 ≠ af) ∧ (aj ≠ s_.2) ∧ (s_.2 ≠ aj) ∧ (Below w.heap.size w w')) ?_ ?_
      rotate_left
      ·
       intro hJ1_4
       refine join_ (σ := Value × Nat) 4 #[true, true, true, false, false, true, false, false] (fun s_ => [(11, .agg #[.int .i64 aS, s_.1]), (8, .pointer (some ⟨s_.2, 0, none⟩))]) (fun s_ w' => (w'.cell? ⟨ae, 0, none⟩ = some (.int .i64 a1_0) ∧ w'.cell? ⟨ae, 1, none⟩ = some (.slice A1_1 l1_1.length c1_1) ∧ w'.cell? ⟨af, 0, none⟩ = some (.int .i64 a2_0) ∧ w'.cell? ⟨af, 1, none⟩ = some (.slice A2_1 l2_1.length c2_1)) ∧ (Kd.V (Kd.int .u32) 48 w' w.heap.size (fun k_ => (w.heap.size ≤ k_) ∧ k_ ≠ ax ∧ k_ ≠ ae ∧ k_ ≠ af ∧ k_ ≠ aj ∧ k_ ≠ s_.2) s_.1 aQ) ∧ (w'.heap[ax]? = some (.cells #[] 54 (0, 0))) ∧ (w'.heap[ae]? = some (.cells #[.int .i64 a1_0, .slice A1_1 l1_1.length c1_1] 53 (0, 0))) ∧ (w'.heap[af]? = some (.cells #[.int .i64 a2_0, .slice A2_1 l2_1.length c2_1] 53 (0, 0))) ∧ (w'.heap[aj]? = some (.cells #[.int .i64 0, .slice none 0 0] 53 (0, 0))) ∧ (w'.heap[s_.2]? = some (.cells #[.int .i64 0, .slice none 0 0] 53 (0, 0))) ∧ (w.heap.size ≤ s_.2) ∧ (w.heap.size ≤ s_.2) ∧ (ax ≠ s_.2) ∧ (s_.2 ≠ ax) ∧ (ae ≠ s_.2) ∧ (s_.2 ≠ ae) ∧ (af ≠ s_.2) ∧ (s_.2 ≠ af) ∧ (aj ≠ s_.2) ∧ (s_.2 ≠ aj) ∧ (Below w.heap.size w w')) ?_ ?_
       rotate_left
       ·
        intro hJ1_5
        refine join_ (σ := Nat × Nat) 4 #[true, false, true, false, true, true, false, false] (fun s_ => [(7, .pointer (some ⟨s_.1, 0, none⟩)), (8, .pointer (some ⟨s_.2, 0, none⟩))]) (fun s_ w' => (w'.cell? ⟨ae, 0, none⟩ = some (.int .i64 a1_0) ∧ w'.cell? ⟨ae, 1, none⟩ = some (.slice A1_1 l1_1.length c1_1) ∧ w'.cell? ⟨af, 0, none⟩ = some (.int .i64 a2_0) ∧ w'.cell? ⟨af, 1, none⟩ = some (.slice A2_1 l2_1.length c2_1)) ∧ (w'.heap[ax]? = some (.cells #[] 54 (0, 0))) ∧ (w'.heap[ae]? = some (.cells #[.int .i64 a1_0, .slice A1_1 l1_1.length c1_1] 53 (0, 0))) ∧ (w'.heap[af]? = some (.cells #[.int .i64 a2_0, .slice A2_1 l2_1.length c2_1] 53 (0, 0))) ∧ (w'.heap[aj]? = some (.cells #[.int .i64 0, .slice none 0 0] 53 (0, 0))) ∧ (w'.heap[s_.1]? = some (.cells #[.int .i64 0, .slice none 0 0] 53 (0, 0))) ∧ (w'.heap[s_.2]? = some (.cells #[.int .i64 0, .slice none 0 0] 53 (0, 0))) ∧ (w.heap.size ≤ s_.1) ∧ (w.heap.size ≤ s_.1) ∧ (ax ≠ s_.1) ∧ (s_.1 ≠ ax) ∧ (ae ≠ s_.1) ∧ (s_.1 ≠ ae) ∧ (af ≠ s_.1) ∧ (s_.1 ≠ af) ∧ (aj ≠ s_.1) ∧ (s_.1 ≠ aj) ∧ (s_.2 ≠ s_.1) ∧ (s_.1 ≠ s_.2) ∧ (w.heap.size ≤ s_.2) ∧ (w.heap.size ≤ s_.2) ∧ (ax ≠ s_.2) ∧ (s_.2 ≠ ax) ∧ (ae ≠ s_.2) ∧ (s_.2 ≠ ae) ∧ (af ≠ s_.2) ∧ (s_.2 ≠ af) ∧ (aj ≠ s_.2) ∧ (s_.2 ≠ aj) ∧ (Below w.heap.size w w')) ?_ ?_
        rotate_left
        ·
         intro hJ4_5
         refine join_ (σ := Value) 5 #[true, true, true, false, false, false, false, false] (fun s_ => [(11, .agg #[.int .i64 aS, s_])]) (fun s_ w' => (w'.cell? ⟨ae, 0, none⟩ = some (.int .i64 a1_0) ∧ w'.cell? ⟨ae, 1, none⟩ = some (.slice A1_1 l1_1.length c1_1) ∧ w'.cell? ⟨af, 0, none⟩ = some (.int .i64 a2_0) ∧ w'.cell? ⟨af, 1, none⟩ = some (.slice A2_1 l2_1.length c2_1)) ∧ (Kd.V (Kd.int .u32) 48 w' w.heap.size (fun k_ => (w.heap.size ≤ k_) ∧ k_ ≠ ax ∧ k_ ≠ ae ∧ k_ ≠ af ∧ k_ ≠ aj) s_ aQ) ∧ (w'.heap[ax]? = some (.cells #[] 54 (0, 0))) ∧ (w'.heap[ae]? = some (.cells #[.int .i64 a1_0, .slice A1_1 l1_1.length c1_1] 53 (0, 0))) ∧ (w'.heap[af]? = some (.cells #[.int .i64 a2_0, .slice A2_1 l2_1.length c2_1] 53 (0, 0))) ∧ (w'.heap[aj]? = some (.cells #[.int .i64 0, .slice none 0 0] 53 (0, 0))) ∧ (Below w.heap.size w w')) ?_ ?_
         rotate_left
         ·
          intro hJ1
          refine join_ (σ := Nat) 5 #[true, false, true, false, true, false, false, false] (fun s_ => [(7, .pointer (some ⟨s_, 0, none⟩))]) (fun s_ w' => (w'.cell? ⟨ae, 0, none⟩ = some (.int .i64 a1_0) ∧ w'.cell? ⟨ae, 1, none⟩ = some (.slice A1_1 l1_1.length c1_1) ∧ w'.cell? ⟨af, 0, none⟩ = some (.int .i64 a2_0) ∧ w'.cell? ⟨af, 1, none⟩ = some (.slice A2_1 l2_1.length c2_1)) ∧ (w'.heap[ax]? = some (.cells #[] 54 (0, 0))) ∧ (w'.heap[ae]? = some (.cells #[.int .i64 a1_0, .slice A1_1 l1_1.length c1_1] 53 (0, 0))) ∧ (w'.heap[af]? = some (.cells #[.int .i64 a2_0, .slice A2_1 l2_1.length c2_1] 53 (0, 0))) ∧ (w'.heap[aj]? = some (.cells #[.int .i64 0, .slice none 0 0] 53 (0, 0))) ∧ (w'.heap[s_]? = some (.cells #[.int .i64 0, .slice none 0 0] 53 (0, 0))) ∧ (w.heap.size ≤ s_) ∧ (w.heap.size ≤ s_) ∧ (ax ≠ s_) ∧ (s_ ≠ ax) ∧ (ae ≠ s_) ∧ (s_ ≠ ae) ∧ (af ≠ s_) ∧ (s_ ≠ af) ∧ (aj ≠ s_) ∧ (s_ ≠ aj) ∧ (Below w.heap.size w w')) ?_ ?_
          rotate_left
          ·
           intro hJ4
           refine join_ (σ := Nat) 5 #[true, false, true, false, false, true, false, false] (fun s_ => [(8, .pointer (some ⟨s_, 0, none⟩))]) (fun s_ w' => (w'.cell? ⟨ae, 0, none⟩ = some (.int .i64 a1_0) ∧ w'.cell? ⟨ae, 1, none⟩ = some (.slice A1_1 l1_1.length c1_1) ∧ w'.cell? ⟨af, 0, none⟩ = some (.int .i64 a2_0) ∧ w'.cell? ⟨af, 1, none⟩ = some (.slice A2_1 l2_1.length c2_1)) ∧ (w'.heap[ax]? = some (.cells #[] 54 (0, 0))) ∧ (w'.heap[ae]? = some (.cells #[.int .i64 a1_0, .slice A1_1 l1_1.length c1_1] 53 (0, 0))) ∧ (w'.heap[af]? = some (.cells #[.int .i64 a2_0, .slice A2_1 l2_1.length c2_1] 53 (0, 0))) ∧ (w'.heap[aj]? = some (.cells #[.int .i64 0, .slice none 0 0] 53 (0, 0))) ∧ (w'.heap[s_]? = some (.cells #[.int .i64 0, .slice none 0 0] 53 (0, 0))) ∧ (w.heap.size ≤ s_) ∧ (w.heap.size ≤ s_) ∧ (ax ≠ s_) ∧ (s_ ≠ ax) ∧ (ae ≠ s_) ∧ (s_ ≠ ae) ∧ (af ≠ s_) ∧ (s_ ≠ af) ∧ (aj ≠ s_) ∧ (s_ ≠ aj) ∧ (Below w.heap.size w w')) ?_ ?_
           rotate_left
           ·
            intro hJ5
            refine three_ (i := 1) (j := 4) (k := 5) (Ni := some 11) (Nj := some 7) (Nk := some 8) #[true, true, true, false, false, false, false, false] #[true, false, true, false, true, false, false, false] #[true, false, true, false, false, true, false, false] rfl rfl rfl rfl rfl rfl (three_of HT_.out (by kernel_rfl)) (by decide) (by decide) (by decide) (fun K hK => ?_) (fun K hK => ?_) (fun K hK => ?_)
            ·
             skip
             refine goes_ Try.func148 (by kernel_rfl) rfl #[.agg #[.int .i64 a1_0, .slice A1_1 l1_1.length c1_1]] (by rfl) rfl rfl lu ?_
             with_reducible refine (semiring_least.calls k a1_0 _ _ l1_1 aS aQ _ ?side1 ?side2 A4.out).mono ?_
             (case side1 => repeat (first | exact (Kd.C_below bY.out HB.out) | (with_reducible refine Kd.C_alloc ?_ _) | (with_reducible refine Kd.C_drewN ?_ _) | (with_reducible refine Kd.C_drew ?_)))
             (case side2 => first | exact bv.out | exact vz bv.out)
             rintro e de ⟨a2, rfl, bp, hb⟩
             refine ⟨_, rfl, ?_⟩
             have aC := ar0 w.heap.size (ok' := fun k_ => (w.heap.size ≤ k_) ∧ k_ ≠ ax ∧ k_ ≠ ae ∧ k_ ≠ af ∧ k_ ≠ aj) bp (fa (fz4 HB ai ak al au) (fa (fb ac) (fa (fb aa) (fa (fb ab) (fb ad)))))
             replace ac := kb ac hb
             replace aa := kb aa hb
             replace ab := kb ab hb
             replace ad := kb ad hb
             replace HB := be4 HB ai ak al au hb
             (try clear hb)
             (try clear hb2)
             (try clear hk)
             (try clear hi)
             (try clear bp)
             refine hK.out _ _ ⟨bc aa 0, bc aa 1, bc ab 0, bc ab 1⟩ (fun hHeld => ?_)
             clear hK K
             refine nq 11 ?_
             exact norm_ (by first | (simp only [putAll, Act.put, List.setIfInBounds_toArray, List.set_cons_zero, List.set_cons_succ]; done) | (simp only [putAll, Act.put, List.setIfInBounds_toArray, List.set_cons_zero, List.set_cons_succ]; rfl)) (hJ1 (a2) _ ⟨hHeld, (vu aC.out), (ku ac.out), (ku aa.out), (ku ab.out), (ku ad.out), (bu4 HB.out ai.out ak.out al.out au.out)⟩)
            ·
             skip
             refine box_step ?hg (N := 7) ?hd (cs := #[.int .i64 0, .slice none 0 0]) (t := 53) ?hr ?_; (case hd => rfl); (case hg => rfl); (case hr => first | (go_simp; done) | (go_simp; rfl))
             intro ag hg de hbox hb
             have av := am (hbox)
             have aT := ng hg (bu4 HB.out ai.out ak.out al.out au.out)
             have aF := ng hg (bu4 HB.out ai.out ak.out al.out au.out)
             replace HB := be4 HB ai ak al au hb
             have ay := nl hg ac
             have aH := nr hg ac
             replace ac := kb ac hb
             have an := nl hg aa
             have aI := nr hg aa
             replace aa := kb aa hb
             have ao := nl hg ab
             have aJ := nr hg ab
             replace ab := kb ab hb
             have az := nl hg ad
             have aD := nr hg ad
             replace ad := kb ad hb
             clear hb hbox hg
             refine hK.out _ _ ⟨bc aa 0, bc aa 1, bc ab 0, bc ab 1⟩ (fun hHeld => ?_)
             clear hK K
             refine nq 7 ?_
             exact norm_ (by first | (simp only [putAll, Act.put, List.setIfInBounds_toArray, List.set_cons_zero, List.set_cons_succ]; done) | (simp only [putAll, Act.put, List.setIfInBounds_toArray, List.set_cons_zero, List.set_cons_succ]; rfl)) (hJ4 (ag) _ ⟨hHeld, (ku ac.out), (ku aa.out), (ku ab.out), (ku ad.out), (ku av.out), aT.out, aF.out, ay.out, aH.out, an.out, aI.out, ao.out, aJ.out, az.out, aD.out, (bu5 HB.out ai.out ak.out al.out au.out aF.out)⟩)
            ·
             skip
             refine box_step ?hg (N := 8) ?hd (cs := #[.int .i64 0, .slice none 0 0]) (t := 53) ?hr ?_; (case hd => rfl); (case hg => rfl); (case hr => first | (go_simp; done) | (go_simp; rfl))
             intro ah hg de hbox hb
             have aw := am (hbox)
             have aU := ng hg (bu4 HB.out ai.out ak.out al.out au.out)
             have aG := ng hg (bu4 HB.out ai.out ak.out al.out au.out)
             replace HB := be4 HB ai ak al au hb
             have aA := nl hg ac
             have aK := nr hg ac
             replace ac := kb ac hb
             have ap := nl hg aa
             have aL := nr hg aa
             replace aa := kb aa hb
             have aq := nl hg ab
             have aM := nr hg ab
             replace ab := kb ab hb
             have aB := nl hg ad
             have aE := nr hg ad
             replace ad := kb ad hb
             clear hb hbox hg
             refine hK.out _ _ ⟨bc aa 0, bc aa 1, bc ab 0, bc ab 1⟩ (fun hHeld => ?_)
             clear hK K
             refine nq 8 ?_
             exact norm_ (by first | (simp only [putAll, Act.put, List.setIfInBounds_toArray, List.set_cons_zero, List.set_cons_succ]; done) | (simp only [putAll, Act.put, List.setIfInBounds_toArray, List.set_cons_zero, List.set_cons_succ]; rfl)) (hJ5 (ah) _ ⟨hHeld, (ku ac.out), (ku aa.out), (ku ab.out), (ku ad.out), (ku aw.out), aU.out, aG.out, aA.out, aK.out, ap.out, aL.out, aq.out, aM.out, aB.out, aE.out, (bu5 HB.out ai.out ak.out al.out au.out aG.out)⟩)
           ·
            skip
            rintro ah b0 ⟨hS_, a8, a9, ba, bb, bd, bf, bg, bj, bk, bl, aV, aW, aX, aY, aZ, a0⟩
            (try dsimp -simprocs only at a8 a9 ba bb bd bf bg bj bk bl aV aW aX aY aZ a0)
            clear ac aa ab ad HB
            have ac := Aside0.mk a8
            have aa := Aside0.mk a9
            have ab := Aside0.mk ba
            have ad := Aside0.mk bb
            have aw := Aside0.mk bd
            have aU := Aside0.mk bf
            have aG := Aside0.mk bg
            have aA := Aside0.mk bj
            have aK := Aside0.mk bk
            have ap := Aside0.mk bl
            have aL := Aside0.mk aV
            have aq := Aside0.mk aW
            have aM := Aside0.mk aX
            have aB := Aside0.mk aY
            have aE := Aside0.mk aZ
            have HB := Aside0.mk a0
            clear a8 a9 ba bb bd bf bg bj bk bl aV aW aX aY aZ a0
            have hHeld : b0.cell? ⟨ae, 0, none⟩ = some (.int .i64 a1_0) ∧ b0.cell? ⟨ae, 1, none⟩ = some (.slice A1_1 l1_1.length c1_1) ∧ b0.cell? ⟨af, 0, none⟩ = some (.int .i64 a2_0) ∧ b0.cell? ⟨af, 1, none⟩ = some (.slice A2_1 l2_1.length c2_1) := hS_
            refine norm_ (a' := ?_) ?_ ?_
            rotate_left
            ·
             simp only [putAll, Act.put, List.setIfInBounds_toArray, List.set_cons_zero, List.set_cons_succ]
             rfl
            refine two_ (i := 1) (j := 4) (Ni := some 11) (Nj := some 7) #[true, true, true, false, false, true, false, false] #[true, false, true, false, true, true, false, false] rfl rfl rfl rfl (two_of HT_.out (by kernel_rfl)) (by decide) (by decide) (fun K hK => ?_) (fun K hK => ?_)
            ·
             skip
             refine goes_ Try.func148 (by kernel_rfl) rfl #[.agg #[.int .i64 a1_0, .slice A1_1 l1_1.length c1_1]] (by rfl) rfl rfl lu ?_
             with_reducible refine (semiring_least.calls k a1_0 _ _ l1_1 aS aQ _ ?side1 ?side2 A4.out).mono ?_
             (case side1 => repeat (first | exact (Kd.C_below bY.out HB.out) | (with_reducible refine Kd.C_alloc ?_ _) | (with_reducible refine Kd.C_drewN ?_ _) | (with_reducible refine Kd.C_drew ?_)))
             (case side2 => first | exact bv.out | exact vz bv.out)
             rintro e bx ⟨a2, rfl, bp, hb⟩
             refine ⟨_, rfl, ?_⟩
             have aC := ar0 w.heap.size (ok' := fun k_ => (w.heap.size ≤ k_) ∧ k_ ≠ ax ∧ k_ ≠ ae ∧ k_ ≠ af ∧ k_ ≠ aj ∧ k_ ≠ ah) bp (fa (fz5 HB ai ak al au aG) (fa (fb ac) (fa (fb aa) (fa (fb ab) (fa (fb ad) (fb aw))))))
             replace ac := kb ac hb
             replace aa := kb aa hb
             replace ab := kb ab hb
             replace ad := kb ad hb
             replace aw := kb aw hb
             replace HB := be5 HB ai ak al au aG hb
             (try clear hb)
             (try clear hb2)
             (try clear hk)
             (try clear hi)
             (try clear bp)
             refine hK.out _ _ ⟨bc aa 0, bc aa 1, bc ab 0, bc ab 1⟩ (fun hHeld => ?_)
             clear hK K
             refine nq 11 ?_
             exact norm_ (by first | (simp only [putAll, Act.put, List.setIfInBounds_toArray, List.set_cons_zero, List.set_cons_succ]; done) | (simp only [putAll, Act.put, List.setIfInBounds_toArray, List.set_cons_zero, List.set_cons_succ]; rfl)) (hJ1_5 (a2, ah) _ ⟨hHeld, (vu aC.out), (ku ac.out), (ku aa.out), (ku ab.out), (ku ad.out), (ku aw.out), aU.out, aG.out, aA.out, aK.out, ap.out, aL.out, aq.out, aM.out, aB.out, aE.out, (bu5 HB.out ai.out ak.out al.out au.out aG.out)⟩)
            ·
             skip
             refine box_step ?hg (N := 7) ?hd (cs := #[.int .i64 0, .slice none 0 0]) (t := 53) ?hr ?_; (case hd => rfl); (case hg => rfl); (case hr => first | (go_simp; done) | (go_simp; rfl))
             intro ag hg bx hbox hb
             have av := am (hbox)
             have aT := ng hg (bu5 HB.out ai.out ak.out al.out au.out aG.out)
             have aF := ng hg (bu5 HB.out ai.out ak.out al.out au.out aG.out)
             replace HB := be5 HB ai ak al au aG hb
             have ay := nl hg ac
             have aH := nr hg ac
             replace ac := kb ac hb
             have an := nl hg aa
             have aI := nr hg aa
             replace aa := kb aa hb
             have ao := nl hg ab
             have aJ := nr hg ab
             replace ab := kb ab hb
             have az := nl hg ad
             have aD := nr hg ad
             replace ad := kb ad hb
             have aN := nl hg aw
             have aO := nr hg aw
             replace aw := kb aw hb
             clear hb hbox hg
             refine hK.out _ _ ⟨bc aa 0, bc aa 1, bc ab 0, bc ab 1⟩ (fun hHeld => ?_)
             clear hK K
             refine nq 7 ?_
             exact norm_ (by first | (simp only [putAll, Act.put, List.setIfInBounds_toArray, List.set_cons_zero, List.set_cons_succ]; done) | (simp only [putAll, Act.put, List.setIfInBounds_toArray, List.set_cons_zero, List.set_cons_succ]; rfl)) (hJ4_5 (ag, ah) _ ⟨hHeld, (ku ac.out), (ku aa.out), (ku ab.out), (ku ad.out), (ku av.out), (ku aw.out), aT.out, aF.out, ay.out, aH.out, an.out, aI.out, ao.out, aJ.out, az.out, aD.out, aN.out, aO.out, aU.out, aG.out, aA.out, aK.out, ap.out, aL.out, aq.out, aM.out, aB.out, aE.out, (bu6 HB.out ai.out ak.out al.out au.out aG.out aF.out)⟩)
          ·
           skip
           rintro ag b0 ⟨hS_, a8, a9, ba, bb, bd, bf, bg, bj, bk, bl, aV, aW, aX, aY, aZ, a0⟩
           (try dsimp -simprocs only at a8 a9 ba bb bd bf bg bj bk bl aV aW aX aY aZ a0)
           clear ac aa ab ad HB
           have ac := Aside0.mk a8
           have aa := Aside0.mk a9
           have ab := Aside0.mk ba
           have ad := Aside0.mk bb
           have av := Aside0.mk bd
           have aT := Aside0.mk bf
           have aF := Aside0.mk bg
           have ay := Aside0.mk bj
           have aH := Aside0.mk bk
           have an := Aside0.mk bl
           have aI := Aside0.mk aV
           have ao := Aside0.mk aW
           have aJ := Aside0.mk aX
           have az := Aside0.mk aY
           have aD := Aside0.mk aZ
           have HB := Aside0.mk a0
           clear a8 a9 ba bb bd bf bg bj bk bl aV aW aX aY aZ a0
           have hHeld : b0.cell? ⟨ae, 0, none⟩ = some (.int .i64 a1_0) ∧ b0.cell? ⟨ae, 1, none⟩ = some (.slice A1_1 l1_1.length c1_1) ∧ b0.cell? ⟨af, 0, none⟩ = some (.int .i64 a2_0) ∧ b0.cell? ⟨af, 1, none⟩ = some (.slice A2_1 l2_1.length c2_1) := hS_
           refine norm_ (a' := ?_) ?_ ?_
           rotate_left
           ·
            simp only [putAll, Act.put, List.setIfInBounds_toArray, List.set_cons_zero, List.set_cons_succ]
            rfl
           refine two_ (i := 1) (j := 5) (Ni := some 11) (Nj := some 8) #[true, true, true, false, true, false, false, false] #[true, false, true, false, true, true, false, false] rfl rfl rfl rfl (two_of HT_.out (by kernel_rfl)) (by decide) (by decide) (fun K hK => ?_) (fun K hK => ?_)
           ·
            skip
            refine goes_ Try.func148 (by kernel_rfl) rfl #[.agg #[.int .i64 a1_0, .slice A1_1 l1_1.length c1_1]] (by rfl) rfl rfl lu ?_
            with_reducible refine (semiring_least.calls k a1_0 _ _ l1_1 aS aQ _ ?side1 ?side2 A4.out).mono ?_
            (case side1 => repeat (first | exact (Kd.C_below bY.out HB.out) | (with_reducible refine Kd.C_alloc ?_ _) | (with_reducible refine Kd.C_drewN ?_ _) | (with_reducible refine Kd.C_drew ?_)))
            (case side2 => first | exact bv.out | exact vz bv.out)
            rintro e bx ⟨a2, rfl, bp, hb⟩
            refine ⟨_, rfl, ?_⟩
            have aC := ar0 w.heap.size (ok' := fun k_ => (w.heap.size ≤ k_) ∧ k_ ≠ ax ∧ k_ ≠ ae ∧ k_ ≠ af ∧ k_ ≠ aj ∧ k_ ≠ ag) bp (fa (fz5 HB ai ak al au aF) (fa (fb ac) (fa (fb aa) (fa (fb ab) (fa (fb ad) (fb av))))))
            replace ac := kb ac hb
            replace aa := kb aa hb
            replace ab := kb ab hb
            replace ad := kb ad hb
            replace av := kb av hb
            replace HB := be5 HB ai ak al au aF hb
            (try clear hb)
            (try clear hb2)
            (try clear hk)
            (try clear hi)
            (try clear bp)
            refine hK.out _ _ ⟨bc aa 0, bc aa 1, bc ab 0, bc ab 1⟩ (fun hHeld => ?_)
            clear hK K
            refine nq 11 ?_
            exact norm_ (by first | (simp only [putAll, Act.put, List.setIfInBounds_toArray, List.set_cons_zero, List.set_cons_succ]; done) | (simp only [putAll, Act.put, List.setIfInBounds_toArray, List.set_cons_zero, List.set_cons_succ]; rfl)) (hJ1_4 (a2, ag) _ ⟨hHeld, (vu aC.out), (ku ac.out), (ku aa.out), (ku ab.out), (ku ad.out), (ku av.out), aT.out, aF.out, ay.out, aH.out, an.out, aI.out, ao.out, aJ.out, az.out, aD.out, (bu5 HB.out ai.out ak.out al.out au.out aF.out)⟩)
           ·
            skip
            refine box_step ?hg (N := 8) ?hd (cs := #[.int .i64 0, .slice none 0 0]) (t := 53) ?hr ?_; (case hd => rfl); (case hg => rfl); (case hr => first | (go_simp; done) | (go_simp; rfl))
            intro ah hg bx hbox hb
            have aw := am (hbox)
            have aU := ng hg (bu5 HB.out ai.out ak.out al.out au.out aF.out)
            have aG := ng hg (bu5 HB.out ai.out ak.out al.out au.out aF.out)
            replace HB := be5 HB ai ak al au aF hb
            have aA := nl hg ac
            have aK := nr hg ac
            replace ac := kb ac hb
            have ap := nl hg aa
            have aL := nr hg aa
            replace aa := kb aa hb
            have aq := nl hg ab
            have aM := nr hg ab
            replace ab := kb ab hb
            have aB := nl hg ad
            have aE := nr hg ad
            replace ad := kb ad hb
            have aO := nl hg av
            have aN := nr hg av
            replace av := kb av hb
            clear hb hbox hg
            refine hK.out _ _ ⟨bc aa 0, bc aa 1, bc ab 0, bc ab 1⟩ (fun hHeld => ?_)
            clear hK K
            refine nq 8 ?_
            exact norm_ (by first | (simp only [putAll, Act.put, List.setIfInBounds_toArray, List.set_cons_zero, List.set_cons_succ]; done) | (simp only [putAll, Act.put, List.setIfInBounds_toArray, List.set_cons_zero, List.set_cons_succ]; rfl)) (hJ4_5 (ag, ah) _ ⟨hHeld, (ku ac.out), (ku aa.out), (ku ab.out), (ku ad.out), (ku av.out), (ku aw.out), aT.out, aF.out, ay.out, aH.out, an.out, aI.out, ao.out, aJ.out, az.out, aD.out, aN.out, aO.out, aU.out, aG.out, aA.out, aK.out, ap.out, aL.out, aq.out, aM.out, aB.out, aE.out, (bu6 HB.out ai.out ak.out al.out au.out aF.out aG.out)⟩)
         ·
          skip
          rintro a2 b0 ⟨hS_, a8, a9, ba, bb, bd, bf⟩
          (try dsimp -simprocs only at a8 a9 ba bb bd bf)
          clear ac aa ab ad HB
          have aC := Aside0.mk a8
          have ac := Aside0.mk a9
          have aa := Aside0.mk ba
          have ab := Aside0.mk bb
          have ad := Aside0.mk bd
          have HB := Aside0.mk bf
          clear a8 a9 ba bb bd bf
          have hHeld : b0.cell? ⟨ae, 0, none⟩ = some (.int .i64 a1_0) ∧ b0.cell? ⟨ae, 1, none⟩ = some (.slice A1_1 l1_1.length c1_1) ∧ b0.cell? ⟨af, 0, none⟩ = some (.int .i64 a2_0) ∧ b0.cell? ⟨af, 1, none⟩ = some (.slice A2_1 l2_1.length c2_1) := hS_
          refine norm_ (a' := ?_) ?_ ?_
          rotate_left
          ·
           simp only [putAll, Act.put, List.setIfInBounds_toArray, List.set_cons_zero, List.set_cons_succ]
           rfl
          refine three_ (i := 3) (j := 4) (k := 5) (Ni := some 13) (Nj := some 7) (Nk := some 8) #[true, true, true, true, false, false, false, false] #[true, true, true, false, true, false, false, false] #[true, true, true, false, false, true, false, false] rfl rfl rfl rfl rfl rfl (three_of HT_.out (by kernel_rfl)) (by decide) (by decide) (by decide) (fun K hK => ?_) (fun K hK => ?_) (fun K hK => ?_)
          ·
           skip
           refine goes_ Try.func148 (by kernel_rfl) rfl #[.agg #[.int .i64 a2_0, .slice A2_1 l2_1.length c2_1]] (by rfl) rfl rfl lu ?_
           with_reducible refine (semiring_least.calls k a2_0 _ _ l2_1 a1 aR _ ?side1 ?side2 A5.out).mono ?_
           (case side1 => repeat (first | exact (Kd.C_below bZ.out HB.out) | (with_reducible refine Kd.C_alloc ?_ _) | (with_reducible refine Kd.C_drewN ?_ _) | (with_reducible refine Kd.C_drew ?_)))
           (case side2 => first | exact bw.out | exact vz bw.out)
           rintro e bx ⟨bq, rfl, bp, hb⟩
           refine ⟨_, rfl, ?_⟩
           replace aC := kv aC hb
           have aP := ar0 w.heap.size (ok' := fun k_ => (w.heap.size ≤ k_) ∧ k_ ≠ ax ∧ k_ ≠ ae ∧ k_ ≠ af ∧ k_ ≠ aj) bp (fa (fz4 HB ai ak al au) (fa (fb ac) (fa (fb aa) (fa (fb ab) (fb ad)))))
           replace ac := kb ac hb
           replace aa := kb aa hb
           replace ab := kb ab hb
           replace ad := kb ad hb
           replace HB := be4 HB ai ak al au hb
           (try clear hb)
           (try clear hb2)
           (try clear hk)
           (try clear hi)
           (try clear bp)
           refine hK.out _ _ ⟨bc aa 0, bc aa 1, bc ab 0, bc ab 1⟩ (fun hHeld => ?_)
           clear hK K
           refine nq 13 ?_
           exact norm_ (by first | (simp only [putAll, Act.put, List.setIfInBounds_toArray, List.set_cons_zero, List.set_cons_succ]; done) | (simp only [putAll, Act.put, List.setIfInBounds_toArray, List.set_cons_zero, List.set_cons_succ]; rfl)) (hJ1_3 (a2, bq) _ ⟨hHeld, (vu aC.out), (vu aP.out), (ku ac.out), (ku aa.out), (ku ab.out), (ku ad.out), (bu4 HB.out ai.out ak.out al.out au.out)⟩)
          ·
           skip
           refine box_step ?hg (N := 7) ?hd (cs := #[.int .i64 0, .slice none 0 0]) (t := 53) ?hr ?_; (case hd => rfl); (case hg => rfl); (case hr => first | (go_simp; done) | (go_simp; rfl))
           intro ag hg bx hbox hb
           replace aC := ke aC hg hb
           have av := am (hbox)
           have aT := ng hg (bu4 HB.out ai.out ak.out al.out au.out)
           have aF := ng hg (bu4 HB.out ai.out ak.out al.out au.out)
           replace HB := be4 HB ai ak al au hb
           have ay := nl hg ac
           have aH := nr hg ac
           replace ac := kb ac hb
           have an := nl hg aa
           have aI := nr hg aa
           replace aa := kb aa hb
           have ao := nl hg ab
           have aJ := nr hg ab
           replace ab := kb ab hb
           have az := nl hg ad
           have aD := nr hg ad
           replace ad := kb ad hb
           clear hb hbox hg
           refine hK.out _ _ ⟨bc aa 0, bc aa 1, bc ab 0, bc ab 1⟩ (fun hHeld => ?_)
           clear hK K
           refine nq 7 ?_
           exact norm_ (by first | (simp only [putAll, Act.put, List.setIfInBounds_toArray, List.set_cons_zero, List.set_cons_succ]; done) | (simp only [putAll, Act.put, List.setIfInBounds_toArray, List.set_cons_zero, List.set_cons_succ]; rfl)) (hJ1_4 (a2, ag) _ ⟨hHeld, (vz aC.out), (ku ac.out), (ku aa.out), (ku ab.out), (ku ad.out), (ku av.out), aT.out, aF.out, ay.out, aH.out, an.out, aI.out, ao.out, aJ.out, az.out, aD.out, (bu5 HB.out ai.out ak.out al.out au.out aF.out)⟩)
          ·
           skip
           refine box_step ?hg (N := 8) ?hd (cs := #[.int .i64 0, .slice none 0 0]) (t := 53) ?hr ?_; (case hd => rfl); (case hg => rfl); (case hr => first | (go_simp; done) | (go_simp; rfl))
           intro ah hg bx hbox hb
           replace aC := ke aC hg hb
           have aw := am (hbox)
           have aU := ng hg (bu4 HB.out ai.out ak.out al.out au.out)
           have aG := ng hg (bu4 HB.out ai.out ak.out al.out au.out)
           replace HB := be4 HB ai ak al au hb
           have aA := nl hg ac
           have aK := nr hg ac
           replace ac := kb ac hb
           have ap := nl hg aa
           have aL := nr hg aa
           replace aa := kb aa hb
           have aq := nl hg ab
           have aM := nr hg ab
           replace ab := kb ab hb
           have aB := nl hg ad
           have aE := nr hg ad
           replace ad := kb ad hb
           clear hb hbox hg
           refine hK.out _ _ ⟨bc aa 0, bc aa 1, bc ab 0, bc ab 1⟩ (fun hHeld => ?_)
           clear hK K
           refine nq 8 ?_
           exact norm_ (by first | (simp only [putAll, Act.put, List.setIfInBounds_toArray, List.set_cons_zero, List.set_cons_succ]; done) | (simp only [putAll, Act.put, List.setIfInBounds_toArray, List.set_cons_zero, List.set_cons_succ]; rfl)) (hJ1_5 (a2, ah) _ ⟨hHeld, (vz aC.out), (ku ac.out), (ku aa.out), (ku ab.out), (ku ad.out), (ku aw.out), aU.out, aG.out, aA.out, aK.out, ap.out, aL.out, aq.out, aM.out, aB.out, aE.out, (bu5 HB.out ai.out ak.out al.out au.out aG.out)⟩)
        ·
         skip
         rintro ⟨ag, ah⟩ bx ⟨hS_, a8, a9, ba, bb, bd, bf, bg, bj, bk, bl, aV, aW, aX, aY, aZ, a0, a3, bh, bB, bC, bD, bE, bF, bG, bH, bI, bJ, bK, bL⟩
         (try dsimp -simprocs only at a8 a9 ba bb bd bf bg bj bk bl aV aW aX aY aZ a0 a3 bh bB bC bD bE bF bG bH bI bJ bK bL)
         clear ac aa ab ad HB
         have ac := Aside0.mk a8
         have aa := Aside0.mk a9
         have ab := Aside0.mk ba
         have ad := Aside0.mk bb
         have av := Aside0.mk bd
         have aw := Aside0.mk bf
         have aT := Aside0.mk bg
         have aF := Aside0.mk bj
         have ay := Aside0.mk bk
         have aH := Aside0.mk bl
         have an := Aside0.mk aV
         have aI := Aside0.mk aW
         have ao := Aside0.mk aX
         have aJ := Aside0.mk aY
         have az := Aside0.mk aZ
         have aD := Aside0.mk a0
         have aN := Aside0.mk a3
         have aO := Aside0.mk bh
         have aU := Aside0.mk bB
         have aG := Aside0.mk bC
         have aA := Aside0.mk bD
         have aK := Aside0.mk bE
         have ap := Aside0.mk bF
         have aL := Aside0.mk bG
         have aq := Aside0.mk bH
         have aM := Aside0.mk bI
         have aB := Aside0.mk bJ
         have aE := Aside0.mk bK
         have HB := Aside0.mk bL
         clear a8 a9 ba bb bd bf bg bj bk bl aV aW aX aY aZ a0 a3 bh bB bC bD bE bF bG bH bI bJ bK bL
         have hHeld : bx.cell? ⟨ae, 0, none⟩ = some (.int .i64 a1_0) ∧ bx.cell? ⟨ae, 1, none⟩ = some (.slice A1_1 l1_1.length c1_1) ∧ bx.cell? ⟨af, 0, none⟩ = some (.int .i64 a2_0) ∧ bx.cell? ⟨af, 1, none⟩ = some (.slice A2_1 l2_1.length c2_1) := hS_
         refine norm_ (a' := ?_) ?_ ?_
         rotate_left
         ·
          simp only [putAll, Act.put, List.setIfInBounds_toArray, List.set_cons_zero, List.set_cons_succ]
          rfl
         refine one_ (i := 1) (N := some 11) #[true, true, true, false, true, true, false, false] rfl rfl (one_of HT_.out (by kernel_rfl)) (by decide) (fun K hK => ?_)
         refine goes_ Try.func148 (by kernel_rfl) rfl #[.agg #[.int .i64 a1_0, .slice A1_1 l1_1.length c1_1]] (by rfl) rfl rfl lu ?_
         with_reducible refine (semiring_least.calls k a1_0 _ _ l1_1 aS aQ _ ?side1 ?side2 A4.out).mono ?_
         (case side1 => repeat (first | exact (Kd.C_below bY.out HB.out) | (with_reducible refine Kd.C_alloc ?_ _) | (with_reducible refine Kd.C_drewN ?_ _) | (with_reducible refine Kd.C_drew ?_)))
         (case side2 => first | exact bv.out | exact vz bv.out)
         rintro e bM ⟨a2, rfl, bp, hb⟩
         refine ⟨_, rfl, ?_⟩
         have aC := ar0 w.heap.size (ok' := fun k_ => (w.heap.size ≤ k_) ∧ k_ ≠ ax ∧ k_ ≠ ae ∧ k_ ≠ af ∧ k_ ≠ aj ∧ k_ ≠ ag ∧ k_ ≠ ah) bp (fa (fz6 HB ai ak al au aF aG) (fa (fb ac) (fa (fb aa) (fa (fb ab) (fa (fb ad) (fa (fb av) (fb aw)))))))
         replace ac := kb ac hb
         replace aa := kb aa hb
         replace ab := kb ab hb
         replace ad := kb ad hb
         replace av := kb av hb
         replace aw := kb aw hb
         replace HB := be6 HB ai ak al au aF aG hb
         (try clear hb)
         (try clear hb2)
         (try clear hk)
         (try clear hi)
         (try clear bp)
         refine hK.out _ _ ⟨bc aa 0, bc aa 1, bc ab 0, bc ab 1⟩ (fun hHeld => ?_)
         clear hK K
         refine nq 11 ?_
         exact norm_ (by first | (simp only [putAll, Act.put, List.setIfInBounds_toArray, List.set_cons_zero, List.set_cons_succ]; done) | (simp only [putAll, Act.put, List.setIfInBounds_toArray, List.set_cons_zero, List.set_cons_succ]; rfl)) (hJ1_4_5 (a2, ag, ah) _ ⟨hHeld, (vu aC.out), (ku ac.out), (ku aa.out), (ku ab.out), (ku ad.out), (ku av.out), (ku aw.out), aT.out, aF.out, ay.out, aH.out, an.out, aI.out, ao.out, aJ.out, az.out, aD.out, aN.out, aO.out, aU.out, aG.out, aA.out, aK.out, ap.out, aL.out, aq.out, aM.out, aB.out, aE.out, (bu6 HB.out ai.out ak.out al.out au.out aF.out aG.out)⟩)
       ·
        skip
        rintro ⟨a2, ah⟩ bx ⟨hS_, a8, a9, ba, bb, bd, bf, bg, bj, bk, bl, aV, aW, aX, aY, aZ, a0, a3⟩
        (try dsimp -simprocs only at a8 a9 ba bb bd bf bg bj bk bl aV aW aX aY aZ a0 a3)
        clear ac aa ab ad HB
        have aC := Aside0.mk a8
        have ac := Aside0.mk a9
        have aa := Aside0.mk ba
        have ab := Aside0.mk bb
        have ad := Aside0.mk bd
        have aw := Aside0.mk bf
        have aU := Aside0.mk bg
        have aG := Aside0.mk bj
        have aA := Aside0.mk bk
        have aK := Aside0.mk bl
        have ap := Aside0.mk aV
        have aL := Aside0.mk aW
        have aq := Aside0.mk aX
        have aM := Aside0.mk aY
        have aB := Aside0.mk aZ
        have aE := Aside0.mk a0
        have HB := Aside0.mk a3
        clear a8 a9 ba bb bd bf bg bj bk bl aV aW aX aY aZ a0 a3
        have hHeld : bx.cell? ⟨ae, 0, none⟩ = some (.int .i64 a1_0) ∧ bx.cell? ⟨ae, 1, none⟩ = some (.slice A1_1 l1_1.length c1_1) ∧ bx.cell? ⟨af, 0, none⟩ = some (.int .i64 a2_0) ∧ bx.cell? ⟨af, 1, none⟩ = some (.slice A2_1 l2_1.length c2_1) := hS_
        refine norm_ (a' := ?_) ?_ ?_
        rotate_left
        ·
         simp only [putAll, Act.put, List.setIfInBounds_toArray, List.set_cons_zero, List.set_cons_succ]
         rfl
        refine two_ (i := 3) (j := 4) (Ni := some 13) (Nj := some 7) #[true, true, true, true, false, true, false, false] #[true, true, true, false, true, true, false, false] rfl rfl rfl rfl (two_of HT_.out (by kernel_rfl)) (by decide) (by decide) (fun K hK => ?_) (fun K hK => ?_)
        ·
         skip
         refine goes_ Try.func148 (by kernel_rfl) rfl #[.agg #[.int .i64 a2_0, .slice A2_1 l2_1.length c2_1]] (by rfl) rfl rfl lu ?_
         with_reducible refine (semiring_least.calls k a2_0 _ _ l2_1 a1 aR _ ?side1 ?side2 A5.out).mono ?_
         (case side1 => repeat (first | exact (Kd.C_below bZ.out HB.out) | (with_reducible refine Kd.C_alloc ?_ _) | (with_reducible refine Kd.C_drewN ?_ _) | (with_reducible refine Kd.C_drew ?_)))
         (case side2 => first | exact bw.out | exact vz bw.out)
         rintro e bM ⟨bq, rfl, bp, hb⟩
         refine ⟨_, rfl, ?_⟩
         replace aC := kv aC hb
         have aP := ar0 w.heap.size (ok' := fun k_ => (w.heap.size ≤ k_) ∧ k_ ≠ ax ∧ k_ ≠ ae ∧ k_ ≠ af ∧ k_ ≠ aj ∧ k_ ≠ ah) bp (fa (fz5 HB ai ak al au aG) (fa (fb ac) (fa (fb aa) (fa (fb ab) (fa (fb ad) (fb aw))))))
         replace ac := kb ac hb
         replace aa := kb aa hb
         replace ab := kb ab hb
         replace ad := kb ad hb
         replace aw := kb aw hb
         replace HB := be5 HB ai ak al au aG hb
         (try clear hb)
         (try clear hb2)
         (try clear hk)
         (try clear hi)
         (try clear bp)
         refine hK.out _ _ ⟨bc aa 0, bc aa 1, bc ab 0, bc ab 1⟩ (fun hHeld => ?_)
         clear hK K
         refine nq 13 ?_
         exact norm_ (by first | (simp only [putAll, Act.put, List.setIfInBounds_toArray, List.set_cons_zero, List.set_cons_succ]; done) | (simp only [putAll, Act.put, List.setIfInBounds_toArray, List.set_cons_zero, List.set_cons_succ]; rfl)) (hJ1_3_5 (a2, bq, ah) _ ⟨hHeld, (vu aC.out), (vu aP.out), (ku ac.out), (ku aa.out), (ku ab.out), (ku ad.out), (ku aw.out), aU.out, aG.out, aA.out, aK.out, ap.out, aL.out, aq.out, aM.out, aB.out, aE.out, (bu5 HB.out ai.out ak.out al.out au.out aG.out)⟩)
        ·
         skip
         refine box_step ?hg (N := 7) ?hd (cs := #[.int .i64 0, .slice none 0 0]) (t := 53) ?hr ?_; (case hd => rfl); (case hg => rfl); (case hr => first | (go_simp; done) | (go_simp; rfl))
         intro ag hg bM hbox hb
         replace aC := ke aC hg hb
         have av := am (hbox)
         have aT := ng hg (bu5 HB.out ai.out ak.out al.out au.out aG.out)
         have aF := ng hg (bu5 HB.out ai.out ak.out al.out au.out aG.out)
         replace HB := be5 HB ai ak al au aG hb
         have ay := nl hg ac
         have aH := nr hg ac
         replace ac := kb ac hb
         have an := nl hg aa
         have aI := nr hg aa
         replace aa := kb aa hb
         have ao := nl hg ab
         have aJ := nr hg ab
         replace ab := kb ab hb
         have az := nl hg ad
         have aD := nr hg ad
         replace ad := kb ad hb
         have aN := nl hg aw
         have aO := nr hg aw
         replace aw := kb aw hb
         clear hb hbox hg
         refine hK.out _ _ ⟨bc aa 0, bc aa 1, bc ab 0, bc ab 1⟩ (fun hHeld => ?_)
         clear hK K
         refine nq 7 ?_
         exact norm_ (by first | (simp only [putAll, Act.put, List.setIfInBounds_toArray, List.set_cons_zero, List.set_cons_succ]; done) | (simp only [putAll, Act.put, List.setIfInBounds_toArray, List.set_cons_zero, List.set_cons_succ]; rfl)) (hJ1_4_5 (a2, ag, ah) _ ⟨hHeld, (vz aC.out), (ku ac.out), (ku aa.out), (ku ab.out), (ku ad.out), (ku av.out), (ku aw.out), aT.out, aF.out, ay.out, aH.out, an.out, aI.out, ao.out, aJ.out, az.out, aD.out, aN.out, aO.out, aU.out, aG.out, aA.out, aK.out, ap.out, aL.out, aq.out, aM.out, aB.out, aE.out, (bu6 HB.out ai.out ak.out al.out au.out aG.out aF.out)⟩)
      ·
       skip
       rintro ⟨a2, ag⟩ bx ⟨hS_, a8, a9, ba, bb, bd, bf, bg, bj, bk, bl, aV, aW, aX, aY, aZ, a0, a3⟩
       (try dsimp -simprocs only at a8 a9 ba bb bd bf bg bj bk bl aV aW aX aY aZ a0 a3)
       clear ac aa ab ad HB
       have aC := Aside0.mk a8
       have ac := Aside0.mk a9
       have aa := Aside0.mk ba
       have ab := Aside0.mk bb
       have ad := Aside0.mk bd
       have av := Aside0.mk bf
       have aT := Aside0.mk bg
       have aF := Aside0.mk bj
       have ay := Aside0.mk bk
       have aH := Aside0.mk bl
       have an := Aside0.mk aV
       have aI := Aside0.mk aW
       have ao := Aside0.mk aX
       have aJ := Aside0.mk aY
       have az := Aside0.mk aZ
       have aD := Aside0.mk a0
       have HB := Aside0.mk a3
       clear a8 a9 ba bb bd bf bg bj bk bl aV aW aX aY aZ a0 a3
       have hHeld : bx.cell? ⟨ae, 0, none⟩ = some (.int .i64 a1_0) ∧ bx.cell? ⟨ae, 1, none⟩ = some (.slice A1_1 l1_1.length c1_1) ∧ bx.cell? ⟨af, 0, none⟩ = some (.int .i64 a2_0) ∧ bx.cell? ⟨af, 1, none⟩ = some (.slice A2_1 l2_1.length c2_1) := hS_
       refine norm_ (a' := ?_) ?_ ?_
       rotate_left
       ·
        simp only [putAll, Act.put, List.setIfInBounds_toArray, List.set_cons_zero, List.set_cons_succ]
        rfl
       refine two_ (i := 3) (j := 5) (Ni := some 13) (Nj := some 8) #[true, true, true, true, true, false, false, false] #[true, true, true, false, true, true, false, false] rfl rfl rfl rfl (two_of HT_.out (by kernel_rfl)) (by decide) (by decide) (fun K hK => ?_) (fun K hK => ?_)
       ·
        skip
        refine goes_ Try.func148 (by kernel_rfl) rfl #[.agg #[.int .i64 a2_0, .slice A2_1 l2_1.length c2_1]] (by rfl) rfl rfl lu ?_
        with_reducible refine (semiring_least.calls k a2_0 _ _ l2_1 a1 aR _ ?side1 ?side2 A5.out).mono ?_
        (case side1 => repeat (first | exact (Kd.C_below bZ.out HB.out) | (with_reducible refine Kd.C_alloc ?_ _) | (with_reducible refine Kd.C_drewN ?_ _) | (with_reducible refine Kd.C_drew ?_)))
        (case side2 => first | exact bw.out | exact vz bw.out)
        rintro e bM ⟨bq, rfl, bp, hb⟩
        refine ⟨_, rfl, ?_⟩
        replace aC := kv aC hb
        have aP := ar0 w.heap.size (ok' := fun k_ => (w.heap.size ≤ k_) ∧ k_ ≠ ax ∧ k_ ≠ ae ∧ k_ ≠ af ∧ k_ ≠ aj ∧ k_ ≠ ag) bp (fa (fz5 HB ai ak al au aF) (fa (fb ac) (fa (fb aa) (fa (fb ab) (fa (fb ad) (fb av))))))
        replace ac := kb ac hb
        replace aa := kb aa hb
        replace ab := kb ab hb
        replace ad := kb ad hb
        replace av := kb av hb
        replace HB := be5 HB ai ak al au aF hb
        (try clear hb)
        (try clear hb2)
        (try clear hk)
        (try clear hi)
        (try clear bp)
        refine hK.out _ _ ⟨bc aa 0, bc aa 1, bc ab 0, bc ab 1⟩ (fun hHeld => ?_)
        clear hK K
        refine nq 13 ?_
        exact norm_ (by first | (simp only [putAll, Act.put, List.setIfInBounds_toArray, List.set_cons_zero, List.set_cons_succ]; done) | (simp only [putAll, Act.put, List.setIfInBounds_toArray, List.set_cons_zero, List.set_cons_succ]; rfl)) (hJ1_3_4 (a2, bq, ag) _ ⟨hHeld, (vu aC.out), (vu aP.out), (ku ac.out), (ku aa.out), (ku ab.out), (ku ad.out), (ku av.out), aT.out, aF.out, ay.out, aH.out, an.out, aI.out, ao.out, aJ.out, az.out, aD.out, (bu5 HB.out ai.out ak.out al.out au.out aF.out)⟩)
       ·
        skip
        refine box_step ?hg (N := 8) ?hd (cs := #[.int .i64 0, .slice none 0 0]) (t := 53) ?hr ?_; (case hd => rfl); (case hg => rfl); (case hr => first | (go_simp; done) | (go_simp; rfl))
        intro ah hg bM hbox hb
        replace aC := ke aC hg hb
        have aw := am (hbox)
        have aU := ng hg (bu5 HB.out ai.out ak.out al.out au.out aF.out)
        have aG := ng hg (bu5 HB.out ai.out ak.out al.out au.out aF.out)
        replace HB := be5 HB ai ak al au aF hb
        have aA := nl hg ac
        have aK := nr hg ac
        replace ac := kb ac hb
        have ap := nl hg aa
        have aL := nr hg aa
        replace aa := kb aa hb
        have aq := nl hg ab
        have aM := nr hg ab
        replace ab := kb ab hb
        have aB := nl hg ad
        have aE := nr hg ad
        replace ad := kb ad hb
        have aO := nl hg av
        have aN := nr hg av
        replace av := kb av hb
        clear hb hbox hg
        refine hK.out _ _ ⟨bc aa 0, bc aa 1, bc ab 0, bc ab 1⟩ (fun hHeld => ?_)
        clear hK K
        refine nq 8 ?_
        exact norm_ (by first | (simp only [putAll, Act.put, List.setIfInBounds_toArray, List.set_cons_zero, List.set_cons_succ]; done) | (simp only [putAll, Act.put, List.setIfInBounds_toArray, List.set_cons_zero, List.set_cons_succ]; rfl)) (hJ1_4_5 (a2, ag, ah) _ ⟨hHeld, (vz aC.out), (ku ac.out), (ku aa.out), (ku ab.out), (ku ad.out), (ku av.out), (ku aw.out), aT.out, aF.out, ay.out, aH.out, an.out, aI.out, ao.out, aJ.out, az.out, aD.out, aN.out, aO.out, aU.out, aG.out, aA.out, aK.out, ap.out, aL.out, aq.out, aM.out, aB.out, aE.out, (bu6 HB.out ai.out ak.out al.out au.out aF.out aG.out)⟩)
     ·
      skip
      rintro ⟨a2, bq⟩ bx ⟨hS_, a8, a9, ba, bb, bd, bf, bg⟩
      (try dsimp -simprocs only at a8 a9 ba bb bd bf bg)
      clear ac aa ab ad HB
      have aC := Aside0.mk a8
      have aP := Aside0.mk a9
      have ac := Aside0.mk ba
      have aa := Aside0.mk bb
      have ab := Aside0.mk bd
      have ad := Aside0.mk bf
      have HB := Aside0.mk bg
      clear a8 a9 ba bb bd bf bg
      have hHeld : bx.cell? ⟨ae, 0, none⟩ = some (.int .i64 a1_0) ∧ bx.cell? ⟨ae, 1, none⟩ = some (.slice A1_1 l1_1.length c1_1) ∧ bx.cell? ⟨af, 0, none⟩ = some (.int .i64 a2_0) ∧ bx.cell? ⟨af, 1, none⟩ = some (.slice A2_1 l2_1.length c2_1) := hS_
      refine norm_ (a' := ?_) ?_ ?_
      rotate_left
      ·
       simp only [putAll, Act.put, List.setIfInBounds_toArray, List.set_cons_zero, List.set_cons_succ]
       rfl
      refine two_ (i := 4) (j := 5) (Ni := some 7) (Nj := some 8) #[true, true, true, true, true, false, false, false] #[true, true, true, true, false, true, false, false] rfl rfl rfl rfl (two_of HT_.out (by kernel_rfl)) (by decide) (by decide) (fun K hK => ?_) (fun K hK => ?_)
      ·
       skip
       refine box_step ?hg (N := 7) ?hd (cs := #[.int .i64 0, .slice none 0 0]) (t := 53) ?hr ?_; (case hd => rfl); (case hg => rfl); (case hr => first | (go_simp; done) | (go_simp; rfl))
       intro ag hg bM hbox hb
       replace aC := ke aC hg hb
       replace aP := ke aP hg hb
       have av := am (hbox)
       have aT := ng hg (bu4 HB.out ai.out ak.out al.out au.out)
       have aF := ng hg (bu4 HB.out ai.out ak.out al.out au.out)
       replace HB := be4 HB ai ak al au hb
       have ay := nl hg ac
       have aH := nr hg ac
       replace ac := kb ac hb
       have an := nl hg aa
       have aI := nr hg aa
       replace aa := kb aa hb
       have ao := nl hg ab
       have aJ := nr hg ab
       replace ab := kb ab hb
       have az := nl hg ad
       have aD := nr hg ad
       replace ad := kb ad hb
       clear hb hbox hg
       refine hK.out _ _ ⟨bc aa 0, bc aa 1, bc ab 0, bc ab 1⟩ (fun hHeld => ?_)
       clear hK K
       refine nq 7 ?_
       exact norm_ (by first | (simp only [putAll, Act.put, List.setIfInBounds_toArray, List.set_cons_zero, List.set_cons_succ]; done) | (simp only [putAll, Act.put, List.setIfInBounds_toArray, List.set_cons_zero, List.set_cons_succ]; rfl)) (hJ1_3_4 (a2, bq, ag) _ ⟨hHeld, (vz aC.out), (vz aP.out), (ku ac.out), (ku aa.out), (ku ab.out), (ku ad.out), (ku av.out), aT.out, aF.out, ay.out, aH.out, an.out, aI.out, ao.out, aJ.out, az.out, aD.out, (bu5 HB.out ai.out ak.out al.out au.out aF.out)⟩)
      ·
       skip
       refine box_step ?hg (N := 8) ?hd (cs := #[.int .i64 0, .slice none 0 0]) (t := 53) ?hr ?_; (case hd => rfl); (case hg => rfl); (case hr => first | (go_simp; done) | (go_simp; rfl))
       intro ah hg bM hbox hb
       replace aC := ke aC hg hb
       replace aP := ke aP hg hb
       have aw := am (hbox)
       have aU := ng hg (bu4 HB.out ai.out ak.out al.out au.out)
       have aG := ng hg (bu4 HB.out ai.out ak.out al.out au.out)
       replace HB := be4 HB ai ak al au hb
       have aA := nl hg ac
       have aK := nr hg ac
       replace ac := kb ac hb
       have ap := nl hg aa
       have aL := nr hg aa
       replace aa := kb aa hb
       have aq := nl hg ab
       have aM := nr hg ab
       replace ab := kb ab hb
       have aB := nl hg ad
       have aE := nr hg ad
       replace ad := kb ad hb
       clear hb hbox hg
       refine hK.out _ _ ⟨bc aa 0, bc aa 1, bc ab 0, bc ab 1⟩ (fun hHeld => ?_)
       clear hK K
       refine nq 8 ?_
       exact norm_ (by first | (simp only [putAll, Act.put, List.setIfInBounds_toArray, List.set_cons_zero, List.set_cons_succ]; done) | (simp only [putAll, Act.put, List.setIfInBounds_toArray, List.set_cons_zero, List.set_cons_succ]; rfl)) (hJ1_3_5 (a2, bq, ah) _ ⟨hHeld, (vz aC.out), (vz aP.out), (ku ac.out), (ku aa.out), (ku ab.out), (ku ad.out), (ku aw.out), aU.out, aG.out, aA.out, aK.out, ap.out, aL.out, aq.out, aM.out, aB.out, aE.out, (bu5 HB.out ai.out ak.out al.out au.out aG.out)⟩)
    ·
     skip
     rintro ⟨a2, ag, ah⟩ bM ⟨hS_, a8, a9, ba, bb, bd, bf, bg, bj, bk, bl, aV, aW, aX, aY, aZ, a0, a3, bh, bB, bC, bD, bE, bF, bG, bH, bI, bJ, bK, bL, bV⟩
     (try dsimp -simprocs only at a8 a9 ba bb bd bf bg bj bk bl aV aW aX aY aZ a0 a3 bh bB bC bD bE bF bG bH bI bJ bK bL bV)
     clear ac aa ab ad HB
     have aC := Aside0.mk a8
     have ac := Aside0.mk a9
     have aa := Aside0.mk ba
     have ab := Aside0.mk bb
     have ad := Aside0.mk bd
     have av := Aside0.mk bf
     have aw := Aside0.mk bg
     have aT := Aside0.mk bj
     have aF := Aside0.mk bk
     have ay := Aside0.mk bl
     have aH := Aside0.mk aV
     have an := Aside0.mk aW
     have aI := Aside0.mk aX
     have ao := Aside0.mk aY
     have aJ := Aside0.mk aZ
     have az := Aside0.mk a0
     have aD := Aside0.mk a3
     have aN := Aside0.mk bh
     have aO := Aside0.mk bB
     have aU := Aside0.mk bC
     have aG := Aside0.mk bD
     have aA := Aside0.mk bE
     have aK := Aside0.mk bF
     have ap := Aside0.mk bG
     have aL := Aside0.mk bH
     have aq := Aside0.mk bI
     have aM := Aside0.mk bJ
     have aB := Aside0.mk bK
     have aE := Aside0.mk bL
     have HB := Aside0.mk bV
     clear a8 a9 ba bb bd bf bg bj bk bl aV aW aX aY aZ a0 a3 bh bB bC bD bE bF bG bH bI bJ bK bL bV
     have hHeld : bM.cell? ⟨ae, 0, none⟩ = some (.int .i64 a1_0) ∧ bM.cell? ⟨ae, 1, none⟩ = some (.slice A1_1 l1_1.length c1_1) ∧ bM.cell? ⟨af, 0, none⟩ = some (.int .i64 a2_0) ∧ bM.cell? ⟨af, 1, none⟩ = some (.slice A2_1 l2_1.length c2_1) := hS_
     refine norm_ (a' := ?_) ?_ ?_
     rotate_left
     ·
      simp only [putAll, Act.put, List.setIfInBounds_toArray, List.set_cons_zero, List.set_cons_succ]
      rfl
     refine one_ (i := 3) (N := some 13) #[true, true, true, true, true, true, false, false] rfl rfl (one_of HT_.out (by kernel_rfl)) (by decide) (fun K hK => ?_)
     refine goes_ Try.func148 (by kernel_rfl) rfl #[.agg #[.int .i64 a2_0, .slice A2_1 l2_1.length c2_1]] (by rfl) rfl rfl lu ?_
     with_reducible refine (semiring_least.calls k a2_0 _ _ l2_1 a1 aR _ ?side1 ?side2 A5.out).mono ?_
     (case side1 => repeat (first | exact (Kd.C_below bZ.out HB.out) | (with_reducible refine Kd.C_alloc ?_ _) | (with_reducible refine Kd.C_drewN ?_ _) | (with_reducible refine Kd.C_drew ?_)))
     (case side2 => first | exact bw.out | exact vz bw.out)
     rintro e bA ⟨bq, rfl, bp, hb⟩
     refine ⟨_, rfl, ?_⟩
     replace aC := kv aC hb
     have aP := ar0 w.heap.size (ok' := fun k_ => (w.heap.size ≤ k_) ∧ k_ ≠ ax ∧ k_ ≠ ae ∧ k_ ≠ af ∧ k_ ≠ aj ∧ k_ ≠ ag ∧ k_ ≠ ah) bp (fa (fz6 HB ai ak al au aF aG) (fa (fb ac) (fa (fb aa) (fa (fb ab) (fa (fb ad) (fa (fb av) (fb aw)))))))
     replace ac := kb ac hb
     replace aa := kb aa hb
     replace ab := kb ab hb
     replace ad := kb ad hb
     replace av := kb av hb
     replace aw := kb aw hb
     replace HB := be6 HB ai ak al au aF aG hb
     (try clear hb)
     (try clear hb2)
     (try clear hk)
     (try clear hi)
     (try clear bp)
     refine hK.out _ _ ⟨bc aa 0, bc aa 1, bc ab 0, bc ab 1⟩ (fun hHeld => ?_)
     clear hK K
     refine nq 13 ?_
     exact norm_ (by first | (simp only [putAll, Act.put, List.setIfInBounds_toArray, List.set_cons_zero, List.set_cons_succ]; done) | (simp only [putAll, Act.put, List.setIfInBounds_toArray, List.set_cons_zero, List.set_cons_succ]; rfl)) (hJ1_3_4_5 (a2, bq, ag, ah) _ ⟨hHeld, (vu aC.out), (vu aP.out), (ku ac.out), (ku aa.out), (ku ab.out), (ku ad.out), (ku av.out), (ku aw.out), aT.out, aF.out, ay.out, aH.out, an.out, aI.out, ao.out, aJ.out, az.out, aD.out, aN.out, aO.out, aU.out, aG.out, aA.out, aK.out, ap.out, aL.out, aq.out, aM.out, aB.out, aE.out, (bu6 HB.out ai.out ak.out al.out au.out aF.out aG.out)⟩)
   ·
    skip
    rintro ⟨a2, bq, ah⟩ bM ⟨hS_, a8, a9, ba, bb, bd, bf, bg, bj, bk, bl, aV, aW, aX, aY, aZ, a0, a3, bh⟩
    (try dsimp -simprocs only at a8 a9 ba bb bd bf bg bj bk bl aV aW aX aY aZ a0 a3 bh)
    clear ac aa ab ad HB
    have aC := Aside0.mk a8
    have aP := Aside0.mk a9
    have ac := Aside0.mk ba
    have aa := Aside0.mk bb
    have ab := Aside0.mk bd
    have ad := Aside0.mk bf
    have aw := Aside0.mk bg
    have aU := Aside0.mk bj
    have aG := Aside0.mk bk
    have aA := Aside0.mk bl
    have aK := Aside0.mk aV
    have ap := Aside0.mk aW
    have aL := Aside0.mk aX
    have aq := Aside0.mk aY
    have aM := Aside0.mk aZ
    have aB := Aside0.mk a0
    have aE := Aside0.mk a3
    have HB := Aside0.mk bh
    clear a8 a9 ba bb bd bf bg bj bk bl aV aW aX aY aZ a0 a3 bh
    have hHeld : bM.cell? ⟨ae, 0, none⟩ = some (.int .i64 a1_0) ∧ bM.cell? ⟨ae, 1, none⟩ = some (.slice A1_1 l1_1.length c1_1) ∧ bM.cell? ⟨af, 0, none⟩ = some (.int .i64 a2_0) ∧ bM.cell? ⟨af, 1, none⟩ = some (.slice A2_1 l2_1.length c2_1) := hS_
    refine norm_ (a' := ?_) ?_ ?_
    rotate_left
    ·
     simp only [putAll, Act.put, List.setIfInBounds_toArray, List.set_cons_zero, List.set_cons_succ]
     rfl
    refine one_ (i := 4) (N := some 7) #[true, true, true, true, true, true, false, false] rfl rfl (one_of HT_.out (by kernel_rfl)) (by decide) (fun K hK => ?_)
    refine box_step ?hg (N := 7) ?hd (cs := #[.int .i64 0, .slice none 0 0]) (t := 53) ?hr ?_; (case hd => rfl); (case hg => rfl); (case hr => first | (go_simp; done) | (go_simp; rfl))
    intro ag hg bA hbox hb
    replace aC := ke aC hg hb
    replace aP := ke aP hg hb
    have av := am (hbox)
    have aT := ng hg (bu5 HB.out ai.out ak.out al.out au.out aG.out)
    have aF := ng hg (bu5 HB.out ai.out ak.out al.out au.out aG.out)
    replace HB := be5 HB ai ak al au aG hb
    have ay := nl hg ac
    have aH := nr hg ac
    replace ac := kb ac hb
    have an := nl hg aa
    have aI := nr hg aa
    replace aa := kb aa hb
    have ao := nl hg ab
    have aJ := nr hg ab
    replace ab := kb ab hb
    have az := nl hg ad
    have aD := nr hg ad
    replace ad := kb ad hb
    have aN := nl hg aw
    have aO := nr hg aw
    replace aw := kb aw hb
    clear hb hbox hg
    refine hK.out _ _ ⟨bc aa 0, bc aa 1, bc ab 0, bc ab 1⟩ (fun hHeld => ?_)
    clear hK K
    refine nq 7 ?_
    exact norm_ (by first | (simp only [putAll, Act.put, List.setIfInBounds_toArray, List.set_cons_zero, List.set_cons_succ]; done) | (simp only [putAll, Act.put, List.setIfInBounds_toArray, List.set_cons_zero, List.set_cons_succ]; rfl)) (hJ1_3_4_5 (a2, bq, ag, ah) _ ⟨hHeld, (vz aC.out), (vz aP.out), (ku ac.out), (ku aa.out), (ku ab.out), (ku ad.out), (ku av.out), (ku aw.out), aT.out, aF.out, ay.out, aH.out, an.out, aI.out, ao.out, aJ.out, az.out, aD.out, aN.out, aO.out, aU.out, aG.out, aA.out, aK.out, ap.out, aL.out, aq.out, aM.out, aB.out, aE.out, (bu6 HB.out ai.out ak.out al.out au.out aG.out aF.out)⟩)
  ·
   skip
   rintro ⟨a2, bq, ag⟩ bM ⟨hS_, a8, a9, ba, bb, bd, bf, bg, bj, bk, bl, aV, aW, aX, aY, aZ, a0, a3, bh⟩
   (try dsimp -simprocs only at a8 a9 ba bb bd bf bg bj bk bl aV aW aX aY aZ a0 a3 bh)
   clear ac aa ab ad HB
   have aC := Aside0.mk a8
   have aP := Aside0.mk a9
   have ac := Aside0.mk ba
   have aa := Aside0.mk bb
   have ab := Aside0.mk bd
   have ad := Aside0.mk bf
   have av := Aside0.mk bg
   have aT := Aside0.mk bj
   have aF := Aside0.mk bk
   have ay := Aside0.mk bl
   have aH := Aside0.mk aV
   have an := Aside0.mk aW
   have aI := Aside0.mk aX
   have ao := Aside0.mk aY
   have aJ := Aside0.mk aZ
   have az := Aside0.mk a0
   have aD := Aside0.mk a3
   have HB := Aside0.mk bh
   clear a8 a9 ba bb bd bf bg bj bk bl aV aW aX aY aZ a0 a3 bh
   have hHeld : bM.cell? ⟨ae, 0, none⟩ = some (.int .i64 a1_0) ∧ bM.cell? ⟨ae, 1, none⟩ = some (.slice A1_1 l1_1.length c1_1) ∧ bM.cell? ⟨af, 0, none⟩ = some (.int .i64 a2_0) ∧ bM.cell? ⟨af, 1, none⟩ = some (.slice A2_1 l2_1.length c2_1) := hS_
   refine norm_ (a' := ?_) ?_ ?_
   rotate_left
   ·
    simp only [putAll, Act.put, List.setIfInBounds_toArray, List.set_cons_zero, List.set_cons_succ]
    rfl
   refine one_ (i := 5) (N := some 8) #[true, true, true, true, true, true, false, false] rfl rfl (one_of HT_.out (by kernel_rfl)) (by decide) (fun K hK => ?_)
   refine box_step ?hg (N := 8) ?hd (cs := #[.int .i64 0, .slice none 0 0]) (t := 53) ?hr ?_; (case hd => rfl); (case hg => rfl); (case hr => first | (go_simp; done) | (go_simp; rfl))
   intro ah hg bA hbox hb
   replace aC := ke aC hg hb
   replace aP := ke aP hg hb
   have aw := am (hbox)
   have aU := ng hg (bu5 HB.out ai.out ak.out al.out au.out aF.out)
   have aG := ng hg (bu5 HB.out ai.out ak.out al.out au.out aF.out)
   replace HB := be5 HB ai ak al au aF hb
   have aA := nl hg ac
   have aK := nr hg ac
   replace ac := kb ac hb
   have ap := nl hg aa
   have aL := nr hg aa
   replace aa := kb aa hb
   have aq := nl hg ab
   have aM := nr hg ab
   replace ab := kb ab hb
   have aB := nl hg ad
   have aE := nr hg ad
   replace ad := kb ad hb
   have aO := nl hg av
   have aN := nr hg av
   replace av := kb av hb
   clear hb hbox hg
   refine hK.out _ _ ⟨bc aa 0, bc aa 1, bc ab 0, bc ab 1⟩ (fun hHeld => ?_)
   clear hK K
   refine nq 8 ?_
   exact norm_ (by first | (simp only [putAll, Act.put, List.setIfInBounds_toArray, List.set_cons_zero, List.set_cons_succ]; done) | (simp only [putAll, Act.put, List.setIfInBounds_toArray, List.set_cons_zero, List.set_cons_succ]; rfl)) (hJ1_3_4_5 (a2, bq, ag, ah) _ ⟨hHeld, (vz aC.out), (vz aP.out), (ku ac.out), (ku aa.out), (ku ab.out), (ku ad.out), (ku av.out), (ku aw.out), aT.out, aF.out, ay.out, aH.out, an.out, aI.out, ao.out, aJ.out, az.out, aD.out, aN.out, aO.out, aU.out, aG.out, aA.out, aK.out, ap.out, aL.out, aq.out, aM.out, aB.out, aE.out, (bu6 HB.out ai.out ak.out al.out au.out aF.out aG.out)⟩)
 rintro ⟨a2, bq, ag, ah⟩ bA ⟨hS_, a8, a9, ba, bb, bd, bf, bg, bj, bk, bl, aV, aW, aX, aY, aZ, a0, a3, bh, bB, bC, bD, bE, bF, bG, bH, bI, bJ, bK, bL, bV, cn⟩
 (try dsimp -simprocs only at a8 a9 ba bb bd bf bg bj bk bl aV aW aX aY aZ a0 a3 bh bB bC bD bE bF bG bH bI bJ bK bL bV cn)
 clear ac aa ab ad HB
 have aC := Aside0.mk a8
 have aP := Aside0.mk a9
 have ac := Aside0.mk ba
 have aa := Aside0.mk bb
 have ab := Aside0.mk bd
 have ad := Aside0.mk bf
 have av := Aside0.mk bg
 have aw := Aside0.mk bj
 have aT := Aside0.mk bk
 have aF := Aside0.mk bl
 have ay := Aside0.mk aV
 have aH := Aside0.mk aW
 have an := Aside0.mk aX
 have aI := Aside0.mk aY
 have ao := Aside0.mk aZ
 have aJ := Aside0.mk a0
 have az := Aside0.mk a3
 have aD := Aside0.mk bh
 have aN := Aside0.mk bB
 have aO := Aside0.mk bC
 have aU := Aside0.mk bD
 have aG := Aside0.mk bE
 have aA := Aside0.mk bF
 have aK := Aside0.mk bG
 have ap := Aside0.mk bH
 have aL := Aside0.mk bI
 have aq := Aside0.mk bJ
 have aM := Aside0.mk bK
 have aB := Aside0.mk bL
 have aE := Aside0.mk bV
 have HB := Aside0.mk cn
 clear a8 a9 ba bb bd bf bg bj bk bl aV aW aX aY aZ a0 a3 bh bB bC bD bE bF bG bH bI bJ bK bL bV cn
 have hHeld : bA.cell? ⟨ae, 0, none⟩ = some (.int .i64 a1_0) ∧ bA.cell? ⟨ae, 1, none⟩ = some (.slice A1_1 l1_1.length c1_1) ∧ bA.cell? ⟨af, 0, none⟩ = some (.int .i64 a2_0) ∧ bA.cell? ⟨af, 1, none⟩ = some (.slice A2_1 l2_1.length c2_1) := hS_
 obtain ⟨a4, a5, cw⟩ := Kd.V_slice aC.out
 (first | subst cw | (injection cw with f1_ f2_ f3_; have f4_ := f1_.symm; have f5_ := f3_.symm; clear f1_ f2_ f3_; subst f4_; subst f5_))
 obtain ⟨a6, a7, cx⟩ := Kd.V_slice aP.out
 (first | subst cx | (injection cx with f1_ f2_ f3_; have f4_ := f1_.symm; have f5_ := f3_.symm; clear f1_ f2_ f3_; subst f4_; subst f5_))
 refine norm_ (a' := ?_) ?_ ?_
 rotate_left
 ·
  simp only [putAll, Act.put, List.setIfInBounds_toArray, List.set_cons_zero, List.set_cons_succ]
  rfl
 refine one_ (i := 6) (N := none) #[true, true, true, true, true, true, true, false] rfl rfl (one_of HT_.out (by kernel_rfl)) (by decide) (fun K hK => ?_)
 have hs19 : bA.cell? ⟨ag, 0, none⟩ = some (.int .i64 0) := bc av 0
 have hfs19 := blk_frozen av.out 0
 have hns19_0 := ay.out
 have hns19_1 := an.out
 have hns19_2 := ao.out
 have hns19_3 := az.out
 have hns19_5 := aN.out
 have hms19_0 := aH.out
 have hms19_1 := aI.out
 have hms19_2 := aJ.out
 have hms19_3 := aD.out
 have hms19_5 := aO.out
 have hs21 : bA.cell? ⟨ag, 1, none⟩ = some (.slice none 0 0) := bc av 1
 have hfs21 := blk_frozen av.out 1
 have hns21_0 := ay.out
 have hns21_1 := an.out
 have hns21_2 := ao.out
 have hns21_3 := az.out
 have hns21_5 := aN.out
 have hms21_0 := aH.out
 have hms21_1 := aI.out
 have hms21_2 := aJ.out
 have hms21_3 := aD.out
 have hms21_5 := aO.out
 refine skip_ (w1 := ?_) (by rfl) rfl ?_ ?_
 rotate_left
 ·
  go_simp
  rfl
 refine hK.out _ _ ⟨((cell_far (p := ⟨ag, _, none⟩) an.out _).trans (((cell_far (p := ⟨ag, _, none⟩) an.out _).trans (hHeld.1)))), ((cell_far (p := ⟨ag, _, none⟩) an.out _).trans (((cell_far (p := ⟨ag, _, none⟩) an.out _).trans (hHeld.2.1)))), ((cell_far (p := ⟨ag, _, none⟩) ao.out _).trans (((cell_far (p := ⟨ag, _, none⟩) ao.out _).trans (hHeld.2.2.1)))), ((cell_far (p := ⟨ag, _, none⟩) ao.out _).trans (((cell_far (p := ⟨ag, _, none⟩) ao.out _).trans (hHeld.2.2.2))))⟩ (fun hHeld => ?_)
 clear hK K
 refine one_ (i := 7) (N := none) #[true, true, true, true, true, true, true, true] rfl rfl (one_of HT_.out (by kernel_rfl)) (by decide) (fun K hK => ?_)
 have hs22 : bA.cell? ⟨ah, 0, none⟩ = some (.int .i64 0) := bc aw 0
 have hfs22 := blk_frozen aw.out 0
 have hns22_0 := aA.out
 have hns22_1 := ap.out
 have hns22_2 := aq.out
 have hns22_3 := aB.out
 have hns22_4 := aO.out
 have hms22_0 := aK.out
 have hms22_1 := aL.out
 have hms22_2 := aM.out
 have hms22_3 := aE.out
 have hms22_4 := aN.out
 have hs24 : bA.cell? ⟨ah, 1, none⟩ = some (.slice none 0 0) := bc aw 1
 have hfs24 := blk_frozen aw.out 1
 have hns24_0 := aA.out
 have hns24_1 := ap.out
 have hns24_2 := aq.out
 have hns24_3 := aB.out
 have hns24_4 := aO.out
 have hms24_0 := aK.out
 have hms24_1 := aL.out
 have hms24_2 := aM.out
 have hms24_3 := aE.out
 have hms24_4 := aN.out
 refine skip_ (w1 := ?_) (by rfl) rfl ?_ ?_
 rotate_left
 ·
  go_simp
  rfl
 refine hK.out _ _ ⟨((cell_far (p := ⟨ah, _, none⟩) ap.out _).trans (((cell_far (p := ⟨ah, _, none⟩) ap.out _).trans (hHeld.1)))), ((cell_far (p := ⟨ah, _, none⟩) ap.out _).trans (((cell_far (p := ⟨ah, _, none⟩) ap.out _).trans (hHeld.2.1)))), ((cell_far (p := ⟨ah, _, none⟩) aq.out _).trans (((cell_far (p := ⟨ah, _, none⟩) aq.out _).trans (hHeld.2.2.1)))), ((cell_far (p := ⟨ah, _, none⟩) aq.out _).trans (((cell_far (p := ⟨ah, _, none⟩) aq.out _).trans (hHeld.2.2.2))))⟩ (fun hHeld => ?_)
 clear hK K
 refine done_ (done_of HT_.out (by kernel_rfl)) ?_
 by_cases c7 : bi = 4611686018427387904
 ·
  rw [if_pos c7] at H
  have c2 : (bi == 4611686018427387904) = true := beq_iff_eq.mpr c7
  have c3 : (bi != 4611686018427387904) = false := bne_eq_false_iff_eq.mpr c7
  clear c7
  obtain ⟨⟨b1, bW⟩, A8, H⟩ := bs H
  replace H : (some (b1, bW)) = some (r1, r2) := H
  simp only [Option.some.injEq, Prod.mk.injEq] at H
  obtain ⟨rfl, rfl⟩ := H
  have df := aH.out
  have dg := ay.out
  have dh := aI.out
  have di := an.out
  have dj := aJ.out
  have dk := ao.out
  have dl := aD.out
  have dm := az.out
  have dn := aO.out
  have dp := aN.out
  have cE : bA.cell? ⟨ag, 0, none⟩ = some (.int .i64 0) := bc av 0
  have cF : bA.cell? ⟨ag, 1, none⟩ = some (.slice none 0 0) := bc av 1
  have cG := blk_frozen av.out 0
  have cH := blk_frozen av.out 1
  have dq := aK.out
  have dr := aA.out
  have dt := aL.out
  have du := ap.out
  have dv := aM.out
  have dw := aq.out
  have dx := aE.out
  have dy := aB.out
  have cI : bA.cell? ⟨ah, 0, none⟩ = some (.int .i64 0) := bc aw 0
  have cJ : bA.cell? ⟨ah, 1, none⟩ = some (.slice none 0 0) := bc aw 1
  have cK := blk_frozen aw.out 0
  have cL := blk_frozen aw.out 1
  try go_wp2_with (first | ((with_reducible refine gate_callee (f := 139) rfl ?_); refine goesL_ (some 18) rfl rfl Try.func139 (by kernel_rfl) rfl #[.int .i64 aS, .int .i64 a1] rfl lu ?_; (with_reducible refine (semiring_capped.calls aS a1 bi _ A6.out).mono ?_); rintro e w' ⟨rfl, ⟨nd, rfl⟩⟩; refine ⟨_, rfl, ?_⟩) | ((with_reducible refine gate_callee (f := 147) rfl ?_); refine goesL_ (some 21) rfl rfl Try.func147 (by kernel_rfl) rfl #[] rfl lu ?_; (with_reducible refine (semiring_never.calls  b1 bW _ A8.out).mono ?_); rintro e c4 ⟨d6, rfl, bp, hb⟩; refine ⟨_, rfl, ?_⟩; replace bp := R_V_base rfl bp; replace aC := am (Kd.V_below (by (with_reducible repeat (first | apply Kd.V_alloc | apply Kd.V_drewN | apply Kd.V_drew)); exact (Kd.V_mono (Kd.V_mono (Kd.V_far (p := ⟨ah, 1, none⟩) (Kd.V_far (p := ⟨ah, 0, none⟩) (Kd.V_far (p := ⟨ag, 1, none⟩) (Kd.V_far (p := ⟨ag, 0, none⟩) (Kd.V_mono (Kd.V_mono aC.out (fun k_ hk => (⟨hk, hk.2.2.2.2.2.1⟩ : _ ∧ k_ ≠ ag))) (fun k_ hk => (⟨hk, hk.1.2.2.2.2.2.2⟩ : _ ∧ k_ ≠ ah))) (fun _ hk => hk.1.2) (.int .i64 aS)) (fun _ hk => hk.1.2) (.slice a4 aQ.length a5)) (fun _ hk => hk.2) (.int .i64 a1)) (fun _ hk => hk.2) (.slice a6 aR.length a7)) (fun _ h_ => h_.1)) (fun _ h_ => h_.1))) hb); replace aP := am (Kd.V_below (by (with_reducible repeat (first | apply Kd.V_alloc | apply Kd.V_drewN | apply Kd.V_drew)); exact (Kd.V_mono (Kd.V_mono (Kd.V_far (p := ⟨ah, 1, none⟩) (Kd.V_far (p := ⟨ah, 0, none⟩) (Kd.V_far (p := ⟨ag, 1, none⟩) (Kd.V_far (p := ⟨ag, 0, none⟩) (Kd.V_mono (Kd.V_mono aP.out (fun k_ hk => (⟨hk, hk.2.2.2.2.2.1⟩ : _ ∧ k_ ≠ ag))) (fun k_ hk => (⟨hk, hk.1.2.2.2.2.2.2⟩ : _ ∧ k_ ≠ ah))) (fun _ hk => hk.1.2) (.int .i64 aS)) (fun _ hk => hk.1.2) (.slice a4 aQ.length a5)) (fun _ hk => hk.2) (.int .i64 a1)) (fun _ hk => hk.2) (.slice a6 aR.length a7)) (fun _ h_ => h_.1)) (fun _ h_ => h_.1))) hb); have bS := ar0 w.heap.size (ok' := fun k_ => (w.heap.size ≤ k_) ∧ k_ ≠ ax ∧ k_ ≠ ae ∧ k_ ≠ af ∧ k_ ≠ aj ∧ k_ ≠ ag ∧ k_ ≠ ah) bp (fa (fz6 HB ai ak al au aF aG) (fa (fs ac) (fa (fs aa) (fa (fs ab) (fa (fs ad) (fa (fs av) (fs aw))))))); replace ac := am (blk_below (g := ax) (o := .cells #[] 54 (0, 0)) (by (with_reducible repeat (first | refine blk_drewN ?_ _ | refine blk_drew ?_ | refine blk_alloc ?_ _)); refine blk_far ?_ aA.out _; (with_reducible repeat (first | refine blk_drewN ?_ _ | refine blk_drew ?_ | refine blk_alloc ?_ _)); refine blk_far ?_ aA.out _; (with_reducible repeat (first | refine blk_drewN ?_ _ | refine blk_drew ?_ | refine blk_alloc ?_ _)); refine blk_far ?_ ay.out _; (with_reducible repeat (first | refine blk_drewN ?_ _ | refine blk_drew ?_ | refine blk_alloc ?_ _)); refine blk_far ?_ ay.out _; (with_reducible repeat (first | refine blk_drewN ?_ _ | refine blk_drew ?_ | refine blk_alloc ?_ _)); exact ac.out) hb); replace aa := am (blk_below (g := ae) (o := .cells #[.int .i64 a1_0, .slice A1_1 l1_1.length c1_1] 53 (0, 0)) (by (with_reducible repeat (first | refine blk_drewN ?_ _ | refine blk_drew ?_ | refine blk_alloc ?_ _)); refine blk_far ?_ ap.out _; (with_reducible repeat (first | refine blk_drewN ?_ _ | refine blk_drew ?_ | refine blk_alloc ?_ _)); refine blk_far ?_ ap.out _; (with_reducible repeat (first | refine blk_drewN ?_ _ | refine blk_drew ?_ | refine blk_alloc ?_ _)); refine blk_far ?_ an.out _; (with_reducible repeat (first | refine blk_drewN ?_ _ | refine blk_drew ?_ | refine blk_alloc ?_ _)); refine blk_far ?_ an.out _; (with_reducible repeat (first | refine blk_drewN ?_ _ | refine blk_drew ?_ | refine blk_alloc ?_ _)); exact aa.out) hb); replace ab := am (blk_below (g := af) (o := .cells #[.int .i64 a2_0, .slice A2_1 l2_1.length c2_1] 53 (0, 0)) (by (with_reducible repeat (first | refine blk_drewN ?_ _ | refine blk_drew ?_ | refine blk_alloc ?_ _)); refine blk_far ?_ aq.out _; (with_reducible repeat (first | refine blk_drewN ?_ _ | refine blk_drew ?_ | refine blk_alloc ?_ _)); refine blk_far ?_ aq.out _; (with_reducible repeat (first | refine blk_drewN ?_ _ | refine blk_drew ?_ | refine blk_alloc ?_ _)); refine blk_far ?_ ao.out _; (with_reducible repeat (first | refine blk_drewN ?_ _ | refine blk_drew ?_ | refine blk_alloc ?_ _)); refine blk_far ?_ ao.out _; (with_reducible repeat (first | refine blk_drewN ?_ _ | refine blk_drew ?_ | refine blk_alloc ?_ _)); exact ab.out) hb); replace ad := am (blk_below (g := aj) (o := .cells #[.int .i64 0, .slice none 0 0] 53 (0, 0)) (by (with_reducible repeat (first | refine blk_drewN ?_ _ | refine blk_drew ?_ | refine blk_alloc ?_ _)); refine blk_far ?_ aB.out _; (with_reducible repeat (first | refine blk_drewN ?_ _ | refine blk_drew ?_ | refine blk_alloc ?_ _)); refine blk_far ?_ aB.out _; (with_reducible repeat (first | refine blk_drewN ?_ _ | refine blk_drew ?_ | refine blk_alloc ?_ _)); refine blk_far ?_ az.out _; (with_reducible repeat (first | refine blk_drewN ?_ _ | refine blk_drew ?_ | refine blk_alloc ?_ _)); refine blk_far ?_ az.out _; (with_reducible repeat (first | refine blk_drewN ?_ _ | refine blk_drew ?_ | refine blk_alloc ?_ _)); exact ad.out) hb); replace av := am (blk_below (g := ag) (o := .cells #[.int .i64 aS, .slice a4 aQ.length a5] 53 (0, 0)) (by (with_reducible repeat (first | refine blk_drewN ?_ _ | refine blk_drew ?_ | refine blk_alloc ?_ _)); refine blk_far ?_ aO.out _; (with_reducible repeat (first | refine blk_drewN ?_ _ | refine blk_drew ?_ | refine blk_alloc ?_ _)); refine blk_far ?_ aO.out _; (with_reducible repeat (first | refine blk_drewN ?_ _ | refine blk_drew ?_ | refine blk_alloc ?_ _)); refine blk_put (cs := #[.int .i64 aS, .slice none 0 0]) ?_ 1 _ rfl; (with_reducible repeat (first | refine blk_drewN ?_ _ | refine blk_drew ?_ | refine blk_alloc ?_ _)); refine blk_put (cs := #[.int .i64 0, .slice none 0 0]) ?_ 0 _ rfl; (with_reducible repeat (first | refine blk_drewN ?_ _ | refine blk_drew ?_ | refine blk_alloc ?_ _)); exact av.out) hb); replace aw := am (blk_below (g := ah) (o := .cells #[.int .i64 a1, .slice a6 aR.length a7] 53 (0, 0)) (by (with_reducible repeat (first | refine blk_drewN ?_ _ | refine blk_drew ?_ | refine blk_alloc ?_ _)); refine blk_put (cs := #[.int .i64 a1, .slice none 0 0]) ?_ 1 _ rfl; (with_reducible repeat (first | refine blk_drewN ?_ _ | refine blk_drew ?_ | refine blk_alloc ?_ _)); refine blk_put (cs := #[.int .i64 0, .slice none 0 0]) ?_ 0 _ rfl; (with_reducible repeat (first | refine blk_drewN ?_ _ | refine blk_drew ?_ | refine blk_alloc ?_ _)); refine blk_far ?_ aN.out _; (with_reducible repeat (first | refine blk_drewN ?_ _ | refine blk_drew ?_ | refine blk_alloc ?_ _)); refine blk_far ?_ aN.out _; (with_reducible repeat (first | refine blk_drewN ?_ _ | refine blk_drew ?_ | refine blk_alloc ?_ _)); exact aw.out) hb); replace HB := be6 HB ai ak al au aF aG hb; (try clear hb); (try clear hk); (try clear bp); have dz := bO.out; have dA := bm.out; have dB := bP.out; have dC := bn.out; have dD := bQ.out; have dE := bo.out; have cM : c4.cell? ⟨aj, 0, none⟩ = some (.int .i64 0) := bc ad 0; have cN : c4.cell? ⟨aj, 1, none⟩ = some (.slice none 0 0) := bc ad 1; have cO := blk_frozen ad.out 0; have cP := blk_frozen ad.out 1; obtain ⟨ch, ci, c5⟩ := Kd.V_slice bS.out; subst c5) | ((with_reducible refine gate_store (t := 53) (p := 6) rfl ?_); refine store_event (t := 53) (p := 6) (v := ?vo_w42) (w1 := ((c4.setCell ⟨aj, 0, none⟩ (.int .i64 b1)).setCell ⟨aj, 1, none⟩ (.slice ch bW.length ci))) ?hg ?ho ?hn ?hr ?_; (case ho => rfl); (case hg => rfl); (case hn => rfl); (case hr => first | (go_simp; done) | (go_simp; rfl)); intro cg hw; have b4 : Aside0 (Kd.V (Kd.int .u32) 48 cg w.heap.size (fun k_ => (w.heap.size ≤ k_) ∧ k_ ≠ ax ∧ k_ ≠ ae ∧ k_ ≠ af ∧ k_ ≠ aj ∧ k_ ≠ ag ∧ k_ ≠ ah) (.slice a4 aQ.length a5) aQ) := ⟨(by rw [hw]; exact vf aC.out)⟩; have b5 : Aside0 (Kd.V (Kd.int .u32) 48 cg w.heap.size (fun k_ => (w.heap.size ≤ k_) ∧ k_ ≠ ax ∧ k_ ≠ ae ∧ k_ ≠ af ∧ k_ ≠ aj ∧ k_ ≠ ag ∧ k_ ≠ ah) (.slice a6 aR.length a7) aR) := ⟨(by rw [hw]; exact vf aP.out)⟩; have b6 : Aside0 (Kd.V (Kd.int .u32) 48 cg w.heap.size (fun k_ => (w.heap.size ≤ k_) ∧ k_ ≠ ax ∧ k_ ≠ ae ∧ k_ ≠ af ∧ k_ ≠ aj ∧ k_ ≠ ag ∧ k_ ≠ ah) (.slice ch bW.length ci) bW) := ⟨(by rw [hw]; exact vf bS.out)⟩; have b7 : Aside0 (cg.heap[ax]? = some (.cells #[] 54 (0, 0))) := ⟨(by rw [hw]; exact (kf bm.out ac.out))⟩; have b8 : Aside0 (cg.heap[ae]? = some (.cells #[.int .i64 a1_0, .slice A1_1 l1_1.length c1_1] 53 (0, 0))) := ⟨(by rw [hw]; exact (kf bn.out aa.out))⟩; have b9 : Aside0 (cg.heap[af]? = some (.cells #[.int .i64 a2_0, .slice A2_1 l2_1.length c2_1] 53 (0, 0))) := ⟨(by rw [hw]; exact (kf bo.out ab.out))⟩; have ca : Aside0 (cg.heap[aj]? = some (.cells #[.int .i64 b1, .slice ch bW.length ci] 53 (0, 0))) := ⟨(by rw [hw]; exact (by (with_reducible repeat (first | refine blk_drewN ?_ _ | refine blk_drew ?_ | refine blk_alloc ?_ _)); refine blk_put (cs := #[.int .i64 b1, .slice none 0 0]) ?_ 1 _ rfl; (with_reducible repeat (first | refine blk_drewN ?_ _ | refine blk_drew ?_ | refine blk_alloc ?_ _)); refine blk_put (cs := #[.int .i64 0, .slice none 0 0]) ?_ 0 _ rfl; (with_reducible repeat (first | refine blk_drewN ?_ _ | refine blk_drew ?_ | refine blk_alloc ?_ _)); exact ad.out))⟩; have cb : Aside0 (cg.heap[ag]? = some (.cells #[.int .i64 aS, .slice a4 aQ.length a5] 53 (0, 0))) := ⟨(by rw [hw]; exact (kf aD.out av.out))⟩; have cc : Aside0 (cg.heap[ah]? = some (.cells #[.int .i64 a1, .slice a6 aR.length a7] 53 (0, 0))) := ⟨(by rw [hw]; exact (kf aE.out aw.out))⟩; have cy : Aside0 (Below w.heap.size w cg) := ⟨(by rw [hw]; exact (bu6 HB.out ai.out ak.out al.out au.out aF.out aG.out))⟩; clear hw aC aP bS ac aa ab ad av aw HB; have aC := b4; have aP := b5; have bS := b6; have ac := b7; have aa := b8; have ab := b9; have ad := ca; have av := cb; have aw := cc; have HB := cy; clear b4 b5 b6 b7 b8 b9 ca cb cc cy))
  refine bodyPost_ret (results_cell_row rfl _ _ aj 53 #[.int .i64 b1, .slice ch bW.length ci] (0, 0) _ rfl (ku ad.out) Try.underlying53 rfl (by kernel_rfl)) rfl ?_
  exact ⟨_, by first | rfl | (simp [errW_none, errW_some] <;> rfl) | (simp [*, errW_none, errW_some] <;> rfl), by exact vz bS.out, by repeat (first | (with_reducible first | exact HB.out | apply below_alloc | apply pw_below_drewN | apply below_drew1 | refine below_set ?_ ai.out | refine below_set ?_ ak.out | refine below_set ?_ al.out | refine below_set ?_ au.out | refine below_set ?_ aF.out | refine below_set ?_ aG.out) | exact HB.out)⟩
 ·
  rw [if_neg c7] at H
  have c2 : (bi == 4611686018427387904) = false := beq_eq_false_iff_ne.mpr c7
  have c3 : (bi != 4611686018427387904) = true := bne_iff_ne.mpr c7
  obtain ⟨bR, bT⟩ : ∃ y_ : List (List Int), y_ = (([aQ, aR] : List (List Int))) := ⟨_, rfl⟩
  replace H : ((nat_Mul.f k bR).bind fun bz => (some (bi, bz))) = some (r1, r2) := by first | (rw [bT]; with_reducible exact H) | (have H2_ := (Option.bind_some _ _).symm.trans H; rw [bT]; with_reducible exact H2_) | (have H2_ := (Option.bind_some _ _).symm.trans H; with_reducible exact H2_) | with_reducible exact H | (rw [bT]; exact H) | exact H
  have cm := am bT
  clear bT
  obtain ⟨bz, d7, H⟩ := bs H
  replace H : (some (bi, bz)) = some (r1, r2) := H
  simp only [Option.some.injEq, Prod.mk.injEq] at H
  obtain ⟨rfl, rfl⟩ := H
  have b4 : Aside0 (Kd.V (Kd.int .u32) 48 ((((bA.setCell ⟨ag, 0, none⟩ (.int .i64 aS)).setCell ⟨ag, 1, none⟩ (.slice a4 aQ.length a5)).setCell ⟨ah, 0, none⟩ (.int .i64 a1)).setCell ⟨ah, 1, none⟩ (.slice a6 aR.length a7)) w.heap.size (fun k_ => (w.heap.size ≤ k_) ∧ k_ ≠ ax ∧ k_ ≠ ae ∧ k_ ≠ af ∧ k_ ≠ aj ∧ k_ ≠ ag ∧ k_ ≠ ah) (.slice a4 aQ.length a5) aQ) := ⟨by exact vg aC.out⟩
  have b5 : Aside0 (Kd.V (Kd.int .u32) 48 ((((bA.setCell ⟨ag, 0, none⟩ (.int .i64 aS)).setCell ⟨ag, 1, none⟩ (.slice a4 aQ.length a5)).setCell ⟨ah, 0, none⟩ (.int .i64 a1)).setCell ⟨ah, 1, none⟩ (.slice a6 aR.length a7)) w.heap.size (fun k_ => (w.heap.size ≤ k_) ∧ k_ ≠ ax ∧ k_ ≠ ae ∧ k_ ≠ af ∧ k_ ≠ aj ∧ k_ ≠ ag ∧ k_ ≠ ah) (.slice a6 aR.length a7) aR) := ⟨by exact vg aP.out⟩
  have b6 : Aside0 (((((bA.setCell ⟨ag, 0, none⟩ (.int .i64 aS)).setCell ⟨ag, 1, none⟩ (.slice a4 aQ.length a5)).setCell ⟨ah, 0, none⟩ (.int .i64 a1)).setCell ⟨ah, 1, none⟩ (.slice a6 aR.length a7)).heap[ax]? = some (.cells #[] 54 (0, 0))) := ⟨by (with_reducible repeat (first | refine blk_drewN ?_ _ | refine blk_drew ?_ | refine blk_alloc ?_ _)); refine blk_far ?_ aA.out _; (with_reducible repeat (first | refine blk_drewN ?_ _ | refine blk_drew ?_ | refine blk_alloc ?_ _)); refine blk_far ?_ aA.out _; (with_reducible repeat (first | refine blk_drewN ?_ _ | refine blk_drew ?_ | refine blk_alloc ?_ _)); refine blk_far ?_ ay.out _; (with_reducible repeat (first | refine blk_drewN ?_ _ | refine blk_drew ?_ | refine blk_alloc ?_ _)); refine blk_far ?_ ay.out _; (with_reducible repeat (first | refine blk_drewN ?_ _ | refine blk_drew ?_ | refine blk_alloc ?_ _)); exact ac.out⟩
  have b7 : Aside0 (((((bA.setCell ⟨ag, 0, none⟩ (.int .i64 aS)).setCell ⟨ag, 1, none⟩ (.slice a4 aQ.length a5)).setCell ⟨ah, 0, none⟩ (.int .i64 a1)).setCell ⟨ah, 1, none⟩ (.slice a6 aR.length a7)).heap[ae]? = some (.cells #[.int .i64 a1_0, .slice A1_1 l1_1.length c1_1] 53 (0, 0))) := ⟨by (with_reducible repeat (first | refine blk_drewN ?_ _ | refine blk_drew ?_ | refine blk_alloc ?_ _)); refine blk_far ?_ ap.out _; (with_reducible repeat (first | refine blk_drewN ?_ _ | refine blk_drew ?_ | refine blk_alloc ?_ _)); refine blk_far ?_ ap.out _; (with_reducible repeat (first | refine blk_drewN ?_ _ | refine blk_drew ?_ | refine blk_alloc ?_ _)); refine blk_far ?_ an.out _; (with_reducible repeat (first | refine blk_drewN ?_ _ | refine blk_drew ?_ | refine blk_alloc ?_ _)); refine blk_far ?_ an.out _; (with_reducible repeat (first | refine blk_drewN ?_ _ | refine blk_drew ?_ | refine blk_alloc ?_ _)); exact aa.out⟩
  have b8 : Aside0 (((((bA.setCell ⟨ag, 0, none⟩ (.int .i64 aS)).setCell ⟨ag, 1, none⟩ (.slice a4 aQ.length a5)).setCell ⟨ah, 0, none⟩ (.int .i64 a1)).setCell ⟨ah, 1, none⟩ (.slice a6 aR.length a7)).heap[af]? = some (.cells #[.int .i64 a2_0, .slice A2_1 l2_1.length c2_1] 53 (0, 0))) := ⟨by (with_reducible repeat (first | refine blk_drewN ?_ _ | refine blk_drew ?_ | refine blk_alloc ?_ _)); refine blk_far ?_ aq.out _; (with_reducible repeat (first | refine blk_drewN ?_ _ | refine blk_drew ?_ | refine blk_alloc ?_ _)); refine blk_far ?_ aq.out _; (with_reducible repeat (first | refine blk_drewN ?_ _ | refine blk_drew ?_ | refine blk_alloc ?_ _)); refine blk_far ?_ ao.out _; (with_reducible repeat (first | refine blk_drewN ?_ _ | refine blk_drew ?_ | refine blk_alloc ?_ _)); refine blk_far ?_ ao.out _; (with_reducible repeat (first | refine blk_drewN ?_ _ | refine blk_drew ?_ | refine blk_alloc ?_ _)); exact ab.out⟩
  have b9 : Aside0 (((((bA.setCell ⟨ag, 0, none⟩ (.int .i64 aS)).setCell ⟨ag, 1, none⟩ (.slice a4 aQ.length a5)).setCell ⟨ah, 0, none⟩ (.int .i64 a1)).setCell ⟨ah, 1, none⟩ (.slice a6 aR.length a7)).heap[aj]? = some (.cells #[.int .i64 0, .slice none 0 0] 53 (0, 0))) := ⟨by (with_reducible repeat (first | refine blk_drewN ?_ _ | refine blk_drew ?_ | refine blk_alloc ?_ _)); refine blk_far ?_ aB.out _; (with_reducible repeat (first | refine blk_drewN ?_ _ | refine blk_drew ?_ | refine blk_alloc ?_ _)); refine blk_far ?_ aB.out _; (with_reducible repeat (first | refine blk_drewN ?_ _ | refine blk_drew ?_ | refine blk_alloc ?_ _)); refine blk_far ?_ az.out _; (with_reducible repeat (first | refine blk_drewN ?_ _ | refine blk_drew ?_ | refine blk_alloc ?_ _)); refine blk_far ?_ az.out _; (with_reducible repeat (first | refine blk_drewN ?_ _ | refine blk_drew ?_ | refine blk_alloc ?_ _)); exact ad.out⟩
  have ca : Aside0 (((((bA.setCell ⟨ag, 0, none⟩ (.int .i64 aS)).setCell ⟨ag, 1, none⟩ (.slice a4 aQ.length a5)).setCell ⟨ah, 0, none⟩ (.int .i64 a1)).setCell ⟨ah, 1, none⟩ (.slice a6 aR.length a7)).heap[ag]? = some (.cells #[.int .i64 aS, .slice a4 aQ.length a5] 53 (0, 0))) := ⟨by (with_reducible repeat (first | refine blk_drewN ?_ _ | refine blk_drew ?_ | refine blk_alloc ?_ _)); refine blk_far ?_ aO.out _; (with_reducible repeat (first | refine blk_drewN ?_ _ | refine blk_drew ?_ | refine blk_alloc ?_ _)); refine blk_far ?_ aO.out _; (with_reducible repeat (first | refine blk_drewN ?_ _ | refine blk_drew ?_ | refine blk_alloc ?_ _)); refine blk_put (cs := #[.int .i64 aS, .slice none 0 0]) ?_ 1 _ rfl; (with_reducible repeat (first | refine blk_drewN ?_ _ | refine blk_drew ?_ | refine blk_alloc ?_ _)); refine blk_put (cs := #[.int .i64 0, .slice none 0 0]) ?_ 0 _ rfl; (with_reducible repeat (first | refine blk_drewN ?_ _ | refine blk_drew ?_ | refine blk_alloc ?_ _)); exact av.out⟩
  have cb : Aside0 (((((bA.setCell ⟨ag, 0, none⟩ (.int .i64 aS)).setCell ⟨ag, 1, none⟩ (.slice a4 aQ.length a5)).setCell ⟨ah, 0, none⟩ (.int .i64 a1)).setCell ⟨ah, 1, none⟩ (.slice a6 aR.length a7)).heap[ah]? = some (.cells #[.int .i64 a1, .slice a6 aR.length a7] 53 (0, 0))) := ⟨by (with_reducible repeat (first | refine blk_drewN ?_ _ | refine blk_drew ?_ | refine blk_alloc ?_ _)); refine blk_put (cs := #[.int .i64 a1, .slice none 0 0]) ?_ 1 _ rfl; (with_reducible repeat (first | refine blk_drewN ?_ _ | refine blk_drew ?_ | refine blk_alloc ?_ _)); refine blk_put (cs := #[.int .i64 0, .slice none 0 0]) ?_ 0 _ rfl; (with_reducible repeat (first | refine blk_drewN ?_ _ | refine blk_drew ?_ | refine blk_alloc ?_ _)); refine blk_far ?_ aN.out _; (with_reducible repeat (first | refine blk_drewN ?_ _ | refine blk_drew ?_ | refine blk_alloc ?_ _)); refine blk_far ?_ aN.out _; (with_reducible repeat (first | refine blk_drewN ?_ _ | refine blk_drew ?_ | refine blk_alloc ?_ _)); exact aw.out⟩
  have cc : Aside0 (Below w.heap.size w ((((bA.setCell ⟨ag, 0, none⟩ (.int .i64 aS)).setCell ⟨ag, 1, none⟩ (.slice a4 aQ.length a5)).setCell ⟨ah, 0, none⟩ (.int .i64 a1)).setCell ⟨ah, 1, none⟩ (.slice a6 aR.length a7))) := ⟨by repeat (first | (with_reducible first | exact HB.out | apply below_alloc | apply pw_below_drewN | apply below_drew1 | refine below_set ?_ ai.out | refine below_set ?_ ak.out | refine below_set ?_ al.out | refine below_set ?_ au.out | refine below_set ?_ aF.out | refine below_set ?_ aG.out) | exact HB.out)⟩
  (try clear aC)
  (try clear aP)
  (try clear ac)
  (try clear aa)
  (try clear ab)
  (try clear ad)
  (try clear av)
  (try clear aw)
  (try clear HB)
  generalize ((((bA.setCell ⟨ag, 0, none⟩ (.int .i64 aS)).setCell ⟨ag, 1, none⟩ (.slice a4 aQ.length a5)).setCell ⟨ah, 0, none⟩ (.int .i64 a1)).setCell ⟨ah, 1, none⟩ (.slice a6 aR.length a7)) = bN at b4 b5 b6 b7 b8 b9 ca cb cc ⊢
  have aC := b4
  have aP := b5
  have ac := b6
  have aa := b7
  have ab := b8
  have ad := b9
  have av := ca
  have aw := cb
  have HB := cc
  clear b4 b5 b6 b7 b8 b9 ca cb cc
  have dF := aH.out
  have dG := ay.out
  have dH := aI.out
  have dI := an.out
  have dJ := aJ.out
  have dK := ao.out
  have dL := aD.out
  have dM := az.out
  have dN := aO.out
  have dO := aN.out
  have cQ : bN.cell? ⟨ag, 0, none⟩ = some (.int .i64 aS) := bc av 0
  have cR : bN.cell? ⟨ag, 1, none⟩ = some (.slice a4 aQ.length a5) := bc av 1
  have cS := blk_frozen av.out 0
  have cT := blk_frozen av.out 1
  have dP := aK.out
  have dQ := aA.out
  have dR := aL.out
  have dS := ap.out
  have dT := aM.out
  have dU := aq.out
  have dV := aE.out
  have dW := aB.out
  have cU : bN.cell? ⟨ah, 0, none⟩ = some (.int .i64 a1) := bc aw 0
  have cV : bN.cell? ⟨ah, 1, none⟩ = some (.slice a6 aR.length a7) := bc aw 1
  have cW := blk_frozen aw.out 0
  have cX := blk_frozen aw.out 1
  try go_wp2_with (first | ((with_reducible refine gate_callee (f := 139) rfl ?_); refine goesL_ (some 18) rfl rfl Try.func139 (by kernel_rfl) rfl #[.int .i64 aS, .int .i64 a1] rfl lu ?_; (with_reducible refine (semiring_capped.calls aS a1 bi _ A6.out).mono ?_); rintro e w' ⟨rfl, ⟨nd, rfl⟩⟩; refine ⟨_, rfl, ?_⟩; (try (rw [drewN_self bN]; generalize hq_ : World.drewN bN _ = bN; have b4 : Aside0 (Kd.V (Kd.int .u32) 48 bN w.heap.size (fun k_ => (w.heap.size ≤ k_) ∧ k_ ≠ ax ∧ k_ ≠ ae ∧ k_ ≠ af ∧ k_ ≠ aj ∧ k_ ≠ ag ∧ k_ ≠ ah) (.slice a4 aQ.length a5) aQ) := ⟨by rw [← hq_]; exact (vu aC.out)⟩; have b5 : Aside0 (Kd.V (Kd.int .u32) 48 bN w.heap.size (fun k_ => (w.heap.size ≤ k_) ∧ k_ ≠ ax ∧ k_ ≠ ae ∧ k_ ≠ af ∧ k_ ≠ aj ∧ k_ ≠ ag ∧ k_ ≠ ah) (.slice a6 aR.length a7) aR) := ⟨by rw [← hq_]; exact (vu aP.out)⟩; have b6 : Aside0 (bN.heap[ax]? = some (.cells #[] 54 (0, 0))) := ⟨by rw [← hq_]; exact (ku ac.out)⟩; have b7 : Aside0 (bN.heap[ae]? = some (.cells #[.int .i64 a1_0, .slice A1_1 l1_1.length c1_1] 53 (0, 0))) := ⟨by rw [← hq_]; exact (ku aa.out)⟩; have b8 : Aside0 (bN.heap[af]? = some (.cells #[.int .i64 a2_0, .slice A2_1 l2_1.length c2_1] 53 (0, 0))) := ⟨by rw [← hq_]; exact (ku ab.out)⟩; have b9 : Aside0 (bN.heap[aj]? = some (.cells #[.int .i64 0, .slice none 0 0] 53 (0, 0))) := ⟨by rw [← hq_]; exact (ku ad.out)⟩; have ca : Aside0 (bN.heap[ag]? = some (.cells #[.int .i64 aS, .slice a4 aQ.length a5] 53 (0, 0))) := ⟨by rw [← hq_]; exact (ku av.out)⟩; have cb : Aside0 (bN.heap[ah]? = some (.cells #[.int .i64 a1, .slice a6 aR.length a7] 53 (0, 0))) := ⟨by rw [← hq_]; exact (ku aw.out)⟩; have cc : Aside0 (Below w.heap.size w bN) := ⟨by rw [← hq_]; exact (bu6 HB.out ai.out ak.out al.out au.out aF.out aG.out)⟩; clear aC aP ac aa ab ad av aw HB hq_; have aC := b4; have aP := b5; have ac := b6; have aa := b7; have ab := b8; have ad := b9; have av := ca; have aw := cb; have HB := cc; clear b4 b5 b6 b7 b8 b9 ca cb cc)); have cz : bN.cell? ⟨ag, 0, none⟩ = some (.int .i64 aS) := bc av 0; have cA : bN.cell? ⟨ag, 1, none⟩ = some (.slice a4 aQ.length a5) := bc av 1; have cB : bN.cell? ⟨ah, 0, none⟩ = some (.int .i64 a1) := bc aw 0; have cC : bN.cell? ⟨ah, 1, none⟩ = some (.slice a6 aR.length a7) := bc aw 1) | ((with_reducible refine gate_dst (N := 27) rfl ?_); refine Kd.N_lit (Kd.slice 48 (Kd.int .u32)) _ 42 ?hg (N' := 27) ?hd (xs := ([aQ, aR] : List (List Int))) (inner := [.slice a4 aQ.length a5, .slice a6 aR.length a7]) (ok := (fun k_ => (w.heap.size ≤ k_) ∧ k_ ≠ ax ∧ k_ ≠ ae ∧ k_ ≠ af ∧ k_ ≠ aj ∧ k_ ≠ ag ∧ k_ ≠ ah)) (okp := (fun k_ => (w.heap.size ≤ k_) ∧ k_ ≠ ax ∧ k_ ≠ ae ∧ k_ ≠ af ∧ k_ ≠ aj ∧ k_ ≠ ag ∧ k_ ≠ ah)) ?hr ?hp (fun _ hk => hk) ((show ∀ k_, bN.heap.size ≤ k_ → (fun k_ => (w.heap.size ≤ k_) ∧ k_ ≠ ax ∧ k_ ≠ ae ∧ k_ ≠ af ∧ k_ ≠ aj ∧ k_ ≠ ag ∧ k_ ≠ ah) k_ from fun k_ hk => ⟨(Nat.le_trans (below_size (bu6 HB.out ai.out ak.out al.out au.out aF.out aG.out)) hk), Kd.freshB (g := ax) (o := .cells #[] 54 (0, 0)) (ku ac.out) k_ hk, Kd.freshB (g := ae) (o := .cells #[.int .i64 a1_0, .slice A1_1 l1_1.length c1_1] 53 (0, 0)) (ku aa.out) k_ hk, Kd.freshB (g := af) (o := .cells #[.int .i64 a2_0, .slice A2_1 l2_1.length c2_1] 53 (0, 0)) (ku ab.out) k_ hk, Kd.freshB (g := aj) (o := .cells #[.int .i64 0, .slice none 0 0] 53 (0, 0)) (ku ad.out) k_ hk, Kd.freshB (g := ag) (o := .cells #[.int .i64 aS, .slice a4 aQ.length a5] 53 (0, 0)) (ku av.out) k_ hk, Kd.freshB (g := ah) (o := .cells #[.int .i64 a1, .slice a6 aR.length a7] 53 (0, 0)) (ku aw.out) k_ hk⟩) _ (Nat.le_refl _)) (Below.refl _ _) (Nat.le_refl _) (by simp) ?_; (case hd => rfl); (case hg => rfl); (case hr => first | (go_simp; done) | (go_simp; rfl)); (case hp => exact (Reps.one (show Kd.FK (Kd.slice 48 (Kd.int .u32)) _ _ aQ [.slice a4 aQ.length a5] from (Kd.FK_slice_mk (Kd.V_reads' (vy ((fun k_ => (w.heap.size ≤ k_) ∧ k_ ≠ ax ∧ k_ ≠ ae ∧ k_ ≠ af ∧ k_ ≠ aj ∧ k_ ≠ ag ∧ k_ ≠ ah)) aC.out)).2.1 (Kd.V_F (vy ((fun k_ => (w.heap.size ≤ k_) ∧ k_ ≠ ax ∧ k_ ≠ ae ∧ k_ ≠ af ∧ k_ ≠ aj ∧ k_ ≠ ag ∧ k_ ≠ ah)) aC.out)))) (Reps.one (show Kd.FK (Kd.slice 48 (Kd.int .u32)) _ _ aR [.slice a6 aR.length a7] from (Kd.FK_slice_mk (Kd.V_reads' (vy ((fun k_ => (w.heap.size ≤ k_) ∧ k_ ≠ ax ∧ k_ ≠ ae ∧ k_ ≠ af ∧ k_ ≠ aj ∧ k_ ≠ ag ∧ k_ ≠ ah)) aP.out)).2.1 (Kd.V_F (vy ((fun k_ => (w.heap.size ≤ k_) ∧ k_ ≠ ax ∧ k_ ≠ ae ∧ k_ ≠ af ∧ k_ ≠ aj ∧ k_ ≠ ag ∧ k_ ≠ ah)) aP.out)))) (Reps.none _ _)))); intro d8 ed bX hb hg_ hnew_; clear hg_ hnew_; (first | rw [← cm.out] at bX | (simp only [Int.reduceToNat] at bX; rw [← cm.out] at bX)); replace aC := el aC bX hb; replace aP := el aP bX hb; have br := am (Kd.N_lower bX (below_size (bu6 HB.out ai.out ak.out al.out au.out aF.out aG.out))); replace ac := kb ac hb; replace aa := kb aa hb; replace ab := kb ab hb; replace ad := kb ad hb; replace av := kb av hb; replace aw := kb aw hb; replace HB := be6 HB ai ak al au aF aG hb; clear hb bX; obtain ⟨b2, b3, c6⟩ := Kd.N_slice br.out; subst c6) | ((with_reducible refine gate_callee (f := 145) rfl ?_); refine goesL_ (some 28) rfl rfl Try.func145 (by kernel_rfl) rfl #[.slice b2 bR.length b3] rfl lu ?_; (with_reducible refine (nat_Mul.calls k _ _ bR bz _ ?side1 ?side2 d7.out).mono ?_); (case side1 => exact cu (Kd.N_reads' br.out).2.2); (case side2 => exact (Kd.N_reads' br.out).2.1); rintro e c8 ⟨d9, rfl, bp, hb⟩; refine ⟨_, rfl, ?_⟩; replace bp := R_V_base rfl bp; replace aC := kv aC hb; replace aP := kv aP hb; have bU := ar0 w.heap.size (ok' := fun k_ => (w.heap.size ≤ k_) ∧ some k_ ≠ (.slice b2 bR.length b3 : Value).ownBlock ∧ k_ ≠ ax ∧ k_ ≠ ae ∧ k_ ≠ af ∧ k_ ≠ aj ∧ k_ ≠ ag ∧ k_ ≠ ah) bp (fa (fz6 HB ai ak al au aF aG) (fa (fo br) (fa (fb ac) (fa (fb aa) (fa (fb ab) (fa (fb ad) (fa (fb av) (fb aw)))))))); replace br := kn br hb; replace ac := kb ac hb; replace aa := kb aa hb; replace ab := kb ab hb; replace ad := kb ad hb; replace av := kb av hb; replace aw := kb aw hb; replace HB := be6 HB ai ak al au aF aG hb; (try clear hb); (try clear hk); (try clear bp); obtain ⟨cd, ce, c9⟩ := Kd.V_slice bU.out; subst c9; have dX := bO.out; have dY := bm.out; have dZ := bP.out; have d0 := bn.out; have d1 := bQ.out; have d2 := bo.out; have cY : c8.cell? ⟨aj, 0, none⟩ = some (.int .i64 0) := bc ad 0; have cZ : c8.cell? ⟨aj, 1, none⟩ = some (.slice none 0 0) := bc ad 1; have c0 := blk_frozen ad.out 0; have c1 := blk_frozen ad.out 1) | ((with_reducible refine gate_store (t := 53) (p := 6) rfl ?_); refine store_event (t := 53) (p := 6) (v := ?vo_w81) (w1 := ((c8.setCell ⟨aj, 0, none⟩ (.int .i64 bi)).setCell ⟨aj, 1, none⟩ (.slice cd bz.length ce))) ?hg ?ho ?hn ?hr ?_; (case ho => rfl); (case hg => rfl); (case hn => rfl); (case hr => first | (go_simp; done) | (go_simp; rfl)); intro cf hw; have b4 : Aside0 (Kd.V (Kd.int .u32) 48 cf w.heap.size (fun k_ => (w.heap.size ≤ k_) ∧ some k_ ≠ (.slice b2 bR.length b3 : Value).ownBlock ∧ k_ ≠ ax ∧ k_ ≠ ae ∧ k_ ≠ af ∧ k_ ≠ aj ∧ k_ ≠ ag ∧ k_ ≠ ah) (.slice a4 aQ.length a5) aQ) := ⟨(by rw [hw]; exact vf aC.out)⟩; have b5 : Aside0 (Kd.V (Kd.int .u32) 48 cf w.heap.size (fun k_ => (w.heap.size ≤ k_) ∧ some k_ ≠ (.slice b2 bR.length b3 : Value).ownBlock ∧ k_ ≠ ax ∧ k_ ≠ ae ∧ k_ ≠ af ∧ k_ ≠ aj ∧ k_ ≠ ag ∧ k_ ≠ ah) (.slice a6 aR.length a7) aR) := ⟨(by rw [hw]; exact vf aP.out)⟩; have b6 : Aside0 (Kd.N (Kd.slice 48 (Kd.int .u32)) 42 cf w.heap.size (fun k_ => (w.heap.size ≤ k_) ∧ k_ ≠ ax ∧ k_ ≠ ae ∧ k_ ≠ af ∧ k_ ≠ aj ∧ k_ ≠ ag ∧ k_ ≠ ah) (.slice b2 bR.length b3) bR) := ⟨(by rw [hw]; exact (by (with_reducible repeat (first | apply Kd.N_alloc | apply Kd.N_drewN | apply Kd.N_drew)); exact Kd.N_mono (Kd.N_far (p := ⟨aj, 1, none⟩) (Kd.N_far (p := ⟨aj, 0, none⟩) (Kd.N_mono br.out (fun k_ hk => (⟨hk, hk.2.2.2.2.1⟩ : _ ∧ k_ ≠ aj))) (fun _ hk => hk.2) (.int .i64 bi)) (fun _ hk => hk.2) (.slice cd bz.length ce)) (fun _ hk => ⟨hk.1.1, ⟨hk.1.2.1, ⟨hk.1.2.2.1, ⟨hk.1.2.2.2.1, ⟨hk.1.2.2.2.2.1, ⟨hk.1.2.2.2.2.2.1, hk.1.2.2.2.2.2.2⟩⟩⟩⟩⟩⟩)))⟩; have b7 : Aside0 (Kd.V (Kd.int .u32) 48 cf w.heap.size (fun k_ => (w.heap.size ≤ k_) ∧ some k_ ≠ (.slice b2 bR.length b3 : Value).ownBlock ∧ k_ ≠ ax ∧ k_ ≠ ae ∧ k_ ≠ af ∧ k_ ≠ aj ∧ k_ ≠ ag ∧ k_ ≠ ah) (.slice cd bz.length ce) bz) := ⟨(by rw [hw]; exact vf bU.out)⟩; have b8 : Aside0 (cf.heap[ax]? = some (.cells #[] 54 (0, 0))) := ⟨(by rw [hw]; exact (kf bm.out ac.out))⟩; have b9 : Aside0 (cf.heap[ae]? = some (.cells #[.int .i64 a1_0, .slice A1_1 l1_1.length c1_1] 53 (0, 0))) := ⟨(by rw [hw]; exact (kf bn.out aa.out))⟩; have ca : Aside0 (cf.heap[af]? = some (.cells #[.int .i64 a2_0, .slice A2_1 l2_1.length c2_1] 53 (0, 0))) := ⟨(by rw [hw]; exact (kf bo.out ab.out))⟩; have cb : Aside0 (cf.heap[aj]? = some (.cells #[.int .i64 bi, .slice cd bz.length ce] 53 (0, 0))) := ⟨(by rw [hw]; exact (by (with_reducible repeat (first | refine blk_drewN ?_ _ | refine blk_drew ?_ | refine blk_alloc ?_ _)); refine blk_put (cs := #[.int .i64 bi, .slice none 0 0]) ?_ 1 _ rfl; (with_reducible repeat (first | refine blk_drewN ?_ _ | refine blk_drew ?_ | refine blk_alloc ?_ _)); refine blk_put (cs := #[.int .i64 0, .slice none 0 0]) ?_ 0 _ rfl; (with_reducible repeat (first | refine blk_drewN ?_ _ | refine blk_drew ?_ | refine blk_alloc ?_ _)); exact ad.out))⟩; have cc : Aside0 (cf.heap[ag]? = some (.cells #[.int .i64 aS, .slice a4 aQ.length a5] 53 (0, 0))) := ⟨(by rw [hw]; exact (kf aD.out av.out))⟩; have cy : Aside0 (cf.heap[ah]? = some (.cells #[.int .i64 a1, .slice a6 aR.length a7] 53 (0, 0))) := ⟨(by rw [hw]; exact (kf aE.out aw.out))⟩; have cD : Aside0 (Below w.heap.size w cf) := ⟨(by rw [hw]; exact (bu6 HB.out ai.out ak.out al.out au.out aF.out aG.out))⟩; clear hw aC aP br bU ac aa ab ad av aw HB; have aC := b4; have aP := b5; have br := b6; have bU := b7; have ac := b8; have aa := b9; have ab := ca; have ad := cb; have av := cc; have aw := cy; have HB := cD; clear b4 b5 b6 b7 b8 b9 ca cb cc cy cD))
  refine bodyPost_ret (results_cell_row rfl _ _ aj 53 #[.int .i64 bi, .slice cd bz.length ce] (0, 0) _ rfl (ku ad.out) Try.underlying53 rfl (by kernel_rfl)) rfl ?_
  exact ⟨_, by first | rfl | (simp [errW_none, errW_some] <;> rfl) | (simp [*, errW_none, errW_some] <;> rfl), by exact vz bU.out, by repeat (first | (with_reducible first | exact HB.out | apply below_alloc | apply pw_below_drewN | apply below_drew1 | refine below_set ?_ ai.out | refine below_set ?_ ak.out | refine below_set ?_ al.out | refine below_set ?_ au.out | refine below_set ?_ aF.out | refine below_set ?_ aG.out) | exact HB.out)⟩
def codewrightref46_Min.f (a0 : Int) : Option (Int) := some (mx 0 (mn a0 4611686018427387904))
theorem codewrightref46_Min.calls (a0 : Int) (r : Int) (w : World) (h : codewrightref46_Min.f a0 = some r) :
 Calls Try.prog 36 #[.int .i64 a0] w fun e w' => e = .returned (.int .i64 r) ∧ Below w.heap.size w w' := by
 have HB := am (Below.refl w.heap.size w)
 have H : (some (mx 0 (mn a0 4611686018427387904))) = some r := h
 clear h
 obtain ⟨ji2, hji2⟩ : ∃ j_ : Int, (mn a0 4611686018427387904) = j_ := ⟨_, rfl⟩
 replace H : (some (mx 0 (ji2))) = some r := by first | (rw [hji2] at H; exact H) | (simp only [hji2] at H ⊢; exact H)
 (try (have hji2h : ji2 ≤ 4611686018427387904 := by (rw [← hji2]; unfold mn; (repeat' split) <;> omega)))
 (try (have hji2g : ji2 ≤ 64 := by omega))
 have hji2_ : (if 4611686018427387904 < a0 then 4611686018427387904 else a0) = ji2 := hji2
 obtain ⟨ji3, hji3⟩ : ∃ j_ : Int, (mx 0 (ji2)) = j_ := ⟨_, rfl⟩
 replace H : (some ji3) = some r := by first | (rw [hji3] at H; exact H) | (simp only [hji3] at H ⊢; exact H)
 have hji3_ : (if 0 < (ji2) then (ji2) else 0) = ji3 := hji3
 obtain rfl := Option.some.inj H
 go_enter Try.func36, Try.ntmps36
 go_wp2
 go_ret
 exact ⟨by first | rfl | (simp [errW_none, errW_some] <;> rfl) | (simp only [← hji2, ← hji3]; first | rfl | (simp [errW_none, errW_some] <;> rfl)) | (simp [*, errW_none, errW_some] <;> rfl), by repeat (first | (with_reducible first | exact HB.out | apply below_alloc | apply pw_below_drewN | apply below_drew1) | exact HB.out)⟩
def codewrightref46_MinMul.f (a0 : Int) (a1 : Int) : Option (Int) := (codewrightref46_Min.f a0).bind fun t136 => ((codewrightref46_Min.f a1).bind fun t137 => (if t136 > (wrap64 (4611686018427387904 - t137)) then (some 4611686018427387904) else (some (wrap64 (t136 + t137)))))
theorem codewrightref46_MinMul.calls (a0 : Int) (a1 : Int) (r : Int) (w : World) (h : codewrightref46_MinMul.f a0 a1 = some r) :
 Calls Try.prog 38 #[.int .i64 a0, .int .i64 a1] w fun e w' => e = .returned (.int .i64 r) ∧ Below w.heap.size w w' := by
 have HB := am (Below.refl w.heap.size w)
 have H : ((codewrightref46_Min.f a0).bind fun aa => ((codewrightref46_Min.f a1).bind fun ab => (if aa > (wrap64 (4611686018427387904 - ab)) then (some 4611686018427387904) else (some (wrap64 (aa + ab)))))) = some r := h
 clear h
 obtain ⟨aa, A3, H⟩ := bs H
 (try dsimp -simprocs only at H)
 obtain ⟨ab, A4, H⟩ := bs H
 (try dsimp -simprocs only at H)
 by_cases c5 : aa > (wrap64 (4611686018427387904 - ab))
 ·
  rw [if_pos c5] at H
  have ac : decide ((wrap64 (4611686018427387904 - ab)) < aa) = true := decide_eq_true c5
  clear c5
  obtain rfl := Option.some.inj H
  go_enter Try.func38, Try.ntmps38
  go_wp2_with (first | ((with_reducible refine gate_callee (f := 36) rfl ?_); refine goesL_ (some 6) rfl rfl Try.func36 (by kernel_rfl) rfl #[.int .i64 a0] rfl lu ?_; (with_reducible refine (codewrightref46_Min.calls a0 aa _ A3.out).mono ?_); rintro e w6 ⟨rfl, hb⟩; refine ⟨_, rfl, ?_⟩; replace HB := be HB hb; (try clear hb)) | ((with_reducible refine gate_callee (f := 36) rfl ?_); refine goesL_ (some 8) rfl rfl Try.func36 (by kernel_rfl) rfl #[.int .i64 a1] rfl lu ?_; (with_reducible refine (codewrightref46_Min.calls a1 ab _ A4.out).mono ?_); rintro e w7 ⟨rfl, hb⟩; refine ⟨_, rfl, ?_⟩; replace HB := be HB hb; (try clear hb)))
  go_ret
  exact ⟨by first | rfl | (simp [errW_none, errW_some] <;> rfl) | (simp [*, errW_none, errW_some] <;> rfl), by repeat (first | (with_reducible first | exact HB.out | apply below_alloc | apply pw_below_drewN | apply below_drew1) | exact HB.out)⟩
 ·
  rw [if_neg c5] at H
  have ac : decide ((wrap64 (4611686018427387904 - ab)) < aa) = false := decide_eq_false c5
  clear c5
  obtain rfl := Option.some.inj H
  go_enter Try.func38, Try.ntmps38
  go_wp2_with (first | ((with_reducible refine gate_callee (f := 36) rfl ?_); refine goesL_ (some 6) rfl rfl Try.func36 (by kernel_rfl) rfl #[.int .i64 a0] rfl lu ?_; (with_reducible refine (codewrightref46_Min.calls a0 aa _ A3.out).mono ?_); rintro e w8 ⟨rfl, hb⟩; refine ⟨_, rfl, ?_⟩; replace HB := be HB hb; (try clear hb)) | ((with_reducible refine gate_callee (f := 36) rfl ?_); refine goesL_ (some 8) rfl rfl Try.func36 (by kernel_rfl) rfl #[.int .i64 a1] rfl lu ?_; (with_reducible refine (codewrightref46_Min.calls a1 ab _ A4.out).mono ?_); rintro e w9 ⟨rfl, hb⟩; refine ⟨_, rfl, ?_⟩; replace HB := be HB hb; (try clear hb)))
  go_ret
  exact ⟨by first | rfl | (simp [errW_none, errW_some] <;> rfl) | (simp [*, errW_none, errW_some] <;> rfl), by repeat (first | (with_reducible first | exact HB.out | apply below_alloc | apply pw_below_drewN | apply below_drew1) | exact HB.out)⟩
mutual
def codewrightref01_Mul.l0 : Nat → List Int → List Int → List Int → Int → Option (List Int)
 | 0, _, _, _, _ => none
 | k + 1, x0, x1, x5, x6 => if x6 < (x0.length : Int) then (codewrightref01_Mul.l1 k x0 x1 x5 x6 0 0) else ((codewrightref01_Trim.f k x5).bind fun t369 => (some t369))
def codewrightref01_Mul.l1 : Nat → List Int → List Int → List Int → Int → Int → Int → Option (List Int)
 | 0, _, _, _, _, _, _ => none
 | k + 1, x0, x1, x5, x6, x7, x8 => if x8 < (x1.length : Int) then (if 0 ≤ x6 then (if x6 < (x0.length : Int) then (if 0 ≤ x8 then (if 0 ≤ (wrap64 (x6 + x8)) then (if (wrap64 (x6 + x8)) < (x5.length : Int) then (codewrightref01_Mul.l1 k x0 x1 (x5.set ((wrap64 (x6 + x8)) : Int).toNat ((Int.tmod (IntKind.u64.wrap ((IntKind.u64.wrap ((IntKind.u64.wrap ((IntKind.u64.wrap (rd x0 x6)) * (IntKind.u64.wrap (rd x1 x8)))) + (IntKind.u64.wrap (rd x5 (wrap64 (x6 + x8)))))) + x7)) 4294967296) % 4294967296)) x6 (IntKind.u64.wrap (Int.tdiv (IntKind.u64.wrap ((IntKind.u64.wrap ((IntKind.u64.wrap ((IntKind.u64.wrap (rd x0 x6)) * (IntKind.u64.wrap (rd x1 x8)))) + (IntKind.u64.wrap (rd x5 (wrap64 (x6 + x8)))))) + x7)) 4294967296)) (wrap64 (x8 + 1))) else (none)) else (none)) else (none)) else (none)) else (none)) else (if 0 ≤ (wrap64 (x6 + (x1.length : Int))) then (if (wrap64 (x6 + (x1.length : Int))) < (x5.length : Int) then (codewrightref01_Mul.l0 k x0 x1 (x5.set ((wrap64 (x6 + (x1.length : Int))) : Int).toNat ((x7) % 4294967296)) (wrap64 (x6 + 1))) else (none)) else (none))
end
def codewrightref01_Mul.f (k : Nat) (l0 : List Int) (l1 : List Int) : Option (List Int) := if 0 ≤ (wrap64 ((l0.length : Int) + (l1.length : Int))) then (if (wrap64 ((l0.length : Int) + (l1.length : Int)) : Int).toNat ≤ 70368744177664 then (codewrightref01_Mul.l0 k l0 l1 (List.replicate (wrap64 ((l0.length : Int) + (l1.length : Int)) : Int).toNat 0) 0) else (none)) else (none)
theorem codewrightref01_Mul.calls (k : Nat) (A0 : Option Addr) (c0 : Nat) (l0 : List Int) (A1 : Option Addr) (c1 : Nat) (l1 : List Int) (r : List Int) (w : World) (hr0 : Kd.C (Kd.int .u32) w A0 l0.length l0) (hc0 : l0.length ≤ c0) (hr1 : Kd.C (Kd.int .u32) w A1 l1.length l1) (hc1 : l1.length ≤ c1) (h : codewrightref01_Mul.f k l0 l1 = some r) :
 Calls Try.prog 57 #[.slice A0 l0.length c0, .slice A1 l1.length c1] w fun e w' => ∃ v0_ : Value, e = .returned (v0_) ∧ Kd.R (Kd.int .u32) 48 w' w.heap.size (fun _ => True) v0_ r ∧ Below w.heap.size w w' := by
 have bl := am hr0
 have br := am hc0
 clear hr0 hc0
 have bm := am hr1
 have bv := am hc1
 clear hr1 hc1
 have HB := am (Below.refl w.heap.size w)
 have H : (if 0 ≤ (wrap64 ((l0.length : Int) + (l1.length : Int))) then (if (wrap64 ((l0.length : Int) + (l1.length : Int)) : Int).toNat ≤ 70368744177664 then (codewrightref01_Mul.l0 k l0 l1 (List.replicate (wrap64 ((l0.length : Int) + (l1.length : Int)) : Int).toNat 0) 0) else (none)) else (none)) = some r := h
 clear h
 obtain ⟨ji3, hji3⟩ : ∃ j_ : Int, (wrap64 ((l0.length : Int) + (l1.length : Int))) = j_ := ⟨_, rfl⟩
 replace H : (if 0 ≤ (ji3) then (if (ji3 : Int).toNat ≤ 70368744177664 then (codewrightref01_Mul.l0 k l0 l1 (List.replicate (ji3 : Int).toNat 0) 0) else (none)) else (none)) = some r := by first | (rw [hji3] at H; exact H) | (simp only [hji3] at H ⊢; exact H)
 have hji3w : (IntKind.i64.wrap ((l0.length : Int) + (l1.length : Int))) = ji3 := (i64_w _).trans hji3
 by_cases c4 : 0 ≤ (ji3)
 ·
  rw [if_pos c4] at H
  have aL := eq_true c4
  have aM : decide (0 ≤ (ji3)) = true := decide_eq_true c4
  clear c4
  by_cases c5 : (ji3 : Int).toNat ≤ 70368744177664
  ·
   rw [if_pos c5] at H
   have aN := eq_true c5
   have aO : decide ((ji3 : Int).toNat ≤ 70368744177664) = true := decide_eq_true c5
   clear c5
   obtain ⟨aP, ak⟩ : ∃ y_ : List Int, y_ = (List.replicate (ji3 : Int).toNat 0) := ⟨_, rfl⟩
   replace H : (codewrightref01_Mul.l0 k l0 l1 aP 0) = some r := by first | (rw [ak]; with_reducible exact H) | (have H2_ := (Option.bind_some _ _).symm.trans H; rw [ak]; with_reducible exact H2_) | (have H2_ := (Option.bind_some _ _).symm.trans H; with_reducible exact H2_) | with_reducible exact H | (rw [ak]; exact H) | exact H
   have ah := am ak
   clear ak
   have H' := am H
   clear H
   go_enter Try.func57, Try.ntmps57
   go_wp2_with (first | ((with_reducible refine gate_dst (N := 15) rfl ?_); refine Kd.R_make (Kd.int .u32) _ 48 rfl (N := 15) rfl 42 _ _ rfl ji3 rfl rfl Try.underlying42 (.int .u32 0) 4 info48 rfl (by decide) (by omega) 0 (ok := fun _ => True) (okp := fun _ => True) rfl (fun _ hk => hk) trivial (of_decide_eq_true (by first | (with_reducible assumption) | assumption)) (Nat.le_trans (Nat.mul_le_mul_right _ (of_decide_eq_true (by first | (with_reducible assumption) | assumption) : ji3.toNat ≤ 70368744177664)) (by omega)) (Below.refl _ _) (Nat.le_refl _) ?_; intro aG w6 al hb hg_ hnew_; clear hg_ hnew_; (first | rw [← ah.out] at al | (simp only [Int.reduceToNat] at al; rw [← ah.out] at al)); have av := am (Kd.R_lower al (below_size (bu HB.out))); replace HB := be HB hb; clear hb al))
   repeat (go_quiet (first | ((with_reducible refine gate_dst (N := 15) rfl ?_); refine Kd.R_make (Kd.int .u32) _ 48 rfl (N := 15) rfl 42 _ _ rfl ji3 rfl rfl Try.underlying42 (.int .u32 0) 4 info48 rfl (by decide) (by omega) 0 (ok := fun _ => True) (okp := fun _ => True) rfl (fun _ hk => hk) trivial (of_decide_eq_true (by first | (with_reducible assumption) | assumption)) (Nat.le_trans (Nat.mul_le_mul_right _ (of_decide_eq_true (by first | (with_reducible assumption) | assumption) : ji3.toNat ≤ 70368744177664)) (by omega)) (Below.refl _ _) (Nat.le_refl _) ?_; intro aG w6 al hb hg_ hnew_; clear hg_ hnew_; (first | rw [← ah.out] at al | (simp only [Int.reduceToNat] at al; rw [← ah.out] at al)); have av := am (Kd.R_lower al (below_size (bu HB.out))); replace HB := be HB hb; clear hb al)); try go_wp2_with (first | ((with_reducible refine gate_dst (N := 15) rfl ?_); refine Kd.R_make (Kd.int .u32) _ 48 rfl (N := 15) rfl 42 _ _ rfl ji3 rfl rfl Try.underlying42 (.int .u32 0) 4 info48 rfl (by decide) (by omega) 0 (ok := fun _ => True) (okp := fun _ => True) rfl (fun _ hk => hk) trivial (of_decide_eq_true (by first | (with_reducible assumption) | assumption)) (Nat.le_trans (Nat.mul_le_mul_right _ (of_decide_eq_true (by first | (with_reducible assumption) | assumption) : ji3.toNat ≤ 70368744177664)) (by omega)) (Below.refl _ _) (Nat.le_refl _) ?_; intro aG w6 al hb hg_ hnew_; clear hg_ hnew_; (first | rw [← ah.out] at al | (simp only [Int.reduceToNat] at al; rw [← ah.out] at al)); have av := am (Kd.R_lower al (below_size (bu HB.out))); replace HB := be HB hb; clear hb al)))
   go_loopg [6] k (fun kq v6 w' => ∃ (au : List Int) (ab : Int), v6 = .int .i64 ab ∧ Aside0 (codewrightref01_Mul.l0 kq l0 l1 au ab = some r) ∧ Aside0 (kq ≤ k) ∧ Aside0 (Kd.R (Kd.int .u32) 48 w' w.heap.size (fun _ => True) aG au) ∧ Aside0 (Below w.heap.size w w'))
   case atStart => exact ⟨(aP), (0), (by first | rfl | (simp; done) | (simp [*]; done)), H', ⟨Nat.le_refl _⟩, ⟨by (with_reducible repeat (first | apply Kd.R_alloc | apply Kd.R_drewN | apply Kd.R_drew)); exact av.out⟩, ⟨by repeat (first | (with_reducible first | exact HB.out | apply below_alloc | apply pw_below_drewN | apply below_drew1) | exact HB.out)⟩⟩
   case round =>
    clear H'
    try clear c1
    try clear p2
    try clear c4
    try clear aL
    try clear aM
    try clear c5
    try clear aN
    try clear aO
    try clear p6
    obtain ⟨au, ab, rfl, HA, HK1, aa, HB⟩ := hrel
    cases gk with
    | zero => exact absurd HA.out (by simp [codewrightref01_Mul.l0])
    | succ k1 =>
     have H := HA.out
     clear HA
     simp only [codewrightref01_Mul.l0] at H
     by_cases c8 : ab < (l0.length : Int)
     ·
      rw [if_pos c8] at H
      have aQ : decide (ab < (l0.length : Int)) = true := decide_eq_true c8
      clear c8
      have H' := am H
      clear H
      go_wp2
      repeat (go_quiet (fail); try go_wp2)
      go_loopg [7, 8] k1 (fun kq v7 v8 w' => ∃ (ac : List Int) (ae : Int) (ad : Int), v7 = .int .u64 ae ∧ v8 = .int .i64 ad ∧ Aside0 (codewrightref01_Mul.l1 kq l0 l1 ac ab ae ad = some r) ∧ Aside0 (kq ≤ k1) ∧ Aside0 (Kd.R (Kd.int .u32) 48 w' w.heap.size (fun _ => True) aG ac) ∧ Aside0 (Below w.heap.size w w'))
      case atStart => exact ⟨(au), (0), (0), (by first | rfl | (simp; done) | (simp [*]; done)), (by first | rfl | (simp; done) | (simp [*]; done)), H', ⟨Nat.le_refl _⟩, ⟨by (with_reducible repeat (first | apply Kd.R_alloc | apply Kd.R_drewN | apply Kd.R_drew)); exact aa.out⟩, ⟨by repeat (first | (with_reducible first | exact HB.out | apply below_alloc | apply pw_below_drewN | apply below_drew1) | exact HB.out)⟩⟩
      case round =>
       clear H'
       try clear c1
       try clear p2
       try clear c4
       try clear aL
       try clear aM
       try clear c5
       try clear aN
       try clear aO
       try clear p6
       try clear c8
       try clear aQ
       try clear p2
       try clear p6
       obtain ⟨ac, ae, ad, rfl, rfl, HA, HK2, aa, HB⟩ := hrel
       cases gk with
       | zero => exact absurd HA.out (by simp [codewrightref01_Mul.l1])
       | succ k2 =>
        have H := HA.out
        clear HA
        simp only [codewrightref01_Mul.l1] at H
        by_cases c9 : ad < (l1.length : Int)
        ·
         rw [if_pos c9] at H
         have a3 : decide (ad < (l1.length : Int)) = true := decide_eq_true c9
         clear c9
         by_cases aW : 0 ≤ ab
         ·
          rw [if_pos aW] at H
          have bb : decide (0 ≤ ab) = true := decide_eq_true aW
          clear aW
          by_cases aX : ab < (l0.length : Int)
          ·
           rw [if_pos aX] at H
           have bd : decide (ab < (l0.length : Int)) = true := decide_eq_true aX
           clear aX
           by_cases aY : 0 ≤ ad
           ·
            rw [if_pos aY] at H
            have bf : decide (0 ≤ ad) = true := decide_eq_true aY
            clear aY
            obtain ⟨ji13, hji13⟩ : ∃ j_ : Int, (wrap64 (ab + ad)) = j_ := ⟨_, rfl⟩
            replace H : (if 0 ≤ (ji13) then (if (ji13) < (ac.length : Int) then (codewrightref01_Mul.l1 k2 l0 l1 (ac.set ((ji13) : Int).toNat ((Int.tmod (IntKind.u64.wrap ((IntKind.u64.wrap ((IntKind.u64.wrap ((IntKind.u64.wrap (rd l0 ab)) * (IntKind.u64.wrap (rd l1 ad)))) + (IntKind.u64.wrap (rd ac (ji13))))) + ae)) 4294967296) % 4294967296)) ab (IntKind.u64.wrap (Int.tdiv (IntKind.u64.wrap ((IntKind.u64.wrap ((IntKind.u64.wrap ((IntKind.u64.wrap (rd l0 ab)) * (IntKind.u64.wrap (rd l1 ad)))) + (IntKind.u64.wrap (rd ac (ji13))))) + ae)) 4294967296)) (wrap64 (ad + 1))) else (none)) else (none)) = some r := by first | (rw [hji13] at H; exact H) | (simp only [hji13] at H ⊢; exact H)
            have hji13w : (IntKind.i64.wrap (ab + ad)) = ji13 := (i64_w _).trans hji13
            by_cases aZ : 0 ≤ (ji13)
            ·
             rw [if_pos aZ] at H
             have bg : decide (0 ≤ (ji13)) = true := decide_eq_true aZ
             clear aZ
             by_cases a0 : (ji13) < (ac.length : Int)
             ·
              rw [if_pos a0] at H
              have bh : decide ((ji13) < (ac.length : Int)) = true := decide_eq_true a0
              clear a0
              obtain ⟨aw, an⟩ : ∃ y_ : List Int, y_ = (ac.set ((ji13) : Int).toNat ((Int.tmod (IntKind.u64.wrap ((IntKind.u64.wrap ((IntKind.u64.wrap ((IntKind.u64.wrap (rd l0 ab)) * (IntKind.u64.wrap (rd l1 ad)))) + (IntKind.u64.wrap (rd ac (ji13))))) + ae)) 4294967296) % 4294967296)) := ⟨_, rfl⟩
              replace H : (codewrightref01_Mul.l1 k2 l0 l1 aw ab (IntKind.u64.wrap (Int.tdiv (IntKind.u64.wrap ((IntKind.u64.wrap ((IntKind.u64.wrap ((IntKind.u64.wrap (rd l0 ab)) * (IntKind.u64.wrap (rd l1 ad)))) + (IntKind.u64.wrap (rd ac (ji13))))) + ae)) 4294967296)) (wrap64 (ad + 1))) = some r := by first | (rw [an]; with_reducible exact H) | (have H2_ := (Option.bind_some _ _).symm.trans H; rw [an]; with_reducible exact H2_) | (have H2_ := (Option.bind_some _ _).symm.trans H; with_reducible exact H2_) | with_reducible exact H | (rw [an]; exact H) | exact H
              have ax := am an
              clear an
              have H' := am H
              clear H
              have p372 : 0 ≤ (ab : Int) := of_decide_eq_true (by first | (with_reducible assumption) | assumption)
              have q372 : ab < (l0.length : Int) := of_decide_eq_true (by first | (with_reducible assumption) | assumption)
              obtain ⟨ad372, e372, ai⟩ := Kd.at_int bl.out ab p372 q372
              cases e372
              replace ai := (HB.out.cell (World.block_lt_of_cell? w _ ai)).trans ai
              replace p372 := eq_true p372
              replace q372 := eq_true q372
              have p373 : 0 ≤ (ad : Int) := of_decide_eq_true (by first | (with_reducible assumption) | assumption)
              have q373 : ad < (l1.length : Int) := of_decide_eq_true (by first | (with_reducible assumption) | assumption)
              obtain ⟨ad373, e373, aj⟩ := Kd.at_int bm.out ad p373 q373
              cases e373
              replace aj := (HB.out.cell (World.block_lt_of_cell? w _ aj)).trans aj
              replace p373 := eq_true p373
              replace q373 := eq_true q373
              obtain ⟨bn, aJ, a4⟩ := Kd.R_slice aa.out
              subst a4
              have p374 : 0 ≤ ((ji13) : Int) := of_decide_eq_true (by first | (with_reducible assumption) | assumption)
              have q374 : (ji13) < (ac.length : Int) := of_decide_eq_true (by first | (with_reducible assumption) | assumption)
              obtain ⟨ad374, e374, aH⟩ := Kd.at_int (Kd.R_reads' aa.out).2.2 (ji13) p374 q374
              cases e374
              replace p374 := eq_true p374
              replace q374 := eq_true q374
              have p16 : 0 ≤ ((ji13) : Int) := of_decide_eq_true (by first | (with_reducible assumption) | assumption)
              have q16 : ((ji13) : Int) < ((ac.length : Int) : Int) := of_decide_eq_true (by first | (with_reducible assumption) | assumption)
              obtain ⟨go16, bo, aR, aS, gl16, cl16, HG16⟩ := Kd.R_form aa.out (by omega)
              (first | cases aR | (injection aR with ea_ en_ ec_; (first | subst ea_ | (injection ea_ with ea_; subst ea_)); subst ec_; clear en_))
              have GB16 := am aS
              have GG16 := am HG16
              clear aS gl16 HG16
              (first | simp only [add_plain] at aH | skip)
              obtain ⟨a5, a6⟩ := Kd.R_celln 0 aa.out ((ji13) : Int) p16 q16
              replace p16 := eq_true p16
              replace q16 := eq_true q16
              obtain ⟨ay, hz18_⟩ := Kd.R_celln 0 aa.out ((ji13) : Int) (of_decide_eq_true (by first | (with_reducible assumption) | assumption)) (of_decide_eq_true (by first | (with_reducible assumption) | assumption))
              have af := Kd.R_putg aa.out ((ji13) : Int) ((Int.tmod (IntKind.u64.wrap ((IntKind.u64.wrap ((IntKind.u64.wrap ((IntKind.u64.wrap (rd l0 ab)) * (IntKind.u64.wrap (rd l1 ad)))) + (IntKind.u64.wrap (rd ac (ji13))))) + ae)) 4294967296) % 4294967296)
              go_wp2_with (first | ((with_reducible refine gate_store (t := 48) (p := 56) rfl ?_); (try (rw [drewN_self wr]; generalize hq_ : World.drewN wr _ = wr; have ao := am (Kd.R_at hq_ aa.out); have ap := am (below_at hq_ HB.out); clear hq_ aa HB; have aa := ao; have HB := ap; clear ao ap; (try (obtain ⟨ay, hz18_⟩ := Kd.R_celln 0 aa.out ((ji13) : Int) (of_decide_eq_true (by first | (with_reducible assumption) | assumption)) (of_decide_eq_true (by first | (with_reducible assumption) | assumption)))); (try (have af := Kd.R_putg aa.out ((ji13) : Int) ((Int.tmod (IntKind.u64.wrap ((IntKind.u64.wrap ((IntKind.u64.wrap ((IntKind.u64.wrap (rd l0 ab)) * (IntKind.u64.wrap (rd l1 ad)))) + (IntKind.u64.wrap (rd ac (ji13))))) + ae)) 4294967296) % 4294967296))))); refine store_event (t := 48) (p := 56) (v := ?vo_w19) (w1 := (wr.setCell ⟨go16, ((ji13) : Int).toNat, none⟩ (.int .u32 ((Int.tmod (IntKind.u64.wrap ((IntKind.u64.wrap ((IntKind.u64.wrap ((IntKind.u64.wrap (rd l0 ab)) * (IntKind.u64.wrap (rd l1 ad)))) + (IntKind.u64.wrap (rd ac (ji13))))) + ae)) 4294967296) % 4294967296)))) ?hg ?ho ?hn ?hr ?_; (case ho => rfl); (case hg => rfl); (case hn => rfl); (case hr => first | (go_simp; done) | (go_simp; rfl)); intro az hw; have hg : wr.grownBy az (some go16) := (by rw [hw]; exact af.2); have hp_ : Kd.R (Kd.int .u32) 48 az w.heap.size (fun _ => True) (.slice (some ⟨go16, 0, none⟩) ac.length aJ) aw := (by rw [hw, ax.out]; exact af.1); clear af; replace aa := am (hp_); replace HB := am ((by rw [hw]; exact below_set (HB.out) GB16.out : Below w.heap.size w az)); clear hg hw hp_))
              repeat (go_quiet (first | ((with_reducible refine gate_store (t := 48) (p := 56) rfl ?_); (try (rw [drewN_self wr]; generalize hq_ : World.drewN wr _ = wr; have ao := am (Kd.R_at hq_ aa.out); have ap := am (below_at hq_ HB.out); clear hq_ aa HB; have aa := ao; have HB := ap; clear ao ap; (try (obtain ⟨ay, hz18_⟩ := Kd.R_celln 0 aa.out ((ji13) : Int) (of_decide_eq_true (by first | (with_reducible assumption) | assumption)) (of_decide_eq_true (by first | (with_reducible assumption) | assumption)))); (try (have af := Kd.R_putg aa.out ((ji13) : Int) ((Int.tmod (IntKind.u64.wrap ((IntKind.u64.wrap ((IntKind.u64.wrap ((IntKind.u64.wrap (rd l0 ab)) * (IntKind.u64.wrap (rd l1 ad)))) + (IntKind.u64.wrap (rd ac (ji13))))) + ae)) 4294967296) % 4294967296))))); refine store_event (t := 48) (p := 56) (v := ?vo_w19) (w1 := (wr.setCell ⟨go16, ((ji13) : Int).toNat, none⟩ (.int .u32 ((Int.tmod (IntKind.u64.wrap ((IntKind.u64.wrap ((IntKind.u64.wrap ((IntKind.u64.wrap (rd l0 ab)) * (IntKind.u64.wrap (rd l1 ad)))) + (IntKind.u64.wrap (rd ac (ji13))))) + ae)) 4294967296) % 4294967296)))) ?hg ?ho ?hn ?hr ?_; (case ho => rfl); (case hg => rfl); (case hn => rfl); (case hr => first | (go_simp; done) | (go_simp; rfl)); intro az hw; have hg : wr.grownBy az (some go16) := (by rw [hw]; exact af.2); have hp_ : Kd.R (Kd.int .u32) 48 az w.heap.size (fun _ => True) (.slice (some ⟨go16, 0, none⟩) ac.length aJ) aw := (by rw [hw, ax.out]; exact af.1); clear af; replace aa := am (hp_); replace HB := am ((by rw [hw]; exact below_set (HB.out) GB16.out : Below w.heap.size w az)); clear hg hw hp_)); try go_wp2_with (first | ((with_reducible refine gate_store (t := 48) (p := 56) rfl ?_); (try (rw [drewN_self wr]; generalize hq_ : World.drewN wr _ = wr; have ao := am (Kd.R_at hq_ aa.out); have ap := am (below_at hq_ HB.out); clear hq_ aa HB; have aa := ao; have HB := ap; clear ao ap; (try (obtain ⟨ay, hz18_⟩ := Kd.R_celln 0 aa.out ((ji13) : Int) (of_decide_eq_true (by first | (with_reducible assumption) | assumption)) (of_decide_eq_true (by first | (with_reducible assumption) | assumption)))); (try (have af := Kd.R_putg aa.out ((ji13) : Int) ((Int.tmod (IntKind.u64.wrap ((IntKind.u64.wrap ((IntKind.u64.wrap ((IntKind.u64.wrap (rd l0 ab)) * (IntKind.u64.wrap (rd l1 ad)))) + (IntKind.u64.wrap (rd ac (ji13))))) + ae)) 4294967296) % 4294967296))))); refine store_event (t := 48) (p := 56) (v := ?vo_w19) (w1 := (wr.setCell ⟨go16, ((ji13) : Int).toNat, none⟩ (.int .u32 ((Int.tmod (IntKind.u64.wrap ((IntKind.u64.wrap ((IntKind.u64.wrap ((IntKind.u64.wrap (rd l0 ab)) * (IntKind.u64.wrap (rd l1 ad)))) + (IntKind.u64.wrap (rd ac (ji13))))) + ae)) 4294967296) % 4294967296)))) ?hg ?ho ?hn ?hr ?_; (case ho => rfl); (case hg => rfl); (case hn => rfl); (case hr => first | (go_simp; done) | (go_simp; rfl)); intro az hw; have hg : wr.grownBy az (some go16) := (by rw [hw]; exact af.2); have hp_ : Kd.R (Kd.int .u32) 48 az w.heap.size (fun _ => True) (.slice (some ⟨go16, 0, none⟩) ac.length aJ) aw := (by rw [hw, ax.out]; exact af.1); clear af; replace aa := am (hp_); replace HB := am ((by rw [hw]; exact below_set (HB.out) GB16.out : Below w.heap.size w az)); clear hg hw hp_)))
              go_roundg k2
              case measure => have := HK1.out; have := HK2.out; omega
              case rel => exact ⟨(aw), (IntKind.u64.wrap (Int.tdiv (IntKind.u64.wrap ((IntKind.u64.wrap ((IntKind.u64.wrap ((IntKind.u64.wrap (rd l0 ab)) * (IntKind.u64.wrap (rd l1 ad)))) + (IntKind.u64.wrap (rd ac (ji13))))) + ae)) 4294967296)), (wrap64 (ad + 1)), (by first | rfl | (simp; done) | (simp only [← hji13] <;> (first | rfl | simp)) | (simp [*]; done)), (by first | rfl | (simp; done) | (simp [*]; done)), H', ⟨by have := HK1.out; have := HK2.out; omega⟩, ⟨by (with_reducible repeat (first | apply Kd.R_alloc | apply Kd.R_drewN | apply Kd.R_drew)); exact aa.out⟩, ⟨by repeat (first | (with_reducible first | exact HB.out | apply below_alloc | apply pw_below_drewN | apply below_drew1) | exact HB.out)⟩⟩
             ·
              rw [if_neg a0] at H
              exact absurd H (by simp)
            ·
             rw [if_neg aZ] at H
             exact absurd H (by simp)
           ·
            rw [if_neg aY] at H
            exact absurd H (by simp)
          ·
           rw [if_neg aX] at H
           exact absurd H (by simp)
         ·
          rw [if_neg aW] at H
          exact absurd H (by simp)
        ·
         rw [if_neg c9] at H
         have a3 : decide (ad < (l1.length : Int)) = false := decide_eq_false c9
         clear c9
         obtain ⟨ji20, hji20⟩ : ∃ j_ : Int, (wrap64 (ab + (l1.length : Int))) = j_ := ⟨_, rfl⟩
         replace H : (if 0 ≤ (ji20) then (if (ji20) < (ac.length : Int) then (codewrightref01_Mul.l0 k2 l0 l1 (ac.set ((ji20) : Int).toNat ((ae) % 4294967296)) (wrap64 (ab + 1))) else (none)) else (none)) = some r := by first | (rw [hji20] at H; exact H) | (simp only [hji20] at H ⊢; exact H)
         have hji20w : (IntKind.i64.wrap (ab + (l1.length : Int))) = ji20 := (i64_w _).trans hji20
         by_cases a1 : 0 ≤ (ji20)
         ·
          rw [if_pos a1] at H
          have bi : decide (0 ≤ (ji20)) = true := decide_eq_true a1
          clear a1
          by_cases a2 : (ji20) < (ac.length : Int)
          ·
           rw [if_pos a2] at H
           have bj : decide ((ji20) < (ac.length : Int)) = true := decide_eq_true a2
           clear a2
           obtain ⟨aA, aq⟩ : ∃ y_ : List Int, y_ = (ac.set ((ji20) : Int).toNat ((ae) % 4294967296)) := ⟨_, rfl⟩
           replace H : (codewrightref01_Mul.l0 k2 l0 l1 aA (wrap64 (ab + 1))) = some r := by first | (rw [aq]; with_reducible exact H) | (have H2_ := (Option.bind_some _ _).symm.trans H; rw [aq]; with_reducible exact H2_) | (have H2_ := (Option.bind_some _ _).symm.trans H; with_reducible exact H2_) | with_reducible exact H | (rw [aq]; exact H) | exact H
           have aB := am aq
           clear aq
           have H' := am H
           clear H
           have p23 : 0 ≤ ((ji20) : Int) := of_decide_eq_true (by first | (with_reducible assumption) | assumption)
           have q23 : ((ji20) : Int) < ((ac.length : Int) : Int) := of_decide_eq_true (by first | (with_reducible assumption) | assumption)
           obtain ⟨go23, aK, aT, aU, gl23, cl23, HG23⟩ := Kd.R_form aa.out (by omega)
           (first | cases aT | (injection aT with ea_ en_ ec_; (first | subst ea_ | (injection ea_ with ea_; subst ea_)); subst ec_; clear en_))
           have GB23 := am aU
           have GG23 := am HG23
           clear aU gl23 HG23
           obtain ⟨a7, a8⟩ := Kd.R_celln 0 aa.out ((ji20) : Int) p23 q23
           replace p23 := eq_true p23
           replace q23 := eq_true q23
           obtain ⟨aC, hz24_⟩ := Kd.R_celln 0 aa.out ((ji20) : Int) (of_decide_eq_true (by first | (with_reducible assumption) | assumption)) (of_decide_eq_true (by first | (with_reducible assumption) | assumption))
           have ag := Kd.R_putg aa.out ((ji20) : Int) ((ae) % 4294967296)
           go_wp2_with (first | ((with_reducible refine gate_store (t := 48) (p := 66) rfl ?_); (try (rw [drewN_self wr]; generalize hq_ : World.drewN wr _ = wr; have ao := am (Kd.R_at hq_ aa.out); have ap := am (below_at hq_ HB.out); clear hq_ aa HB; have aa := ao; have HB := ap; clear ao ap; (try (obtain ⟨aC, hz24_⟩ := Kd.R_celln 0 aa.out ((ji20) : Int) (of_decide_eq_true (by first | (with_reducible assumption) | assumption)) (of_decide_eq_true (by first | (with_reducible assumption) | assumption)))); (try (have ag := Kd.R_putg aa.out ((ji20) : Int) ((ae) % 4294967296))))); refine store_event (t := 48) (p := 66) (v := ?vo_w25) (w1 := (wr.setCell ⟨go23, ((ji20) : Int).toNat, none⟩ (.int .u32 ((ae) % 4294967296)))) ?hg ?ho ?hn ?hr ?_; (case ho => rfl); (case hg => rfl); (case hn => rfl); (case hr => first | (go_simp; done) | (go_simp; rfl)); intro aD hw; have hg : wr.grownBy aD (some go23) := (by rw [hw]; exact ag.2); have hp_ : Kd.R (Kd.int .u32) 48 aD w.heap.size (fun _ => True) (.slice (some ⟨go23, 0, none⟩) ac.length aK) aA := (by rw [hw, aB.out]; exact ag.1); clear ag; replace aa := am (hp_); replace HB := am ((by rw [hw]; exact below_set (HB.out) GB23.out : Below w.heap.size w aD)); clear hg hw hp_))
           repeat (go_quiet (first | ((with_reducible refine gate_store (t := 48) (p := 66) rfl ?_); (try (rw [drewN_self wr]; generalize hq_ : World.drewN wr _ = wr; have ao := am (Kd.R_at hq_ aa.out); have ap := am (below_at hq_ HB.out); clear hq_ aa HB; have aa := ao; have HB := ap; clear ao ap; (try (obtain ⟨aC, hz24_⟩ := Kd.R_celln 0 aa.out ((ji20) : Int) (of_decide_eq_true (by first | (with_reducible assumption) | assumption)) (of_decide_eq_true (by first | (with_reducible assumption) | assumption)))); (try (have ag := Kd.R_putg aa.out ((ji20) : Int) ((ae) % 4294967296))))); refine store_event (t := 48) (p := 66) (v := ?vo_w25) (w1 := (wr.setCell ⟨go23, ((ji20) : Int).toNat, none⟩ (.int .u32 ((ae) % 4294967296)))) ?hg ?ho ?hn ?hr ?_; (case ho => rfl); (case hg => rfl); (case hn => rfl); (case hr => first | (go_simp; done) | (go_simp; rfl)); intro aD hw; have hg : wr.grownBy aD (some go23) := (by rw [hw]; exact ag.2); have hp_ : Kd.R (Kd.int .u32) 48 aD w.heap.size (fun _ => True) (.slice (some ⟨go23, 0, none⟩) ac.length aK) aA := (by rw [hw, aB.out]; exact ag.1); clear ag; replace aa := am (hp_); replace HB := am ((by rw [hw]; exact below_set (HB.out) GB23.out : Below w.heap.size w aD)); clear hg hw hp_)); try go_wp2_with (first | ((with_reducible refine gate_store (t := 48) (p := 66) rfl ?_); (try (rw [drewN_self wr]; generalize hq_ : World.drewN wr _ = wr; have ao := am (Kd.R_at hq_ aa.out); have ap := am (below_at hq_ HB.out); clear hq_ aa HB; have aa := ao; have HB := ap; clear ao ap; (try (obtain ⟨aC, hz24_⟩ := Kd.R_celln 0 aa.out ((ji20) : Int) (of_decide_eq_true (by first | (with_reducible assumption) | assumption)) (of_decide_eq_true (by first | (with_reducible assumption) | assumption)))); (try (have ag := Kd.R_putg aa.out ((ji20) : Int) ((ae) % 4294967296))))); refine store_event (t := 48) (p := 66) (v := ?vo_w25) (w1 := (wr.setCell ⟨go23, ((ji20) : Int).toNat, none⟩ (.int .u32 ((ae) % 4294967296)))) ?hg ?ho ?hn ?hr ?_; (case ho => rfl); (case hg => rfl); (case hn => rfl); (case hr => first | (go_simp; done) | (go_simp; rfl)); intro aD hw; have hg : wr.grownBy aD (some go23) := (by rw [hw]; exact ag.2); have hp_ : Kd.R (Kd.int .u32) 48 aD w.heap.size (fun _ => True) (.slice (some ⟨go23, 0, none⟩) ac.length aK) aA := (by rw [hw, aB.out]; exact ag.1); clear ag; replace aa := am (hp_); replace HB := am ((by rw [hw]; exact below_set (HB.out) GB23.out : Below w.heap.size w aD)); clear hg hw hp_)))
           go_roundg k2
           case measure => have := HK1.out; have := HK2.out; omega
           case rel => exact ⟨(aA), (wrap64 (ab + 1)), (by first | rfl | (simp; done) | (simp [*]; done)), H', ⟨by have := HK1.out; have := HK2.out; omega⟩, ⟨by (with_reducible repeat (first | apply Kd.R_alloc | apply Kd.R_drewN | apply Kd.R_drew)); exact aa.out⟩, ⟨by repeat (first | (with_reducible first | exact HB.out | apply below_alloc | apply pw_below_drewN | apply below_drew1) | exact HB.out)⟩⟩
          ·
           rw [if_neg a2] at H
           exact absurd H (by simp)
         ·
          rw [if_neg a1] at H
          exact absurd H (by simp)
     ·
      rw [if_neg c8] at H
      have aQ : decide (ab < (l0.length : Int)) = false := decide_eq_false c8
      clear c8
      obtain ⟨aI, a9, H⟩ := bs H
      replace H : (some aI) = some r := H
      obtain rfl := Option.some.inj H
      obtain ⟨bp, bq, ba⟩ := Kd.R_slice aa.out
      subst ba
      go_wp2_with (first | (go_at_call 144; (with_reducible refine (codewrightref01_Trim.calls k1 _ _ au aI _ ?side1 ?side2 a9.out).mono ?_); (case side1 => exact cu (Kd.R_reads' aa.out).2.2); (case side2 => exact (Kd.R_reads' aa.out).2.1); rintro e bk ⟨aV, rfl, aE, hb⟩; have aF := am (Kd.R_lower (Kd.R_new' aE (Kd.R_lt (by (with_reducible repeat (first | apply Kd.R_alloc | apply Kd.R_drewN | apply Kd.R_drew)); exact aa.out))) (below_size (bu HB.out))); replace aa := am (Kd.R_elder' (by (with_reducible repeat (first | apply Kd.R_alloc | apply Kd.R_drewN | apply Kd.R_drew)); exact aa.out) (Kd.R_base aE) hb); replace HB := be HB hb; (try clear hb); (try clear aE)))
      repeat (go_quiet (first | (go_at_call 144; (with_reducible refine (codewrightref01_Trim.calls k1 _ _ au aI _ ?side1 ?side2 a9.out).mono ?_); (case side1 => exact cu (Kd.R_reads' aa.out).2.2); (case side2 => exact (Kd.R_reads' aa.out).2.1); rintro e bk ⟨aV, rfl, aE, hb⟩; have aF := am (Kd.R_lower (Kd.R_new' aE (Kd.R_lt (by (with_reducible repeat (first | apply Kd.R_alloc | apply Kd.R_drewN | apply Kd.R_drew)); exact aa.out))) (below_size (bu HB.out))); replace aa := am (Kd.R_elder' (by (with_reducible repeat (first | apply Kd.R_alloc | apply Kd.R_drewN | apply Kd.R_drew)); exact aa.out) (Kd.R_base aE) hb); replace HB := be HB hb; (try clear hb); (try clear aE))); try go_wp2_with (first | (go_at_call 144; (with_reducible refine (codewrightref01_Trim.calls k1 _ _ au aI _ ?side1 ?side2 a9.out).mono ?_); (case side1 => exact cu (Kd.R_reads' aa.out).2.2); (case side2 => exact (Kd.R_reads' aa.out).2.1); rintro e bk ⟨aV, rfl, aE, hb⟩; have aF := am (Kd.R_lower (Kd.R_new' aE (Kd.R_lt (by (with_reducible repeat (first | apply Kd.R_alloc | apply Kd.R_drewN | apply Kd.R_drew)); exact aa.out))) (below_size (bu HB.out))); replace aa := am (Kd.R_elder' (by (with_reducible repeat (first | apply Kd.R_alloc | apply Kd.R_drewN | apply Kd.R_drew)); exact aa.out) (Kd.R_base aE) hb); replace HB := be HB hb; (try clear hb); (try clear aE))))
      go_ret
      exact ⟨_, by first | rfl | (simp [errW_none, errW_some] <;> rfl) | (simp only [← hji3]; first | rfl | (simp [errW_none, errW_some] <;> rfl)) | (simp [*, errW_none, errW_some] <;> rfl), by (with_reducible repeat (first | apply Kd.R_alloc | apply Kd.R_drewN | apply Kd.R_drew)); exact Kd.R_mono aF.out (fun _ hk => trivial), by repeat (first | (with_reducible first | exact HB.out | apply below_alloc | apply pw_below_drewN | apply below_drew1) | exact HB.out)⟩
  ·
   rw [if_neg c5] at H
   exact absurd H (by simp)
 ·
  rw [if_neg c4] at H
  exact absurd H (by simp)
end Go.Proofs.Ytecfdemglbfnoaa.PT
end
