/- Walks and plain facts for the law RationalFloors, several texts in one: each theorem says what it shows; no condition beyond those that it names. -/
import Derived.Test.YtecfdemglbfnoaaMRationalFloorsB
section
namespace Go.Proofs.Ytecfdemglbfnoaa.PT
open Go.RowKit Go.Proofs.YtecfdemglbfnoaaW.PrintWords Go.Proofs.YtecfdemglbfnoaaW.PrintLast Go.Proofs.YtecfdemglbfnoaaW.PrintMore
attribute [local go_sem] max2_int min2_int max_two min_two max_three min_three max_four min_four
set_option linter.unusedVariables false
set_option linter.unusedSimpArgs false
set_option maxHeartbeats 8000000
set_option maxRecDepth 100000
def nat_shift.l0 : Nat → List Int → Int → List Int → Int → List Int → Int → Int → Option (List Int)
 | 0, _, _, _, _, _, _, _ => none
 | k + 1, x0, x1, x5, x6, x14, x15, x16 => if x16 < x15 then (if 0 ≤ x16 then (if x16 < (x14.length : Int) then (if 0 ≤ x1 then (if x16 < (x5.length : Int) then (nat_shift.l0 k x0 x1 (x5.set (x16 : Int).toNat ((Go.bits .or .u64 (shl .u64 (IntKind.u64.wrap (rd x14 x16)) x1) x6) % 4294967296)) ((Go.bits .or .u64 (shl .u64 (IntKind.u64.wrap (rd x14 x16)) x1) x6) / 4294967296) x14 x15 (wrap64 (x16 + 1))) else (none)) else (none)) else (none)) else (none)) else (if 0 ≤ (x0.length : Int) then (if (x0.length : Int) < (x5.length : Int) then (some (x5.set ((x0.length : Int) : Int).toNat ((x6) % 4294967296))) else (none)) else (none))
def nat_shift.f (k : Nat) (l0 : List Int) (a1 : Int) : Option (List Int) := if 0 ≤ (wrap64 ((l0.length : Int) + 1)) then (if (wrap64 ((l0.length : Int) + 1) : Int).toNat ≤ 70368744177664 then (nat_shift.l0 k l0 a1 (List.replicate (wrap64 ((l0.length : Int) + 1) : Int).toNat 0) 0 l0 (l0.length : Int) 0) else (none)) else (none)
theorem nat_shift.calls (k : Nat) (A0 : Option Addr) (c0 : Nat) (l0 : List Int) (a1 : Int) (r : List Int) (w : World) (hr0 : Kd.C (Kd.int .u32) w A0 l0.length l0) (hc0 : l0.length ≤ c0) (h : nat_shift.f k l0 a1 = some r) :
 Calls Try.prog 189 #[.slice A0 l0.length c0, .int .i64 a1] w fun e w' => ∃ v0_ : Value, e = .returned (v0_) ∧ Kd.R (Kd.int .u32) 48 w' w.heap.size (fun _ => True) v0_ r ∧ Below w.heap.size w w' := by
 have a2 := am hr0
 have a5 := am hc0
 clear hr0 hc0
 have HB := am (Below.refl w.heap.size w)
 have H : (if 0 ≤ (wrap64 ((l0.length : Int) + 1)) then (if (wrap64 ((l0.length : Int) + 1) : Int).toNat ≤ 70368744177664 then (nat_shift.l0 k l0 a1 (List.replicate (wrap64 ((l0.length : Int) + 1) : Int).toNat 0) 0 l0 (l0.length : Int) 0) else (none)) else (none)) = some r := h
 clear h
 obtain ⟨ji3, hji3⟩ : ∃ j_ : Int, (wrap64 ((l0.length : Int) + 1)) = j_ := ⟨_, rfl⟩
 replace H : (if 0 ≤ (ji3) then (if (ji3 : Int).toNat ≤ 70368744177664 then (nat_shift.l0 k l0 a1 (List.replicate (ji3 : Int).toNat 0) 0 l0 (l0.length : Int) 0) else (none)) else (none)) = some r := by first | (rw [hji3] at H; exact H) | (simp only [hji3] at H ⊢; exact H)
 have hji3w : (IntKind.i64.wrap ((l0.length : Int) + 1)) = ji3 := (i64_w _).trans hji3
 by_cases c4 : 0 ≤ (ji3)
 ·
  rw [if_pos c4] at H
  have aH := eq_true c4
  have aI : decide (0 ≤ (ji3)) = true := decide_eq_true c4
  clear c4
  by_cases c5 : (ji3 : Int).toNat ≤ 70368744177664
  ·
   rw [if_pos c5] at H
   have aJ := eq_true c5
   have aK : decide ((ji3 : Int).toNat ≤ 70368744177664) = true := decide_eq_true c5
   clear c5
   obtain ⟨ap, af⟩ : ∃ y_ : List Int, y_ = (List.replicate (ji3 : Int).toNat 0) := ⟨_, rfl⟩
   replace H : (nat_shift.l0 k l0 a1 ap 0 l0 (l0.length : Int) 0) = some r := by first | (rw [af]; with_reducible exact H) | (have H2_ := (Option.bind_some _ _).symm.trans H; rw [af]; with_reducible exact H2_) | (have H2_ := (Option.bind_some _ _).symm.trans H; with_reducible exact H2_) | with_reducible exact H | (rw [af]; exact H) | exact H
   have ai := am af
   clear af
   have H' := am H
   clear H
   go_enter Try.func189, Try.ntmps189
   go_wp2_with (first | ((with_reducible refine gate_dst (N := 13) rfl ?_); refine Kd.R_make (Kd.int .u32) _ 48 rfl (N := 13) rfl 42 _ _ rfl ji3 rfl rfl Try.underlying42 (.int .u32 0) 4 info48 rfl (by decide) (by omega) 0 (ok := fun _ => True) (okp := fun _ => True) rfl (fun _ hk => hk) trivial (of_decide_eq_true (by first | (with_reducible assumption) | assumption)) (Nat.le_trans (Nat.mul_le_mul_right _ (of_decide_eq_true (by first | (with_reducible assumption) | assumption) : ji3.toNat ≤ 70368744177664)) (by omega)) (Below.refl _ _) (Nat.le_refl _) ?_; intro aL w6 aq hb hg_ hnew_; clear hg_ hnew_; (first | rw [← ai.out] at aq | (simp only [Int.reduceToNat] at aq; rw [← ai.out] at aq)); have au := am (Kd.R_lower aq (below_size (bu HB.out))); replace HB := be HB hb; clear hb aq))
   go_loopg [6, 16] k (fun kq v6 a3 w' => ∃ (ab : List Int) (ac : Int) (aa : Int), v6 = .int .u64 ac ∧ a3 = .int .i64 aa ∧ Aside0 (nat_shift.l0 kq l0 a1 ab ac l0 (l0.length : Int) aa = some r) ∧ Aside0 (kq ≤ k) ∧ Aside0 (Kd.R (Kd.int .u32) 48 w' w.heap.size (fun _ => True) aL ab) ∧ Aside0 (Below w.heap.size w w'))
   case atStart => exact ⟨(ap), (0), (0), (by first | rfl | (simp; done) | (simp [*]; done)), (by first | rfl | (simp; done) | (simp [*]; done)), H', ⟨Nat.le_refl _⟩, ⟨by (with_reducible repeat (first | apply Kd.R_alloc | apply Kd.R_drewN | apply Kd.R_drew)); exact au.out⟩, ⟨by repeat (first | (with_reducible first | exact HB.out | apply below_alloc | apply pw_below_drewN | apply below_drew1) | exact HB.out)⟩⟩
   case round =>
    clear H'
    try clear c1
    try clear p2
    try clear c4
    try clear aH
    try clear aI
    try clear c5
    try clear aJ
    try clear aK
    try clear p6
    obtain ⟨ab, ac, aa, rfl, rfl, HA, HK1, ad, HB⟩ := hrel
    cases gk with
    | zero => exact absurd HA.out (by simp [nat_shift.l0])
    | succ k1 =>
     have H := HA.out
     clear HA
     simp only [nat_shift.l0] at H
     by_cases c8 : aa < (l0.length : Int)
     ·
      rw [if_pos c8] at H
      have aM : decide (aa < (l0.length : Int)) = true := decide_eq_true c8
      clear c8
      by_cases c9 : 0 ≤ aa
      ·
       rw [if_pos c9] at H
       have a4 : decide (0 ≤ aa) = true := decide_eq_true c9
       clear c9
       by_cases aE : aa < (l0.length : Int)
       ·
        rw [if_pos aE] at H
        have aT : decide (aa < (l0.length : Int)) = true := decide_eq_true aE
        clear aE
        by_cases av : 0 ≤ a1
        ·
         rw [if_pos av] at H
         have aU := eq_true av
         have aV : decide (0 ≤ a1) = true := decide_eq_true av
         clear av
         obtain ⟨ji12, hji12⟩ : ∃ j_ : Int, (shl .u64 (IntKind.u64.wrap (rd l0 aa)) a1) = j_ := ⟨_, rfl⟩
         replace H : (if aa < (ab.length : Int) then (nat_shift.l0 k1 l0 a1 (ab.set (aa : Int).toNat ((Go.bits .or .u64 (ji12) ac) % 4294967296)) ((Go.bits .or .u64 (ji12) ac) / 4294967296) l0 (l0.length : Int) (wrap64 (aa + 1))) else (none)) = some r := by first | (rw [hji12] at H; exact H) | (simp only [hji12] at H ⊢; exact H)
         have hji12_ : (IntKind.u64.wrap ((IntKind.u64.wrap (rd l0 aa)) * 2 ^ min a1.toNat 64)) = ji12 := hji12
         have hji12z : a1 ≤ 64 → (IntKind.u64.wrap ((IntKind.u64.wrap (rd l0 aa)) * 2 ^ a1.toNat)) = ji12 := shl_small hji12
         by_cases aF : aa < (ab.length : Int)
         ·
          rw [if_pos aF] at H
          have aW : decide (aa < (ab.length : Int)) = true := decide_eq_true aF
          clear aF
          obtain ⟨aj, ag⟩ : ∃ y_ : List Int, y_ = (ab.set (aa : Int).toNat ((Go.bits .or .u64 (ji12) ac) % 4294967296)) := ⟨_, rfl⟩
          replace H : (nat_shift.l0 k1 l0 a1 aj ((Go.bits .or .u64 (ji12) ac) / 4294967296) l0 (l0.length : Int) (wrap64 (aa + 1))) = some r := by first | (rw [ag]; with_reducible exact H) | (have H2_ := (Option.bind_some _ _).symm.trans H; rw [ag]; with_reducible exact H2_) | (have H2_ := (Option.bind_some _ _).symm.trans H; with_reducible exact H2_) | with_reducible exact H | (rw [ag]; exact H) | exact H
          have aw := am ag
          clear ag
          have H' := am H
          clear H
          have p945 : 0 ≤ (aa : Int) := of_decide_eq_true (by first | (with_reducible assumption) | assumption)
          have q945 : aa < (l0.length : Int) := of_decide_eq_true (by first | (with_reducible assumption) | assumption)
          obtain ⟨ad945, e945, ae⟩ := Kd.at_int a2.out aa p945 q945
          cases e945
          replace ae := (HB.out.cell (World.block_lt_of_cell? w _ ae)).trans ae
          replace p945 := eq_true p945
          replace q945 := eq_true q945
          have p14 : 0 ≤ (aa : Int) := of_decide_eq_true (by first | (with_reducible assumption) | assumption)
          have q14 : (aa : Int) < ((ab.length : Int) : Int) := of_decide_eq_true (by first | (with_reducible assumption) | assumption)
          obtain ⟨go14, aN, ax, ay, gl14, cl14, HG14⟩ := Kd.R_form ad.out (by omega)
          (first | cases ax | (injection ax with ea_ en_ ec_; (first | subst ea_ | (injection ea_ with ea_; subst ea_)); subst ec_; clear en_))
          have GB14 := am ay
          have GG14 := am HG14
          clear ay gl14 HG14
          obtain ⟨aO, aP⟩ := Kd.R_celln 0 ad.out (aa : Int) p14 q14
          replace p14 := eq_true p14
          replace q14 := eq_true q14
          have ak := Kd.R_putg ad.out (aa : Int) ((Go.bits .or .u64 (ji12) ac) % 4294967296)
          go_wp2_with (first | ((with_reducible refine gate_store (t := 48) (p := 31) rfl ?_); refine store_event (t := 48) (p := 31) (v := ?vo_w16) (w1 := (wr.setCell ⟨go14, (aa : Int).toNat, none⟩ (.int .u32 ((Go.bits .or .u64 (ji12) ac) % 4294967296)))) ?hg ?ho ?hn ?hr ?_; (case ho => rfl); (case hg => rfl); (case hn => rfl); (case hr => first | (go_simp; done) | (go_simp; rfl)); intro aQ hw; have hg : wr.grownBy aQ (some go14) := (by rw [hw]; exact ak.2); have hp_ : Kd.R (Kd.int .u32) 48 aQ w.heap.size (fun _ => True) (.slice (some ⟨go14, 0, none⟩) ab.length aN) aj := (by rw [hw, aw.out]; exact ak.1); clear ak; replace ad := am (hp_); replace HB := am ((by rw [hw]; exact below_set (HB.out) GB14.out : Below w.heap.size w aQ)); clear hg hw hp_))
          go_roundg k1
          case measure => have := HK1.out; omega
          case rel => exact ⟨(aj), ((Go.bits .or .u64 (ji12) ac) / 4294967296), (wrap64 (aa + 1)), (by first | rfl | (simp; done) | (simp only [← hji12] <;> (first | rfl | simp)) | (simp [*]; done)), (by first | rfl | (simp; done) | (simp [*]; done)), H', ⟨by have := HK1.out; omega⟩, ⟨by (with_reducible repeat (first | apply Kd.R_alloc | apply Kd.R_drewN | apply Kd.R_drew)); exact ad.out⟩, ⟨by repeat (first | (with_reducible first | exact HB.out | apply below_alloc | apply pw_below_drewN | apply below_drew1) | exact HB.out)⟩⟩
         ·
          rw [if_neg aF] at H
          exact absurd H (by simp)
        ·
         rw [if_neg av] at H
         exact absurd H (by simp)
       ·
        rw [if_neg aE] at H
        exact absurd H (by simp)
      ·
       rw [if_neg c9] at H
       exact absurd H (by simp)
     ·
      rw [if_neg c8] at H
      have aM : decide (aa < (l0.length : Int)) = false := decide_eq_false c8
      clear c8
      by_cases aG : 0 ≤ (l0.length : Int)
      ·
       rw [if_pos aG] at H
       have aX : decide (0 ≤ (l0.length : Int)) = true := decide_eq_true aG
       have aY : decide (0 ≤ l0.length) = true := decide_eq_true (by omega)
       clear aG
       by_cases az : (l0.length : Int) < (ab.length : Int)
       ·
        rw [if_pos az] at H
        have aZ : decide ((l0.length : Int) < (ab.length : Int)) = true := decide_eq_true az
        have a0 : decide (l0.length < ab.length) = true := decide_eq_true (Int.ofNat_lt.mp az)
        clear az
        obtain ⟨aA, ah⟩ : ∃ y_ : List Int, y_ = (ab.set ((l0.length : Int) : Int).toNat ((ac) % 4294967296)) := ⟨_, rfl⟩
        replace H : (some aA) = some r := by first | (rw [ah]; with_reducible exact H) | (have H2_ := (Option.bind_some _ _).symm.trans H; rw [ah]; with_reducible exact H2_) | (have H2_ := (Option.bind_some _ _).symm.trans H; with_reducible exact H2_) | with_reducible exact H | (rw [ah]; exact H) | exact H
        have aB := am ah
        clear ah
        obtain rfl := Option.some.inj H
        have p19 : 0 ≤ ((l0.length : Int) : Int) := of_decide_eq_true (by first | (with_reducible assumption) | assumption)
        have q19 : ((l0.length : Int) : Int) < ((ab.length : Int) : Int) := of_decide_eq_true (by first | (with_reducible assumption) | assumption)
        obtain ⟨go19, aR, aC, aD, gl19, cl19, HG19⟩ := Kd.R_form ad.out (by omega)
        (first | cases aC | (injection aC with ea_ en_ ec_; (first | subst ea_ | (injection ea_ with ea_; subst ea_)); subst ec_; clear en_))
        have GB19 := am aD
        have GG19 := am HG19
        clear aD gl19 HG19
        obtain ⟨al, an⟩ := Kd.R_celln 0 ad.out ((l0.length : Int) : Int) p19 q19
        (try simp only [Go.IntWalk.toNatUp] at al an)
        replace p19 := eq_true p19
        replace q19 := eq_true q19
        have ao := Kd.R_putg ad.out ((l0.length : Int) : Int) ((ac) % 4294967296)
        go_wp2_with (first | ((with_reducible refine gate_store (t := 48) (p := 40) rfl ?_); refine store_event (t := 48) (p := 40) (v := ?vo_w21) (w1 := (wr.setCell ⟨go19, ((l0.length : Int) : Int).toNat, none⟩ (.int .u32 ((ac) % 4294967296)))) ?hg ?ho ?hn ?hr ?_; (case ho => rfl); (case hg => rfl); (case hn => rfl); (case hr => first | (go_simp; done) | (go_simp; rfl)); intro aS hw; have hg : wr.grownBy aS (some go19) := (by rw [hw]; exact ao.2); have hp_ : Kd.R (Kd.int .u32) 48 aS w.heap.size (fun _ => True) (.slice (some ⟨go19, 0, none⟩) ab.length aR) aA := (by rw [hw, aB.out]; exact ao.1); clear ao; replace ad := am (hp_); replace HB := am ((by rw [hw]; exact below_set (HB.out) GB19.out : Below w.heap.size w aS)); clear hg hw hp_))
        go_ret
        exact ⟨_, by first | rfl | (simp [errW_none, errW_some] <;> rfl) | (simp only [← hji3]; first | rfl | (simp [errW_none, errW_some] <;> rfl)) | (simp [*, errW_none, errW_some] <;> rfl), by (with_reducible repeat (first | apply Kd.R_alloc | apply Kd.R_drewN | apply Kd.R_drew)); exact ad.out, by repeat (first | (with_reducible first | exact HB.out | apply below_alloc | apply pw_below_drewN | apply below_drew1) | exact HB.out)⟩
       ·
        rw [if_neg az] at H
        exact absurd H (by simp)
      ·
       rw [if_neg aG] at H
       exact absurd H (by simp)
  ·
   rw [if_neg c5] at H
   exact absurd H (by simp)
 ·
  rw [if_neg c4] at H
  exact absurd H (by simp)
def bits_LeadingZeros32.f (a0 : Int) : Option (Int) := (bits_Len32.f a0).bind fun t941 => (some (wrap64 (32 - t941)))
theorem bits_LeadingZeros32.calls (a0 : Int) (r : Int) (w : World) (h : bits_LeadingZeros32.f a0 = some r) :
 Calls Try.prog 188 #[.int .u32 a0] w fun e w' => e = .returned (.int .i64 r) ∧ Drawn0 w w' := by
 have H : ((bits_Len32.f a0).bind fun aa => (some (wrap64 (32 - aa)))) = some r := h
 clear h
 obtain ⟨aa, A2, H⟩ := bs H
 replace H : (some (wrap64 (32 - aa))) = some r := H
 obtain rfl := Option.some.inj H
 go_enter Try.func188, Try.ntmps188
 go_wp2_with (first | ((with_reducible refine gate_callee (f := 181) rfl ?_); refine goesL_ (some 4) rfl rfl Try.func181 (by kernel_rfl) rfl #[.int .u32 a0] rfl lu ?_; (with_reducible refine (bits_Len32.calls a0 aa _ A2.out).mono ?_); rintro e w' ⟨rfl, ⟨nd, rfl⟩⟩; refine ⟨_, rfl, ?_⟩))
 go_ret
 exact ⟨by first | rfl | (simp; done) | (simp [*]; done), by repeat (first | exact Drawn0.refl _ | apply Drawn0.step)⟩
def semiring_cost.f (a0 : Int) : Option (Int) := some (mn (mx a0 0) 4611686018427387904)
def semiring_MinPlus_Add.f  (a1 : Int) (a2 : Int) : Option (Int) := (semiring_cost.f a1).bind fun t130 => ((semiring_cost.f a2).bind fun t131 => (some (mn t130 t131)))
def semiring_capped.f (a0 : Int) (a1 : Int) : Option (Int) := if a0 > (wrap64 (4611686018427387904 - a1)) then (some 4611686018427387904) else (some (wrap64 (a0 + a1)))
def semiring_MinPlus_Mul.f  (a1 : Int) (a2 : Int) : Option (Int) := (semiring_cost.f a1).bind fun t133 => ((semiring_cost.f a2).bind fun t134 => ((semiring_capped.f t133 t134).bind fun t135 => (some t135)))
def semiring_MinPlus_Same.f  (a1 : Int) (a2 : Int) : Option (Bool) := (semiring_cost.f a1).bind fun t139 => ((semiring_cost.f a2).bind fun t140 => (some (t139 == t140)))
def nat_Sub.l0 : Nat → List Int → List Int → Int → Int → Int → Option (List Int × Int)
 | 0, _, _, _, _, _ => none
 | k + 1, x1, x6, x7, x17, x18 => if x18 < x17 then (if 0 ≤ x18 then (if x18 < (x6.length : Int) then (if x18 < (x1.length : Int) then (nat_Sub.l0 k x1 (x6.set (x18 : Int).toNat ((IntKind.u64.wrap ((IntKind.u64.wrap ((IntKind.u64.wrap (rd x6 x18)) - x7)) - (IntKind.u64.wrap (rd x1 x18)))) % 4294967296)) ((IntKind.u64.wrap ((IntKind.u64.wrap ((IntKind.u64.wrap (rd x6 x18)) - x7)) - (IntKind.u64.wrap (rd x1 x18)))) / 9223372036854775808) x17 (wrap64 (x18 + 1))) else (nat_Sub.l0 k x1 (x6.set (x18 : Int).toNat ((IntKind.u64.wrap ((IntKind.u64.wrap (rd x6 x18)) - x7)) % 4294967296)) ((IntKind.u64.wrap ((IntKind.u64.wrap (rd x6 x18)) - x7)) / 9223372036854775808) x17 (wrap64 (x18 + 1)))) else (none)) else (none)) else ((nat_short.f k x6).bind fun t1624 => (some (t1624, 0)))
def nat_Sub.f (k : Nat) (l0 : List Int) (l1 : List Int) : Option (List Int × Int) := (nat_Cmp.f k l0 l1).bind fun t1616 => (if t1616 < 0 then (some (([] : List Int), 6)) else ((nat_Trim.f k l0).bind fun t1617 => (nat_Sub.l0 k l1 t1617 0 (t1617.length : Int) 0)))
theorem nat_Sub.calls (k : Nat) (A0 : Option Addr) (c0 : Nat) (l0 : List Int) (A1 : Option Addr) (c1 : Nat) (l1 : List Int) (r1 : List Int) (r2 : Int) (w : World) (hr0 : Kd.C (Kd.int .u32) w A0 l0.length l0) (hc0 : l0.length ≤ c0) (hr1 : Kd.C (Kd.int .u32) w A1 l1.length l1) (hc1 : l1.length ≤ c1) (h : nat_Sub.f k l0 l1 = some (r1, r2)) :
 Calls Try.prog 185 #[.slice A0 l0.length c0, .slice A1 l1.length c1] w fun e w' => ∃ v0_ : Value, e = .returned (.tuple #[v0_, .int .i64 r2]) ∧ Kd.V (Kd.int .u32) 48 w' w.heap.size (fun k_ => (w.heap.size ≤ k_)) v0_ r1 ∧ Below w.heap.size w w' := by
 have aQ := am hr0
 have aC := am hc0
 clear hr0 hc0
 have aR := am hr1
 have aN := am hc1
 clear hr1 hc1
 have HB := am (Below.refl w.heap.size w)
 have H : ((nat_Cmp.f k l0 l1).bind fun af => (if af < 0 then (some (([] : List Int), 6)) else ((nat_Trim.f k l0).bind fun ac => (nat_Sub.l0 k l1 ac 0 (ac.length : Int) 0)))) = some (r1, r2) := h
 clear h
 obtain ⟨af, A3, H⟩ := bs H
 (try dsimp -simprocs only at H)
 by_cases c4 : af < 0
 ·
  rw [if_pos c4] at H
  have aF : decide (af < 0) = true := decide_eq_true c4
  clear c4
  simp only [Option.some.injEq, Prod.mk.injEq] at H
  obtain ⟨rfl, rfl⟩ := H
  go_enter Try.func185, Try.ntmps185
  go_wp2_with (first | ((with_reducible refine gate_callee (f := 146) rfl ?_); refine goesL_ (some 12) rfl rfl Try.func146 (by kernel_rfl) rfl #[.slice A0 l0.length c0, .slice A1 l1.length c1] rfl lu ?_; (with_reducible refine (nat_Cmp.calls k _ _ l0 _ _ l1 af _ ?side1 ?side2 ?side3 ?side4 A3.out).mono ?_); (case side1 => repeat (first | exact aQ.out | (with_reducible refine Kd.C_alloc ?_ _) | (with_reducible refine Kd.C_drewN ?_ _) | (with_reducible refine Kd.C_drew ?_))); (case side2 => first | exact aC.out | exact vz aC.out); (case side3 => repeat (first | exact aR.out | (with_reducible refine Kd.C_alloc ?_ _) | (with_reducible refine Kd.C_drewN ?_ _) | (with_reducible refine Kd.C_drew ?_))); (case side4 => first | exact aN.out | exact vz aN.out); rintro e w5 ⟨rfl, hb⟩; refine ⟨_, rfl, ?_⟩; replace HB := be HB hb; (try clear hb)))
  go_ret2
  exact ⟨_, by first | rfl | (simp [errW_none, errW_some] <;> rfl) | (simp [*, errW_none, errW_some] <;> rfl), Kd.V_nil _ _ _ _ _, by repeat (first | (with_reducible first | exact HB.out | apply below_alloc | apply pw_below_drewN | apply below_drew1) | exact HB.out)⟩
 ·
  rw [if_neg c4] at H
  have aF : decide (af < 0) = false := decide_eq_false c4
  clear c4
  obtain ⟨ac, A6, H⟩ := bs H
  (try dsimp -simprocs only at H)
  have H' := am H
  clear H
  go_enter Try.func185, Try.ntmps185
  go_wp2_with (first | ((with_reducible refine gate_callee (f := 146) rfl ?_); refine goesL_ (some 12) rfl rfl Try.func146 (by kernel_rfl) rfl #[.slice A0 l0.length c0, .slice A1 l1.length c1] rfl lu ?_; (with_reducible refine (nat_Cmp.calls k _ _ l0 _ _ l1 af _ ?side1 ?side2 ?side3 ?side4 A3.out).mono ?_); (case side1 => repeat (first | exact aQ.out | (with_reducible refine Kd.C_alloc ?_ _) | (with_reducible refine Kd.C_drewN ?_ _) | (with_reducible refine Kd.C_drew ?_))); (case side2 => first | exact aC.out | exact vz aC.out); (case side3 => repeat (first | exact aR.out | (with_reducible refine Kd.C_alloc ?_ _) | (with_reducible refine Kd.C_drewN ?_ _) | (with_reducible refine Kd.C_drew ?_))); (case side4 => first | exact aN.out | exact vz aN.out); rintro e w7 ⟨rfl, hb⟩; refine ⟨_, rfl, ?_⟩; replace HB := be HB hb; (try clear hb)) | ((with_reducible refine gate_callee (f := 177) rfl ?_); refine goesL_ (some 15) rfl rfl Try.func177 (by kernel_rfl) rfl #[.slice A0 l0.length c0] rfl lu ?_; (with_reducible refine (nat_Trim.calls k _ _ l0 ac _ ?side1 ?side2 A6.out).mono ?_); (case side1 => repeat (first | exact (Kd.C_below aQ.out HB.out) | (with_reducible refine Kd.C_alloc ?_ _) | (with_reducible refine Kd.C_drewN ?_ _) | (with_reducible refine Kd.C_drew ?_))); (case side2 => first | exact aC.out | exact vz aC.out); rintro e w8 ⟨aZ, rfl, aG, hb⟩; refine ⟨_, rfl, ?_⟩; have an := am (Kd.R_lower (Kd.R_newM (M := fun k_ => (w.heap.size ≤ k_)) aG (below_size (bu HB.out)) (fun k_ h_ => h_)) (below_size (bu HB.out))); replace HB := be HB hb; (try clear hb); (try clear aG); obtain ⟨aS, aH, a2⟩ := Kd.R_slice an.out; subst a2))
  go_loopg [7, 18] k (fun kq v7 a3 w' => ∃ (ab : List Int) (ae : Int) (aa : Int), v7 = .int .u64 ae ∧ a3 = .int .i64 aa ∧ Aside0 (nat_Sub.l0 kq l1 ab ae (ac.length : Int) aa = some (r1, r2)) ∧ Aside0 (kq ≤ k) ∧ Aside0 (Kd.R (Kd.int .u32) 48 w' w.heap.size (fun k_ => (w.heap.size ≤ k_)) (.slice aS ac.length aH) ab) ∧ Aside0 (Below w.heap.size w w'))
  case atStart => exact ⟨(ac), (0), (0), (by first | rfl | (simp; done) | (simp [*]; done)), (by first | rfl | (simp; done) | (simp [*]; done)), H', ⟨Nat.le_refl _⟩, ⟨by (with_reducible repeat (first | apply Kd.R_alloc | apply Kd.R_drewN | apply Kd.R_drew)); exact Kd.R_mono an.out (fun _ hk => hk.1)⟩, ⟨by repeat (first | (with_reducible first | exact HB.out | apply below_alloc | apply pw_below_drewN | apply below_drew1) | exact HB.out)⟩⟩
  case round =>
   clear H'
   try clear c1
   try clear p2
   try clear c4
   try clear aF
   obtain ⟨ab, ae, aa, rfl, rfl, HA, HK1, ad, HB⟩ := hrel
   have hl6_1 := (Kd.R_reads' ad.out).1
   rw [hl6_1] at ad
   (try simp only [hl6_1])
   cases gk with
   | zero => exact absurd HA.out (by simp [nat_Sub.l0])
   | succ k1 =>
    have H := HA.out
    clear HA
    simp only [nat_Sub.l0] at H
    by_cases aD : aa < (ac.length : Int)
    ·
     rw [if_pos aD] at H
     have ao : decide (aa < (ac.length : Int)) = true := decide_eq_true aD
     clear aD
     (try (have ak := ao; simp only [hl6_1] at ak))
     by_cases aO : 0 ≤ aa
     ·
      rw [if_pos aO] at H
      have a0 : decide (0 ≤ aa) = true := decide_eq_true aO
      clear aO
      by_cases aP : aa < (ab.length : Int)
      ·
       rw [if_pos aP] at H
       have aI : decide (aa < (ab.length : Int)) = true := decide_eq_true aP
       clear aP
       (try (have aw := aI; simp only [hl6_1] at aw))
       by_cases aE : aa < (l1.length : Int)
       ·
        rw [if_pos aE] at H
        have ap : decide (aa < (l1.length : Int)) = true := decide_eq_true aE
        clear aE
        (try (have al := ap; simp only [hl6_1] at al))
        obtain ⟨aq, ag⟩ : ∃ y_ : List Int, y_ = (ab.set (aa : Int).toNat ((IntKind.u64.wrap ((IntKind.u64.wrap ((IntKind.u64.wrap (rd ab aa)) - ae)) - (IntKind.u64.wrap (rd l1 aa)))) % 4294967296)) := ⟨_, rfl⟩
        replace H : (nat_Sub.l0 k1 l1 aq ((IntKind.u64.wrap ((IntKind.u64.wrap ((IntKind.u64.wrap (rd ab aa)) - ae)) - (IntKind.u64.wrap (rd l1 aa)))) / 9223372036854775808) (ac.length : Int) (wrap64 (aa + 1))) = some (r1, r2) := by first | (rw [ag]; with_reducible exact H) | (have H2_ := (Option.bind_some _ _).symm.trans H; rw [ag]; with_reducible exact H2_) | (have H2_ := (Option.bind_some _ _).symm.trans H; with_reducible exact H2_) | with_reducible exact H | (rw [ag]; exact H) | exact H
        have ax := am ag
        clear ag
        have H' := am H
        clear H
        have p1620 : 0 ≤ (aa : Int) := of_decide_eq_true (by first | (with_reducible assumption) | assumption)
        have q1620 : aa < (ab.length : Int) := of_decide_eq_true (by first | (with_reducible assumption) | assumption)
        obtain ⟨ad1620, e1620, ah⟩ := Kd.at_int (Kd.R_reads' ad.out).2.2 aa p1620 q1620
        cases e1620
        replace p1620 := eq_true p1620
        replace q1620 := eq_true q1620
        have p1621 : 0 ≤ (aa : Int) := of_decide_eq_true (by first | (with_reducible assumption) | assumption)
        have q1621 : aa < (l1.length : Int) := of_decide_eq_true (by first | (with_reducible assumption) | assumption)
        obtain ⟨ad1621, e1621, ai⟩ := Kd.at_int aR.out aa p1621 q1621
        cases e1621
        replace ai := (HB.out.cell (World.block_lt_of_cell? w _ ai)).trans ai
        replace p1621 := eq_true p1621
        replace q1621 := eq_true q1621
        have p14 : 0 ≤ (aa : Int) := of_decide_eq_true (by first | (with_reducible assumption) | assumption)
        have q14 : (aa : Int) < ((ab.length : Int) : Int) := of_decide_eq_true (by first | (with_reducible assumption) | assumption)
        obtain ⟨go14, a4, aJ, aK, gl14, cl14, HG14⟩ := Kd.R_form ad.out (by omega)
        (first | cases aJ | (injection aJ with ea_ en_ ec_; (first | subst ea_ | (injection ea_ with ea_; subst ea_)); subst ec_; clear en_))
        have GB14 := am aK
        have GG14 := am HG14
        clear aK gl14 HG14
        (first | simp only [add_plain] at ah | skip)
        obtain ⟨aT, aU⟩ := Kd.R_celln 0 ad.out (aa : Int) p14 q14
        replace p14 := eq_true p14
        replace q14 := eq_true q14
        have ay := Kd.R_putg ad.out (aa : Int) ((IntKind.u64.wrap ((IntKind.u64.wrap ((IntKind.u64.wrap (rd ab aa)) - ae)) - (IntKind.u64.wrap (rd l1 aa)))) % 4294967296)
        go_wp2_with (first | ((with_reducible refine gate_store (t := 48) (p := 43) rfl ?_); refine store_event (t := 48) (p := 43) (v := ?vo_w16) (w1 := (wr.setCell ⟨go14, (aa : Int).toNat, none⟩ (.int .u32 ((IntKind.u64.wrap ((IntKind.u64.wrap ((IntKind.u64.wrap (rd ab aa)) - ae)) - (IntKind.u64.wrap (rd l1 aa)))) % 4294967296)))) ?hg ?ho ?hn ?hr ?_; (case ho => rfl); (case hg => rfl); (case hn => rfl); (case hr => first | (go_simp; done) | (go_simp; rfl)); intro aV hw; have hg : wr.grownBy aV (some go14) := (by rw [hw]; exact ay.2); have hp_ : Kd.R (Kd.int .u32) 48 aV w.heap.size (fun k_ => (w.heap.size ≤ k_)) (.slice (some ⟨go14, 0, none⟩) ab.length aH) aq := (by rw [hw, ax.out]; exact ay.1); clear ay; replace ad := am (hp_); replace HB := am ((by rw [hw]; exact below_set (HB.out) GB14.out : Below w.heap.size w aV)); clear hg hw hp_))
        (try simp only [← hl6_1])
        go_roundg k1
        case measure => have := HK1.out; omega
        case rel => exact ⟨(aq), ((IntKind.u64.wrap ((IntKind.u64.wrap ((IntKind.u64.wrap (rd ab aa)) - ae)) - (IntKind.u64.wrap (rd l1 aa)))) / 9223372036854775808), (wrap64 (aa + 1)), (by first | rfl | (simp; done) | (simp [*]; done)), (by first | rfl | (simp; done) | (simp [*]; done)), H', ⟨by have := HK1.out; omega⟩, ⟨by (try simp only [hl6_1]); (with_reducible repeat (first | apply Kd.R_alloc | apply Kd.R_drewN | apply Kd.R_drew)); exact ad.out⟩, ⟨by repeat (first | (with_reducible first | exact HB.out | apply below_alloc | apply pw_below_drewN | apply below_drew1) | exact HB.out)⟩⟩
       ·
        rw [if_neg aE] at H
        have ap : decide (aa < (l1.length : Int)) = false := decide_eq_false aE
        clear aE
        (try (have al := ap; simp only [hl6_1] at al))
        obtain ⟨au, aj⟩ : ∃ y_ : List Int, y_ = (ab.set (aa : Int).toNat ((IntKind.u64.wrap ((IntKind.u64.wrap (rd ab aa)) - ae)) % 4294967296)) := ⟨_, rfl⟩
        replace H : (nat_Sub.l0 k1 l1 au ((IntKind.u64.wrap ((IntKind.u64.wrap (rd ab aa)) - ae)) / 9223372036854775808) (ac.length : Int) (wrap64 (aa + 1))) = some (r1, r2) := by first | (rw [aj]; with_reducible exact H) | (have H2_ := (Option.bind_some _ _).symm.trans H; rw [aj]; with_reducible exact H2_) | (have H2_ := (Option.bind_some _ _).symm.trans H; with_reducible exact H2_) | with_reducible exact H | (rw [aj]; exact H) | exact H
        have az := am aj
        clear aj
        have H' := am H
        clear H
        have p1620 : 0 ≤ (aa : Int) := of_decide_eq_true (by first | (with_reducible assumption) | assumption)
        have q1620 : aa < (ab.length : Int) := of_decide_eq_true (by first | (with_reducible assumption) | assumption)
        obtain ⟨ad1620, e1620, ah⟩ := Kd.at_int (Kd.R_reads' ad.out).2.2 aa p1620 q1620
        cases e1620
        replace p1620 := eq_true p1620
        replace q1620 := eq_true q1620
        have p17 : 0 ≤ (aa : Int) := of_decide_eq_true (by first | (with_reducible assumption) | assumption)
        have q17 : (aa : Int) < ((ab.length : Int) : Int) := of_decide_eq_true (by first | (with_reducible assumption) | assumption)
        obtain ⟨go17, a5, aL, aM, gl17, cl17, HG17⟩ := Kd.R_form ad.out (by omega)
        (first | cases aL | (injection aL with ea_ en_ ec_; (first | subst ea_ | (injection ea_ with ea_; subst ea_)); subst ec_; clear en_))
        have GB17 := am aM
        have GG17 := am HG17
        clear aM gl17 HG17
        (first | simp only [add_plain] at ah | skip)
        obtain ⟨aW, aX⟩ := Kd.R_celln 0 ad.out (aa : Int) p17 q17
        replace p17 := eq_true p17
        replace q17 := eq_true q17
        have aA := Kd.R_putg ad.out (aa : Int) ((IntKind.u64.wrap ((IntKind.u64.wrap (rd ab aa)) - ae)) % 4294967296)
        go_wp2_with (first | ((with_reducible refine gate_store (t := 48) (p := 43) rfl ?_); refine store_event (t := 48) (p := 43) (v := ?vo_w19) (w1 := (wr.setCell ⟨go17, (aa : Int).toNat, none⟩ (.int .u32 ((IntKind.u64.wrap ((IntKind.u64.wrap (rd ab aa)) - ae)) % 4294967296)))) ?hg ?ho ?hn ?hr ?_; (case ho => rfl); (case hg => rfl); (case hn => rfl); (case hr => first | (go_simp; done) | (go_simp; rfl)); intro aY hw; have hg : wr.grownBy aY (some go17) := (by rw [hw]; exact aA.2); have hp_ : Kd.R (Kd.int .u32) 48 aY w.heap.size (fun k_ => (w.heap.size ≤ k_)) (.slice (some ⟨go17, 0, none⟩) ab.length aH) au := (by rw [hw, az.out]; exact aA.1); clear aA; replace ad := am (hp_); replace HB := am ((by rw [hw]; exact below_set (HB.out) GB17.out : Below w.heap.size w aY)); clear hg hw hp_))
        (try simp only [← hl6_1])
        go_roundg k1
        case measure => have := HK1.out; omega
        case rel => exact ⟨(au), ((IntKind.u64.wrap ((IntKind.u64.wrap (rd ab aa)) - ae)) / 9223372036854775808), (wrap64 (aa + 1)), (by first | rfl | (simp; done) | (simp [*]; done)), (by first | rfl | (simp; done) | (simp [*]; done)), H', ⟨by have := HK1.out; omega⟩, ⟨by (try simp only [hl6_1]); (with_reducible repeat (first | apply Kd.R_alloc | apply Kd.R_drewN | apply Kd.R_drew)); exact ad.out⟩, ⟨by repeat (first | (with_reducible first | exact HB.out | apply below_alloc | apply pw_below_drewN | apply below_drew1) | exact HB.out)⟩⟩
      ·
       rw [if_neg aP] at H
       exact absurd H (by simp)
     ·
      rw [if_neg aO] at H
      exact absurd H (by simp)
    ·
     rw [if_neg aD] at H
     have ao : decide (aa < (ac.length : Int)) = false := decide_eq_false aD
     clear aD
     (try (have ak := ao; simp only [hl6_1] at ak))
     obtain ⟨av, a6, H⟩ := bs H
     replace H : (some (av, 0)) = some (r1, r2) := H
     simp only [Option.some.injEq, Prod.mk.injEq] at H
     obtain ⟨rfl, rfl⟩ := H
     go_wp2_with (first | ((with_reducible refine gate_callee (f := 179) rfl ?_); refine goesL_ (some 48) rfl rfl Try.func179 (by kernel_rfl) rfl #[.slice aS ab.length aH] rfl lu ?_; (with_reducible refine (nat_short.calls k1 (fun k_ => some k_ = (.slice aS ab.length aH : Value).ownBlock) _ _ ab av _ ?side1 a6.out).mono ?_); (case side1 => exact Kd.R_V (Kd.R_tight rfl (ad.out))); rintro e a7 ⟨a1, rfl, aG, hb⟩; refine ⟨_, rfl, ?_⟩; have aB := am (Kd.V_lower (Kd.V_mono (ok' := fun k_ => (w.heap.size ≤ k_)) aG (fun k_ hk_ => Or.elim hk_ (fun hs_ => ((ad.out).1 k_ hs_.symm)) (fun hn_ => (Nat.le_trans (below_size (bu HB.out)) hn_)))) (below_size (bu HB.out))); replace ad := am (Kd.R_below (by (with_reducible repeat (first | apply Kd.R_alloc | apply Kd.R_drewN | apply Kd.R_drew)); exact ad.out) hb); replace HB := be HB hb; (try clear hb); (try clear aG)))
     go_ret2
     exact ⟨_, by first | rfl | (simp [errW_none, errW_some] <;> rfl) | (simp [*, errW_none, errW_some] <;> rfl), by (with_reducible repeat (first | apply Kd.V_alloc | apply Kd.V_drewN | apply Kd.V_drew)); exact aB.out, by repeat (first | (with_reducible first | exact HB.out | apply below_alloc | apply pw_below_drewN | apply below_drew1) | exact HB.out)⟩
def codewrightref01_Zero.f (k : Nat) (l0 : List Int) : Option (Bool) := (codewrightref01_Trim.f k l0).bind fun t538 => (some ((t538.length : Int) == 0))
theorem codewrightref01_Zero.calls (k : Nat) (A0 : Option Addr) (c0 : Nat) (l0 : List Int) (r : Bool) (w : World) (hr0 : Kd.C (Kd.int .u32) w A0 l0.length l0) (hc0 : l0.length ≤ c0) (h : codewrightref01_Zero.f k l0 = some r) :
 Calls Try.prog 150 #[.slice A0 l0.length c0] w fun e w' => e = .returned (.bool r) ∧ Below w.heap.size w w' := by
 have ae := am hr0
 have ac := am hc0
 clear hr0 hc0
 have HB := am (Below.refl w.heap.size w)
 have H : ((codewrightref01_Trim.f k l0).bind fun aa => (some ((aa.length : Int) == 0))) = some r := h
 clear h
 obtain ⟨aa, A2, H⟩ := bs H
 replace H : (some ((aa.length : Int) == 0)) = some r := H
 obtain rfl := Option.some.inj H
 go_enter Try.func150, Try.ntmps150
 go_wp2_with (first | ((with_reducible refine gate_callee (f := 144) rfl ?_); refine goesL_ (some 4) rfl rfl Try.func144 (by kernel_rfl) rfl #[.slice A0 l0.length c0] rfl lu ?_; (with_reducible refine (codewrightref01_Trim.calls k _ _ l0 aa _ ?side1 ?side2 A2.out).mono ?_); (case side1 => repeat (first | exact ae.out | (with_reducible refine Kd.C_alloc ?_ _) | (with_reducible refine Kd.C_drewN ?_ _) | (with_reducible refine Kd.C_drew ?_))); (case side2 => first | exact ac.out | exact vz ac.out); rintro e w3 ⟨af, rfl, ad, hb⟩; refine ⟨_, rfl, ?_⟩; have ab := am (Kd.R_lower ad (below_size (bu HB.out))); replace HB := be HB hb; (try clear hb); (try clear ad); obtain ⟨ah, ai, ag⟩ := Kd.R_slice ab.out; subst ag))
 go_ret
 exact ⟨by first | rfl | (simp [errW_none, errW_some] <;> rfl) | (simp [*, errW_none, errW_some] <;> rfl), by repeat (first | (with_reducible first | exact HB.out | apply below_alloc | apply pw_below_drewN | apply below_drew1) | exact HB.out)⟩
def codewrightref01_Sub.l0 : Nat → List Int → List Int → List Int → Int → Int → Option (List Int)
 | 0, _, _, _, _, _ => none
 | k + 1, x0, x1, x5, x6, x7 => if x7 < (x0.length : Int) then ((codewrightref01_limb.f x0 x7).bind fun t1044 => ((codewrightref01_limb.f x1 x7).bind fun t1045 => (if x5.length < 35184372088832 then (codewrightref01_Sub.l0 k x0 x1 (x5 ++ [(Int.tmod (IntKind.u64.wrap ((IntKind.u64.wrap ((IntKind.u64.wrap (t1044 + 4294967296)) - t1045)) - x6)) 4294967296) % 4294967296]) (IntKind.u64.wrap (1 - (IntKind.u64.wrap (Int.tdiv (IntKind.u64.wrap ((IntKind.u64.wrap ((IntKind.u64.wrap (t1044 + 4294967296)) - t1045)) - x6)) 4294967296)))) (wrap64 (x7 + 1))) else (none)))) else ((codewrightref01_Trim.f k x5).bind fun t1049 => (some t1049))
def codewrightref01_Sub.f (k : Nat) (l0 : List Int) (l1 : List Int) : Option (List Int) := codewrightref01_Sub.l0 k l0 l1 ([] : List Int) 0 0
theorem codewrightref01_Sub.calls (k : Nat) (A0 : Option Addr) (c0 : Nat) (l0 : List Int) (A1 : Option Addr) (c1 : Nat) (l1 : List Int) (r : List Int) (w : World) (hr0 : Kd.C (Kd.int .u32) w A0 l0.length l0) (hc0 : l0.length ≤ c0) (hr1 : Kd.C (Kd.int .u32) w A1 l1.length l1) (hc1 : l1.length ≤ c1) (h : codewrightref01_Sub.f k l0 l1 = some r) :
 Calls Try.prog 166 #[.slice A0 l0.length c0, .slice A1 l1.length c1] w fun e w' => ∃ v0_ : Value, e = .returned (v0_) ∧ Kd.R (Kd.int .u32) 48 w' w.heap.size (fun _ => True) v0_ r ∧ Below w.heap.size w w' := by
 have aw := am hr0
 have ap := am hc0
 clear hr0 hc0
 have ax := am hr1
 have aq := am hc1
 clear hr1 hc1
 have HB := am (Below.refl w.heap.size w)
 have H : (codewrightref01_Sub.l0 k l0 l1 ([] : List Int) 0 0) = some r := h
 clear h
 have H' := am H
 clear H
 go_enter Try.func166, Try.ntmps166
 go_wp2
 go_loopg [5, 6, 7] k (fun kq v5 v6 v7 w' => ∃ (ae : List Int) (af : Int) (aa : Int), v6 = .int .u64 af ∧ v7 = .int .i64 aa ∧ Aside0 (codewrightref01_Sub.l0 kq l0 l1 ae af aa = some r) ∧ Aside0 (kq ≤ k) ∧ Aside0 (Kd.R (Kd.int .u32) 48 w' w.heap.size (fun _ => True) v5 ae) ∧ Aside0 (Below w.heap.size w w'))
 case atStart => exact ⟨(([] : List Int)), (0), (0), (by first | rfl | (simp; done) | (simp [*]; done)), (by first | rfl | (simp; done) | (simp [*]; done)), H', ⟨Nat.le_refl _⟩, ⟨by first | exact Kd.R_nil _ _ _ _ _ | exact Kd.N_nil _ _ _ _ _ | exact Kd.V_nil _ _ _ _ _ | exact Kd.Q_nil _ _ _ _ _ | exact Kd.S_nil _ _ _ _ _⟩, ⟨by repeat (first | (with_reducible first | exact HB.out | apply below_alloc | apply pw_below_drewN | apply below_drew1) | exact HB.out)⟩⟩
 case round =>
  clear H'
  try clear c1
  try clear p2
  obtain ⟨ae, af, aa, rfl, rfl, HA, HK1, ag, HB⟩ := hrel
  cases gk with
  | zero => exact absurd HA.out (by simp [codewrightref01_Sub.l0])
  | succ k1 =>
   have H := HA.out
   clear HA
   simp only [codewrightref01_Sub.l0] at H
   by_cases c3 : aa < (l0.length : Int)
   ·
    rw [if_pos c3] at H
    have an : decide (aa < (l0.length : Int)) = true := decide_eq_true c3
    clear c3
    obtain ⟨ac, A4, H⟩ := bs H
    (try dsimp -simprocs only at H)
    obtain ⟨ad, A5, H⟩ := bs H
    (try dsimp -simprocs only at H)
    by_cases c6 : ae.length < 35184372088832
    ·
     rw [if_pos c6] at H
     have LMc6 := am c6
     clear c6
     obtain ⟨ah, ab⟩ : ∃ y_ : List Int, y_ = (ae ++ [(Int.tmod (IntKind.u64.wrap ((IntKind.u64.wrap ((IntKind.u64.wrap (ac + 4294967296)) - ad)) - af)) 4294967296) % 4294967296]) := ⟨_, rfl⟩
     replace H : (codewrightref01_Sub.l0 k1 l0 l1 ah (IntKind.u64.wrap (1 - (IntKind.u64.wrap (Int.tdiv (IntKind.u64.wrap ((IntKind.u64.wrap ((IntKind.u64.wrap (ac + 4294967296)) - ad)) - af)) 4294967296)))) (wrap64 (aa + 1))) = some r := by first | (rw [ab]; with_reducible exact H) | (have H2_ := (Option.bind_some _ _).symm.trans H; rw [ab]; with_reducible exact H2_) | (have H2_ := (Option.bind_some _ _).symm.trans H; with_reducible exact H2_) | with_reducible exact H | (rw [ab]; exact H) | exact H
     have aj := am ab
     clear ab
     have H' := am H
     clear H
     go_wp2_with (first | ((with_reducible refine gate_callee (f := 143) rfl ?_); refine goesL_ (some 17) rfl rfl Try.func143 (by kernel_rfl) rfl #[.slice A0 l0.length c0, .int .i64 aa] rfl lu ?_; (with_reducible refine (codewrightref01_limb.calls _ _ l0 aa ac _ ?side1 ?side2 A4.out).mono ?_); (case side1 => repeat (first | exact (Kd.C_below aw.out HB.out) | (with_reducible refine Kd.C_alloc ?_ _) | (with_reducible refine Kd.C_drewN ?_ _) | (with_reducible refine Kd.C_drew ?_))); (case side2 => first | exact ap.out | exact vz ap.out); rintro e w' ⟨rfl, ⟨nd, rfl⟩⟩; refine ⟨_, rfl, ?_⟩) | ((with_reducible refine gate_callee (f := 143) rfl ?_); refine goesL_ (some 21) rfl rfl Try.func143 (by kernel_rfl) rfl #[.slice A1 l1.length c1, .int .i64 aa] rfl lu ?_; (with_reducible refine (codewrightref01_limb.calls _ _ l1 aa ad _ ?side1 ?side2 A5.out).mono ?_); (case side1 => repeat (first | exact (Kd.C_below ax.out (bu HB.out)) | (with_reducible refine Kd.C_alloc ?_ _) | (with_reducible refine Kd.C_drewN ?_ _) | (with_reducible refine Kd.C_drew ?_))); (case side2 => first | exact aq.out | exact vz aq.out); rintro e w' ⟨rfl, ⟨nd, rfl⟩⟩; refine ⟨_, rfl, ?_⟩) | ((with_reducible refine gate_builtin (b := .append) (xs := #[.tmp 25, .tmp 29]) rfl ?_); at_builtin; refine Kd.R_append (Kd.int .u32) (w0 := w) w.heap.size rfl (.tmp 25) (.tmp 29) 42 48 (.int .u32 0) 4 rfl Try.underlying42 info48 rfl (by decide) (by omega) u5 ae ((Int.tmod (IntKind.u64.wrap ((IntKind.u64.wrap ((IntKind.u64.wrap (ac + 4294967296)) - ad)) - af)) 4294967296) % 4294967296) [.int .u32 ((Int.tmod (IntKind.u64.wrap ((IntKind.u64.wrap ((IntKind.u64.wrap (ac + 4294967296)) - ad)) - af)) 4294967296) % 4294967296)] (fun _ => True) (fun _ => False) rfl rfl ?aP (fun _ hk => hk.elim) ?aF ?aO ?aB ?aS ?aL ?_; (case aP => exact rfl); (case aB => exact (bu HB.out)); (case aF => exact (fun _ _ => trivial)); (case aO => exact (by (with_reducible repeat (first | apply Kd.R_alloc | apply Kd.R_drewN | apply Kd.R_drew)); exact ag.out)); (case aS => exact (below_size (bu HB.out))); (case aL => have := LMc6.out; omega); intro au w7 ho hb hg hat; rw [← aj.out] at ho; replace HB := am (hb); have ak := am (ho); clear ag ho hb hg hat))
     go_roundg k1
     case measure => have := HK1.out; omega
     case rel => exact ⟨(ah), (IntKind.u64.wrap (1 - (IntKind.u64.wrap (Int.tdiv (IntKind.u64.wrap ((IntKind.u64.wrap ((IntKind.u64.wrap (ac + 4294967296)) - ad)) - af)) 4294967296)))), (wrap64 (aa + 1)), (by first | rfl | (simp; done) | (simp [*]; done)), (by first | rfl | (simp; done) | (simp [*]; done)), H', ⟨by have := HK1.out; omega⟩, ⟨by (with_reducible repeat (first | apply Kd.R_alloc | apply Kd.R_drewN | apply Kd.R_drew)); exact ak.out⟩, ⟨by repeat (first | (with_reducible first | exact HB.out | apply below_alloc | apply pw_below_drewN | apply below_drew1) | exact HB.out)⟩⟩
    ·
     rw [if_neg c6] at H
     exact absurd H (by simp)
   ·
    rw [if_neg c3] at H
    have an : decide (aa < (l0.length : Int)) = false := decide_eq_false c3
    clear c3
    obtain ⟨ai, A8, H⟩ := bs H
    replace H : (some ai) = some r := H
    obtain rfl := Option.some.inj H
    obtain ⟨ay, az, aA⟩ := Kd.R_slice ag.out
    subst aA
    go_wp2_with (first | ((with_reducible refine gate_callee (f := 144) rfl ?_); refine goesL_ (some 35) rfl rfl Try.func144 (by kernel_rfl) rfl #[.slice ay ae.length az] rfl lu ?_; (with_reducible refine (codewrightref01_Trim.calls k1 _ _ ae ai _ ?side1 ?side2 A8.out).mono ?_); (case side1 => exact cu (Kd.R_reads' ag.out).2.2); (case side2 => exact (Kd.R_reads' ag.out).2.1); rintro e aC ⟨av, rfl, ao, hb⟩; refine ⟨_, rfl, ?_⟩; have al := am (Kd.R_lower (Kd.R_new' ao (Kd.R_lt (by (with_reducible repeat (first | apply Kd.R_alloc | apply Kd.R_drewN | apply Kd.R_drew)); exact ag.out))) (below_size (bu HB.out))); replace ag := am (Kd.R_elder' (by (with_reducible repeat (first | apply Kd.R_alloc | apply Kd.R_drewN | apply Kd.R_drew)); exact ag.out) (Kd.R_base ao) hb); replace HB := be HB hb; (try clear hb); (try clear ao)))
    go_ret
    exact ⟨_, by first | rfl | (simp [errW_none, errW_some] <;> rfl) | (simp [*, errW_none, errW_some] <;> rfl), by (with_reducible repeat (first | apply Kd.R_alloc | apply Kd.R_drewN | apply Kd.R_drew)); exact Kd.R_mono al.out (fun _ hk => trivial), by repeat (first | (with_reducible first | exact HB.out | apply below_alloc | apply pw_below_drewN | apply below_drew1) | exact HB.out)⟩
def codewrightref01_Bits.l0 : Nat → Int → Int → Option (Int)
 | 0, _, _ => none
 | k + 1, x3, x4 => if x4 > 0 then (codewrightref01_Bits.l0 k (wrap64 (x3 + 1)) ((Int.tdiv x4 2) % 4294967296)) else (some x3)
def codewrightref01_Bits.f (k : Nat) (l0 : List Int) : Option (Int) := (codewrightref01_Trim.f k l0).bind fun t1052 => (if (t1052.length : Int) = 0 then (some 0) else (if 0 ≤ (wrap64 ((t1052.length : Int) - 1)) then (if (wrap64 ((t1052.length : Int) - 1)) < (t1052.length : Int) then (codewrightref01_Bits.l0 k (wrap64 (32 * (wrap64 ((t1052.length : Int) - 1)))) (rd t1052 (wrap64 ((t1052.length : Int) - 1)))) else (none)) else (none)))
theorem codewrightref01_Bits.calls (k : Nat) (A0 : Option Addr) (c0 : Nat) (l0 : List Int) (r : Int) (w : World) (hr0 : Kd.C (Kd.int .u32) w A0 l0.length l0) (hc0 : l0.length ≤ c0) (h : codewrightref01_Bits.f k l0 = some r) :
 Calls Try.prog 183 #[.slice A0 l0.length c0] w fun e w' => e = .returned (.int .i64 r) ∧ Below w.heap.size w w' := by
 have au := am hr0
 have al := am hc0
 clear hr0 hc0
 have HB := am (Below.refl w.heap.size w)
 have H : ((codewrightref01_Trim.f k l0).bind fun aa => (if (aa.length : Int) = 0 then (some 0) else (if 0 ≤ (wrap64 ((aa.length : Int) - 1)) then (if (wrap64 ((aa.length : Int) - 1)) < (aa.length : Int) then (codewrightref01_Bits.l0 k (wrap64 (32 * (wrap64 ((aa.length : Int) - 1)))) (rd aa (wrap64 ((aa.length : Int) - 1)))) else (none)) else (none)))) = some r := h
 clear h
 obtain ⟨aa, A2, H⟩ := bs H
 (try dsimp -simprocs only at H)
 by_cases c3 : (aa.length : Int) = 0
 ·
  rw [if_pos c3] at H
  have ag : ((aa.length : Int) == 0) = true := beq_iff_eq.mpr c3
  have ah : ((aa.length : Int) != 0) = false := bne_eq_false_iff_eq.mpr c3
  clear c3
  obtain rfl := Option.some.inj H
  go_enter Try.func183, Try.ntmps183
  go_wp2_with (first | ((with_reducible refine gate_callee (f := 144) rfl ?_); refine goesL_ (some 6) rfl rfl Try.func144 (by kernel_rfl) rfl #[.slice A0 l0.length c0] rfl lu ?_; (with_reducible refine (codewrightref01_Trim.calls k _ _ l0 aa _ ?side1 ?side2 A2.out).mono ?_); (case side1 => repeat (first | exact au.out | (with_reducible refine Kd.C_alloc ?_ _) | (with_reducible refine Kd.C_drewN ?_ _) | (with_reducible refine Kd.C_drew ?_))); (case side2 => first | exact al.out | exact vz al.out); rintro e w4 ⟨ai, rfl, aj, hb⟩; refine ⟨_, rfl, ?_⟩; have ab := am (Kd.R_lower aj (below_size (bu HB.out))); replace HB := be HB hb; (try clear hb); (try clear aj); obtain ⟨ay, az, av⟩ := Kd.R_slice ab.out; subst av))
  go_ret
  exact ⟨by first | rfl | (simp [errW_none, errW_some] <;> rfl) | (simp [*, errW_none, errW_some] <;> rfl), by repeat (first | (with_reducible first | exact HB.out | apply below_alloc | apply pw_below_drewN | apply below_drew1) | exact HB.out)⟩
 ·
  rw [if_neg c3] at H
  have ag : ((aa.length : Int) == 0) = false := beq_eq_false_iff_ne.mpr c3
  have ah : ((aa.length : Int) != 0) = true := bne_iff_ne.mpr c3
  have an : ¬ (aa = []) := fun h_ => c3 (by rw [h_]; rfl)
  obtain ⟨ji6, hji6⟩ : ∃ j_ : Int, (wrap64 ((aa.length : Int) - 1)) = j_ := ⟨_, rfl⟩
  replace H : (if 0 ≤ (ji6) then (if (ji6) < (aa.length : Int) then (codewrightref01_Bits.l0 k (wrap64 (32 * (ji6))) (rd aa (ji6))) else (none)) else (none)) = some r := by first | (rw [hji6] at H; exact H) | (simp only [hji6] at H ⊢; exact H)
  (try rw [hji6] at A2)
  have hji6w : (IntKind.i64.wrap ((aa.length : Int) - 1)) = ji6 := (i64_w _).trans hji6
  by_cases c7 : 0 ≤ (ji6)
  ·
   rw [if_pos c7] at H
   have ao : decide (0 ≤ (ji6)) = true := decide_eq_true c7
   clear c7
   by_cases c8 : (ji6) < (aa.length : Int)
   ·
    rw [if_pos c8] at H
    have ap : decide ((ji6) < (aa.length : Int)) = true := decide_eq_true c8
    clear c8
    have H' := am H
    clear H
    go_enter Try.func183, Try.ntmps183
    go_wp2_with (first | ((with_reducible refine gate_callee (f := 144) rfl ?_); refine goesL_ (some 6) rfl rfl Try.func144 (by kernel_rfl) rfl #[.slice A0 l0.length c0] rfl lu ?_; (with_reducible refine (codewrightref01_Trim.calls k _ _ l0 aa _ ?side1 ?side2 A2.out).mono ?_); (case side1 => repeat (first | exact au.out | (with_reducible refine Kd.C_alloc ?_ _) | (with_reducible refine Kd.C_drewN ?_ _) | (with_reducible refine Kd.C_drew ?_))); (case side2 => first | exact al.out | exact vz al.out); rintro e w9 ⟨ai, rfl, aj, hb⟩; refine ⟨_, rfl, ?_⟩; have ab := am (Kd.R_lower aj (below_size (bu HB.out))); replace HB := be HB hb; (try clear hb); (try clear aj); obtain ⟨aw, ax, aq⟩ := Kd.R_slice ab.out; subst aq; have p1055 : 0 ≤ ((ji6) : Int) := of_decide_eq_true (by first | (with_reducible assumption) | assumption); have q1055 : (ji6) < (aa.length : Int) := of_decide_eq_true (by first | (with_reducible assumption) | assumption); obtain ⟨ad1055, e1055, ad⟩ := Kd.at_int (Kd.R_reads' ab.out).2.2 (ji6) p1055 q1055; cases e1055; replace p1055 := eq_true p1055; replace q1055 := eq_true q1055))
    go_loopg [3, 4] k (fun kq v3 v4 w' => ∃ (ae : Int) (ac : Int), v3 = .int .i64 ae ∧ v4 = .int .u32 ac ∧ Aside0 (codewrightref01_Bits.l0 kq ae ac = some r) ∧ Aside0 (kq ≤ k) ∧ Aside0 (Below w.heap.size w w'))
    case atStart => exact ⟨(wrap64 (32 * (ji6))), (rd aa (ji6)), (by first | rfl | (simp; done) | (simp only [← hji6] <;> (first | rfl | simp)) | (simp [*]; done)), (by first | rfl | (simp; done) | (simp only [← hji6] <;> (first | rfl | simp)) | (simp [*]; done)), H', ⟨Nat.le_refl _⟩, ⟨by repeat (first | (with_reducible first | exact HB.out | apply below_alloc | apply pw_below_drewN | apply below_drew1) | exact HB.out)⟩⟩
    case round =>
     clear H'
     try clear c1
     try clear p1
     try clear q1
     try clear hx1
     try clear p2
     try clear c3
     try clear ag
     try clear ah
     try clear an
     try clear p6
     try clear c7
     try clear ao
     try clear c8
     try clear ap
     try clear p10
     try clear q10
     try clear hx10
     try clear ad
     try clear p1055
     try clear q1055
     obtain ⟨ae, ac, rfl, rfl, HA, HK1, HB⟩ := hrel
     cases gk with
     | zero => exact absurd HA.out (by simp [codewrightref01_Bits.l0])
     | succ k1 =>
      have H := HA.out
      clear HA
      simp only [codewrightref01_Bits.l0] at H
      by_cases af : ac > 0
      ·
       rw [if_pos af] at H
       have ak : decide (0 < ac) = true := decide_eq_true af
       clear af
       have H' := am H
       clear H
       go_wp2
       go_roundg k1
       case measure => have := HK1.out; omega
       case rel => exact ⟨(wrap64 (ae + 1)), ((Int.tdiv ac 2) % 4294967296), (by first | rfl | (simp; done) | (simp [*]; done)), (by first | rfl | (simp; done) | (simp [*]; done)), H', ⟨by have := HK1.out; omega⟩, ⟨by repeat (first | (with_reducible first | exact HB.out | apply below_alloc | apply pw_below_drewN | apply below_drew1) | exact HB.out)⟩⟩
      ·
       rw [if_neg af] at H
       have ak : decide (0 < ac) = false := decide_eq_false af
       clear af
       obtain rfl := Option.some.inj H
       go_wp2
       go_ret
       exact ⟨by first | rfl | (simp [errW_none, errW_some] <;> rfl) | (simp only [← hji6]; first | rfl | (simp [errW_none, errW_some] <;> rfl)) | (simp [*, errW_none, errW_some] <;> rfl), by repeat (first | (with_reducible first | exact HB.out | apply below_alloc | apply pw_below_drewN | apply below_drew1) | exact HB.out)⟩
   ·
    rw [if_neg c8] at H
    exact absurd H (by simp)
  ·
   rw [if_neg c7] at H
   exact absurd H (by simp)
def codewrightref01_shift.l0 : Nat → List Int → Int → List Int → Int → Int → Option (List Int)
 | 0, _, _, _, _, _ => none
 | k + 1, x0, x1, x5, x6, x7 => if x7 < (x0.length : Int) then (if 0 ≤ x7 then (if 0 ≤ (Int.tmod x1 32) then (if x5.length < 35184372088832 then (codewrightref01_shift.l0 k x0 x1 (x5 ++ [(Int.tmod (IntKind.u64.wrap ((shl .u64 (IntKind.u64.wrap (rd x0 x7)) (Int.tmod x1 32)) + x6)) 4294967296) % 4294967296]) (IntKind.u64.wrap (Int.tdiv (IntKind.u64.wrap ((shl .u64 (IntKind.u64.wrap (rd x0 x7)) (Int.tmod x1 32)) + x6)) 4294967296)) (wrap64 (x7 + 1))) else (none)) else (none)) else (none)) else (if x5.length < 35184372088832 then ((codewrightref01_Trim.f k (x5 ++ [(x6) % 4294967296])).bind fun t1066 => (some t1066)) else (none))
def codewrightref01_shift.f (k : Nat) (l0 : List Int) (a1 : Int) : Option (List Int) := if 0 ≤ (wrap64 (Int.tdiv a1 32)) then (if (wrap64 (Int.tdiv a1 32) : Int).toNat ≤ 70368744177664 then (codewrightref01_shift.l0 k l0 a1 (List.replicate (wrap64 (Int.tdiv a1 32) : Int).toNat 0) 0 0) else (none)) else (none)
theorem codewrightref01_shift.calls (k : Nat) (A0 : Option Addr) (c0 : Nat) (l0 : List Int) (a1 : Int) (r : List Int) (w : World) (hr0 : Kd.C (Kd.int .u32) w A0 l0.length l0) (hc0 : l0.length ≤ c0) (h : codewrightref01_shift.f k l0 a1 = some r) :
 Calls Try.prog 184 #[.slice A0 l0.length c0, .int .i64 a1] w fun e w' => ∃ v0_ : Value, e = .returned (v0_) ∧ Kd.R (Kd.int .u32) 48 w' w.heap.size (fun _ => True) v0_ r ∧ Below w.heap.size w w' := by
 have aW := am hr0
 have aZ := am hc0
 clear hr0 hc0
 have HB := am (Below.refl w.heap.size w)
 have H : (if 0 ≤ (wrap64 (Int.tdiv a1 32)) then (if (wrap64 (Int.tdiv a1 32) : Int).toNat ≤ 70368744177664 then (codewrightref01_shift.l0 k l0 a1 (List.replicate (wrap64 (Int.tdiv a1 32) : Int).toNat 0) 0 0) else (none)) else (none)) = some r := h
 clear h
 obtain ⟨ji3, hji3⟩ : ∃ j_ : Int, (wrap64 (Int.tdiv a1 32)) = j_ := ⟨_, rfl⟩
 replace H : (if 0 ≤ (ji3) then (if (ji3 : Int).toNat ≤ 70368744177664 then (codewrightref01_shift.l0 k l0 a1 (List.replicate (ji3 : Int).toNat 0) 0 0) else (none)) else (none)) = some r := by first | (rw [hji3] at H; exact H) | (simp only [hji3] at H ⊢; exact H)
 have hji3w : (IntKind.i64.wrap (Int.tdiv a1 32)) = ji3 := (i64_w _).trans hji3
 by_cases c4 : 0 ≤ (ji3)
 ·
  rw [if_pos c4] at H
  have aC := eq_true c4
  have aD : decide (0 ≤ (ji3)) = true := decide_eq_true c4
  clear c4
  by_cases c5 : (ji3 : Int).toNat ≤ 70368744177664
  ·
   rw [if_pos c5] at H
   have aE := eq_true c5
   have aG : decide ((ji3 : Int).toNat ≤ 70368744177664) = true := decide_eq_true c5
   clear c5
   obtain ⟨an, ae⟩ : ∃ y_ : List Int, y_ = (List.replicate (ji3 : Int).toNat 0) := ⟨_, rfl⟩
   replace H : (codewrightref01_shift.l0 k l0 a1 an 0 0) = some r := by first | (rw [ae]; with_reducible exact H) | (have H2_ := (Option.bind_some _ _).symm.trans H; rw [ae]; with_reducible exact H2_) | (have H2_ := (Option.bind_some _ _).symm.trans H; with_reducible exact H2_) | with_reducible exact H | (rw [ae]; exact H) | exact H
   have aj := am ae
   clear ae
   have H' := am H
   clear H
   go_enter Try.func184, Try.ntmps184
   go_wp2_with (first | ((with_reducible refine gate_dst (N := 11) rfl ?_); refine Kd.R_make (Kd.int .u32) _ 48 rfl (N := 11) rfl 42 _ _ rfl ji3 rfl rfl Try.underlying42 (.int .u32 0) 4 info48 rfl (by decide) (by omega) 0 (ok := fun _ => True) (okp := fun _ => True) rfl (fun _ hk => hk) trivial (of_decide_eq_true (by first | (with_reducible assumption) | assumption)) (Nat.le_trans (Nat.mul_le_mul_right _ (of_decide_eq_true (by first | (with_reducible assumption) | assumption) : ji3.toNat ≤ 70368744177664)) (by omega)) (Below.refl _ _) (Nat.le_refl _) ?_; intro aN w6 ax hb hg_ hnew_; clear hg_ hnew_; (first | rw [← aj.out] at ax | (simp only [Int.reduceToNat] at ax; rw [← aj.out] at ax)); have ap := am (Kd.R_lower ax (below_size (bu HB.out))); replace HB := be HB hb; clear hb ax))
   go_loopg [5, 6, 7] k (fun kq v5 v6 v7 w' => ∃ (ac : List Int) (ab : Int) (aa : Int), v6 = .int .u64 ab ∧ v7 = .int .i64 aa ∧ Aside0 (codewrightref01_shift.l0 kq l0 a1 ac ab aa = some r) ∧ Aside0 (kq ≤ k) ∧ Aside0 (Kd.R (Kd.int .u32) 48 w' w.heap.size (fun _ => True) v5 ac) ∧ Aside0 (Below w.heap.size w w'))
   case atStart => exact ⟨(an), (0), (0), (by first | rfl | (simp; done) | (simp [*]; done)), (by first | rfl | (simp; done) | (simp [*]; done)), H', ⟨Nat.le_refl _⟩, ⟨by (with_reducible repeat (first | apply Kd.R_alloc | apply Kd.R_drewN | apply Kd.R_drew)); exact ap.out⟩, ⟨by repeat (first | (with_reducible first | exact HB.out | apply below_alloc | apply pw_below_drewN | apply below_drew1) | exact HB.out)⟩⟩
   case round =>
    clear H'
    try clear c1
    try clear p2
    try clear c4
    try clear aC
    try clear aD
    try clear c5
    try clear aE
    try clear aG
    try clear p6
    obtain ⟨ac, ab, aa, rfl, rfl, HA, HK1, al, HB⟩ := hrel
    cases gk with
    | zero => exact absurd HA.out (by simp [codewrightref01_shift.l0])
    | succ k1 =>
     have H := HA.out
     clear HA
     simp only [codewrightref01_shift.l0] at H
     by_cases c8 : aa < (l0.length : Int)
     ·
      rw [if_pos c8] at H
      have aH : decide (aa < (l0.length : Int)) = true := decide_eq_true c8
      clear c8
      by_cases c9 : 0 ≤ aa
      ·
       rw [if_pos c9] at H
       have aX : decide (0 ≤ aa) = true := decide_eq_true c9
       clear c9
       obtain ⟨ji10, hji10⟩ : ∃ j_ : Int, (Int.tmod a1 32) = j_ := ⟨_, rfl⟩
       replace H : (if 0 ≤ (ji10) then (if ac.length < 35184372088832 then (codewrightref01_shift.l0 k1 l0 a1 (ac ++ [(Int.tmod (IntKind.u64.wrap ((shl .u64 (IntKind.u64.wrap (rd l0 aa)) (ji10)) + ab)) 4294967296) % 4294967296]) (IntKind.u64.wrap (Int.tdiv (IntKind.u64.wrap ((shl .u64 (IntKind.u64.wrap (rd l0 aa)) (ji10)) + ab)) 4294967296)) (wrap64 (aa + 1))) else (none)) else (none)) = some r := by first | (rw [hji10] at H; exact H) | (simp only [hji10] at H ⊢; exact H)
       by_cases ay : 0 ≤ (ji10)
       ·
        rw [if_pos ay] at H
        have aQ := eq_true ay
        have aR : decide (0 ≤ (ji10)) = true := decide_eq_true ay
        clear ay
        obtain ⟨ji12, hji12⟩ : ∃ j_ : Int, (shl .u64 (IntKind.u64.wrap (rd l0 aa)) (ji10)) = j_ := ⟨_, rfl⟩
        replace H : (if ac.length < 35184372088832 then (codewrightref01_shift.l0 k1 l0 a1 (ac ++ [(Int.tmod (IntKind.u64.wrap ((ji12) + ab)) 4294967296) % 4294967296]) (IntKind.u64.wrap (Int.tdiv (IntKind.u64.wrap ((ji12) + ab)) 4294967296)) (wrap64 (aa + 1))) else (none)) = some r := by first | (rw [hji12] at H; exact H) | (simp only [hji12] at H ⊢; exact H)
        have hji12_ : (IntKind.u64.wrap ((IntKind.u64.wrap (rd l0 aa)) * 2 ^ min (ji10).toNat 64)) = ji12 := hji12
        have hji12z : (ji10) ≤ 64 → (IntKind.u64.wrap ((IntKind.u64.wrap (rd l0 aa)) * 2 ^ (ji10).toNat)) = ji12 := shl_small hji12
        by_cases az : ac.length < 35184372088832
        ·
         rw [if_pos az] at H
         have LMc13 := am az
         clear az
         obtain ⟨ao, af⟩ : ∃ y_ : List Int, y_ = (ac ++ [(Int.tmod (IntKind.u64.wrap ((ji12) + ab)) 4294967296) % 4294967296]) := ⟨_, rfl⟩
         replace H : (codewrightref01_shift.l0 k1 l0 a1 ao (IntKind.u64.wrap (Int.tdiv (IntKind.u64.wrap ((ji12) + ab)) 4294967296)) (wrap64 (aa + 1))) = some r := by first | (rw [af]; with_reducible exact H) | (have H2_ := (Option.bind_some _ _).symm.trans H; rw [af]; with_reducible exact H2_) | (have H2_ := (Option.bind_some _ _).symm.trans H; with_reducible exact H2_) | with_reducible exact H | (rw [af]; exact H) | exact H
         have aq := am af
         clear af
         have H' := am H
         clear H
         have p1059 : 0 ≤ (aa : Int) := of_decide_eq_true (by first | (with_reducible assumption) | assumption)
         have q1059 : aa < (l0.length : Int) := of_decide_eq_true (by first | (with_reducible assumption) | assumption)
         obtain ⟨ad1059, e1059, ag⟩ := Kd.at_int aW.out aa p1059 q1059
         cases e1059
         replace ag := (HB.out.cell (World.block_lt_of_cell? w _ ag)).trans ag
         replace p1059 := eq_true p1059
         replace q1059 := eq_true q1059
         go_wp2_with (first | ((with_reducible refine gate_builtin (b := .append) (xs := #[.tmp 28, .tmp 32]) rfl ?_); at_builtin; refine Kd.R_append (Kd.int .u32) (w0 := w) w.heap.size rfl (.tmp 28) (.tmp 32) 42 48 (.int .u32 0) 4 rfl Try.underlying42 info48 rfl (by decide) (by omega) u5 ac ((Int.tmod (IntKind.u64.wrap ((ji12) + ab)) 4294967296) % 4294967296) [.int .u32 ((Int.tmod (IntKind.u64.wrap ((ji12) + ab)) 4294967296) % 4294967296)] (fun _ => True) (fun _ => False) rfl rfl ?aP (fun _ hk => hk.elim) ?aF ?aO ?aB ?aS ?aL ?_; (case aP => exact rfl); (case aB => exact (bu HB.out)); (case aF => exact (fun _ _ => trivial)); (case aO => exact (by (with_reducible repeat (first | apply Kd.R_alloc | apply Kd.R_drewN | apply Kd.R_drew)); exact al.out)); (case aS => exact (below_size (bu HB.out))); (case aL => have := LMc13.out; omega); intro aT a0 ho hb hg hat; rw [← aq.out] at ho; replace HB := am (hb); have au := am (ho); clear al ho hb hg hat))
         go_roundg k1
         case measure => have := HK1.out; omega
         case rel => exact ⟨(ao), (IntKind.u64.wrap (Int.tdiv (IntKind.u64.wrap ((ji12) + ab)) 4294967296)), (wrap64 (aa + 1)), (by first | rfl | (simp; done) | (simp only [← hji12] <;> (first | rfl | simp)) | (simp [*]; done)), (by first | rfl | (simp; done) | (simp [*]; done)), H', ⟨by have := HK1.out; omega⟩, ⟨by (with_reducible repeat (first | apply Kd.R_alloc | apply Kd.R_drewN | apply Kd.R_drew)); exact au.out⟩, ⟨by repeat (first | (with_reducible first | exact HB.out | apply below_alloc | apply pw_below_drewN | apply below_drew1) | exact HB.out)⟩⟩
        ·
         rw [if_neg az] at H
         exact absurd H (by simp)
       ·
        rw [if_neg ay] at H
        exact absurd H (by simp)
      ·
       rw [if_neg c9] at H
       exact absurd H (by simp)
     ·
      rw [if_neg c8] at H
      have aH : decide (aa < (l0.length : Int)) = false := decide_eq_false c8
      clear c8
      by_cases aA : ac.length < 35184372088832
      ·
       rw [if_pos aA] at H
       have LMc15 := am aA
       clear aA
       obtain ⟨ak, ah⟩ : ∃ y_ : List Int, y_ = (ac ++ [(ab) % 4294967296]) := ⟨_, rfl⟩
       replace H : ((codewrightref01_Trim.f k1 ak).bind fun ai => (some ai)) = some r := by first | (rw [ah]; with_reducible exact H) | (have H2_ := (Option.bind_some _ _).symm.trans H; rw [ah]; with_reducible exact H2_) | (have H2_ := (Option.bind_some _ _).symm.trans H; with_reducible exact H2_) | with_reducible exact H | (rw [ah]; exact H) | exact H
       have av := am ah
       clear ah
       obtain ⟨ai, aY, H⟩ := bs H
       replace H : (some ai) = some r := H
       obtain rfl := Option.some.inj H
       go_wp2_with (first | ((with_reducible refine gate_builtin (b := .append) (xs := #[.tmp 36, .tmp 39]) rfl ?_); at_builtin; refine Kd.R_append (Kd.int .u32) (w0 := w) w.heap.size rfl (.tmp 36) (.tmp 39) 42 48 (.int .u32 0) 4 rfl Try.underlying42 info48 rfl (by decide) (by omega) u5 ac ((ab) % 4294967296) [.int .u32 ((ab) % 4294967296)] (fun _ => True) (fun _ => False) rfl rfl ?aP (fun _ hk => hk.elim) ?aF ?aO ?aB ?aS ?aL ?_; (case aP => exact rfl); (case aB => exact (bu HB.out)); (case aF => exact (fun _ _ => trivial)); (case aO => exact (by (with_reducible repeat (first | apply Kd.R_alloc | apply Kd.R_drewN | apply Kd.R_drew)); exact al.out)); (case aS => exact (below_size (bu HB.out))); (case aL => have := LMc15.out; omega); intro aU a2 ho hb hg hat; rw [← av.out] at ho; replace HB := am (hb); have ad := am (ho); clear al ho hb hg hat; obtain ⟨aI, aJ, aK⟩ := Kd.R_slice ad.out; subst aK) | ((with_reducible refine gate_callee (f := 144) rfl ?_); refine goesL_ (some 41) rfl rfl Try.func144 (by kernel_rfl) rfl #[.slice aI ak.length aJ] rfl lu ?_; (with_reducible refine (codewrightref01_Trim.calls k1 _ _ ak ai _ ?side1 ?side2 aY.out).mono ?_); (case side1 => exact cu (Kd.R_reads' ad.out).2.2); (case side2 => exact (Kd.R_reads' ad.out).2.1); rintro e a3 ⟨aV, rfl, aM, hb⟩; refine ⟨_, rfl, ?_⟩; have aw := am (Kd.R_lower (Kd.R_new' aM (Kd.R_lt (by (with_reducible repeat (first | apply Kd.R_alloc | apply Kd.R_drewN | apply Kd.R_drew)); exact ad.out))) (below_size (bu HB.out))); replace ad := am (Kd.R_elder' (by (with_reducible repeat (first | apply Kd.R_alloc | apply Kd.R_drewN | apply Kd.R_drew)); exact ad.out) (Kd.R_base aM) hb); replace HB := be HB hb; (try clear hb); (try clear hk); (try clear aM)))
       go_ret
       exact ⟨_, by first | rfl | (simp [errW_none, errW_some] <;> rfl) | (simp only [← hji3]; first | rfl | (simp [errW_none, errW_some] <;> rfl)) | (simp [*, errW_none, errW_some] <;> rfl), by (with_reducible repeat (first | apply Kd.R_alloc | apply Kd.R_drewN | apply Kd.R_drew)); exact Kd.R_mono aw.out (fun _ hk => trivial), by repeat (first | (with_reducible first | exact HB.out | apply below_alloc | apply pw_below_drewN | apply below_drew1) | exact HB.out)⟩
      ·
       rw [if_neg aA] at H
       exact absurd H (by simp)
  ·
   rw [if_neg c5] at H
   exact absurd H (by simp)
 ·
  rw [if_neg c4] at H
  exact absurd H (by simp)
def codewrightref01_DivMod.l0 : Nat → List Int → List Int → List Int → Int → Option (List Int × List Int)
 | 0, _, _, _, _ => none
 | k + 1, x1, x4, x5, x7 => if x7 ≥ 0 then ((codewrightref01_shift.f k x1 x7).bind fun t1077 => ((codewrightref01_Cmp.f k x5 t1077).bind fun t1080 => (if t1080 ≥ 0 then ((codewrightref01_Sub.f k x5 t1077).bind fun t1081 => ((codewrightref01_shift.f k (([1] : List Int)) x7).bind fun t1087 => ((codewrightref01_Add.f k x4 t1087).bind fun t1090 => (codewrightref01_DivMod.l0 k x1 t1090 t1081 (wrap64 (x7 - 1)))))) else (codewrightref01_DivMod.l0 k x1 x4 x5 (wrap64 (x7 - 1)))))) else ((codewrightref01_Trim.f k x4).bind fun t1074 => (some (t1074, x5)))
def codewrightref01_DivMod.f (k : Nat) (l0 : List Int) (l1 : List Int) : Option (List Int × List Int) := (codewrightref01_Trim.f k l0).bind fun t1069 => ((codewrightref01_Bits.f k l0).bind fun t1072 => ((codewrightref01_Bits.f k l1).bind fun t1073 => (codewrightref01_DivMod.l0 k l1 ([] : List Int) t1069 (wrap64 (t1072 - t1073)))))
theorem codewrightref01_DivMod.calls (k : Nat) (A0 : Option Addr) (c0 : Nat) (l0 : List Int) (A1 : Option Addr) (c1 : Nat) (l1 : List Int) (r1 : List Int) (r2 : List Int) (w : World) (hr0 : Kd.C (Kd.int .u32) w A0 l0.length l0) (hc0 : l0.length ≤ c0) (hr1 : Kd.C (Kd.int .u32) w A1 l1.length l1) (hc1 : l1.length ≤ c1) (h : codewrightref01_DivMod.f k l0 l1 = some (r1, r2)) :
 Calls Try.prog 157 #[.slice A0 l0.length c0, .slice A1 l1.length c1] w fun e w' => ∃ v0_ v1_ : Value, e = .returned (.tuple #[v0_, v1_]) ∧ Kd.R (Kd.int .u32) 48 w' w.heap.size (fun k_ => some k_ ≠ (v1_ : Value).ownBlock) v0_ r1 ∧ Kd.R (Kd.int .u32) 48 w' w.heap.size (fun k_ => some k_ ≠ (v0_ : Value).ownBlock) v1_ r2 ∧ Below w.heap.size w w' := by
 have a9 := am hr0
 have aM := am hc0
 clear hr0 hc0
 have aN := am hr1
 have aE := am hc1
 clear hr1 hc1
 have HB := am (Below.refl w.heap.size w)
 have H : ((codewrightref01_Trim.f k l0).bind fun aq => ((codewrightref01_Bits.f k l0).bind fun au => ((codewrightref01_Bits.f k l1).bind fun av => (codewrightref01_DivMod.l0 k l1 ([] : List Int) aq (wrap64 (au - av)))))) = some (r1, r2) := h
 clear h
 obtain ⟨aq, A3, H⟩ := bs H
 (try dsimp -simprocs only at H)
 obtain ⟨au, A4, H⟩ := bs H
 (try dsimp -simprocs only at H)
 obtain ⟨av, A5, H⟩ := bs H
 (try dsimp -simprocs only at H)
 have H' := am H
 clear H
 go_enter Try.func157, Try.ntmps157
 go_wp2_with (first | ((with_reducible refine gate_callee (f := 144) rfl ?_); refine goesL_ (some 10) rfl rfl Try.func144 (by kernel_rfl) rfl #[.slice A0 l0.length c0] rfl lu ?_; (with_reducible refine (codewrightref01_Trim.calls k _ _ l0 aq _ ?side1 ?side2 A3.out).mono ?_); (case side1 => repeat (first | exact a9.out | (with_reducible refine Kd.C_alloc ?_ _) | (with_reducible refine Kd.C_drewN ?_ _) | (with_reducible refine Kd.C_drew ?_))); (case side2 => first | exact aM.out | exact vz aM.out); rintro e w6 ⟨ba, rfl, ae, hb⟩; refine ⟨_, rfl, ?_⟩; have aj := am (Kd.R_lower ae (below_size (bu HB.out))); replace HB := be HB hb; (try clear hb); (try clear ae)) | ((with_reducible refine gate_callee (f := 183) rfl ?_); refine goesL_ (some 12) rfl rfl Try.func183 (by kernel_rfl) rfl #[.slice A0 l0.length c0] rfl lu ?_; (with_reducible refine (codewrightref01_Bits.calls k _ _ l0 au _ ?side1 ?side2 A4.out).mono ?_); (case side1 => repeat (first | exact (Kd.C_below a9.out HB.out) | (with_reducible refine Kd.C_alloc ?_ _) | (with_reducible refine Kd.C_drewN ?_ _) | (with_reducible refine Kd.C_drew ?_))); (case side2 => first | exact aM.out | exact vz aM.out); rintro e w7 ⟨rfl, hb⟩; refine ⟨_, rfl, ?_⟩; replace aj := am (Kd.R_below (by (with_reducible repeat (first | apply Kd.R_alloc | apply Kd.R_drewN | apply Kd.R_drew)); exact aj.out) hb); replace HB := be HB hb; (try clear hb)) | ((with_reducible refine gate_callee (f := 183) rfl ?_); refine goesL_ (some 14) rfl rfl Try.func183 (by kernel_rfl) rfl #[.slice A1 l1.length c1] rfl lu ?_; (with_reducible refine (codewrightref01_Bits.calls k _ _ l1 av _ ?side1 ?side2 A5.out).mono ?_); (case side1 => repeat (first | exact (Kd.C_below aN.out HB.out) | (with_reducible refine Kd.C_alloc ?_ _) | (with_reducible refine Kd.C_drewN ?_ _) | (with_reducible refine Kd.C_drew ?_))); (case side2 => first | exact aE.out | exact vz aE.out); rintro e w8 ⟨rfl, hb⟩; refine ⟨_, rfl, ?_⟩; replace aj := am (Kd.R_below (by (with_reducible repeat (first | apply Kd.R_alloc | apply Kd.R_drewN | apply Kd.R_drew)); exact aj.out) hb); replace HB := be HB hb; (try clear hb)))
 go_loopg [4, 5, 7] k (fun kq v4 v5 v7 w' => ∃ (an : List Int) (ak : List Int) (ag : Int), v7 = .int .i64 ag ∧ Aside0 (codewrightref01_DivMod.l0 kq l1 an ak ag = some (r1, r2)) ∧ Aside0 (kq ≤ k) ∧ Aside0 (Kd.R (Kd.int .u32) 48 w' w.heap.size (fun k_ => some k_ ≠ (v5 : Value).ownBlock) v4 an) ∧ Aside0 (Kd.R (Kd.int .u32) 48 w' w.heap.size (fun k_ => some k_ ≠ (v4 : Value).ownBlock) v5 ak) ∧ Aside0 (Below w.heap.size w w'))
 case atStart => exact ⟨(([] : List Int)), (aq), (wrap64 (au - av)), (by first | rfl | (simp; done) | (simp [*]; done)), H', ⟨Nat.le_refl _⟩, ⟨by first | exact Kd.R_nil _ _ _ _ _ | exact Kd.N_nil _ _ _ _ _ | exact Kd.V_nil _ _ _ _ _ | exact Kd.Q_nil _ _ _ _ _ | exact Kd.S_nil _ _ _ _ _⟩, ⟨by (with_reducible repeat (first | apply Kd.R_alloc | apply Kd.R_drewN | apply Kd.R_drew)); exact Kd.R_mono aj.out (fun _ hk => (by simp [Value.ownBlock]))⟩, ⟨by repeat (first | (with_reducible first | exact HB.out | apply below_alloc | apply pw_below_drewN | apply below_drew1) | exact HB.out)⟩⟩
 case round =>
  clear H'
  try clear c1
  try clear p2
  try clear p6
  obtain ⟨an, ak, ag, rfl, HA, HK1, ac, ab, HB⟩ := hrel
  cases gk with
  | zero => exact absurd HA.out (by simp [codewrightref01_DivMod.l0])
  | succ k1 =>
   have H := HA.out
   clear HA
   simp only [codewrightref01_DivMod.l0] at H
   by_cases c9 : ag ≥ 0
   ·
    rw [if_pos c9] at H
    have aO : decide (0 ≤ ag) = true := decide_eq_true c9
    clear c9
    obtain ⟨ai, bb, H⟩ := bs H
    (try dsimp -simprocs only at H)
    obtain ⟨ao, bd, H⟩ := bs H
    (try dsimp -simprocs only at H)
    by_cases aF : ao ≥ 0
    ·
     rw [if_pos aF] at H
     have aG : decide (0 ≤ ao) = true := decide_eq_true aF
     clear aF
     obtain ⟨ay, bk, H⟩ := bs H
     (try dsimp -simprocs only at H)
     obtain ⟨az, ap⟩ : ∃ y_ : List Int, y_ = (([1] : List Int)) := ⟨_, rfl⟩
     rw [← ap] at H
     have aw := am ap
     clear ap
     obtain ⟨ax, bl, H⟩ := bs H
     (try dsimp -simprocs only at H)
     obtain ⟨aA, bm, H⟩ := bs H
     (try dsimp -simprocs only at H)
     have H' := am H
     clear H
     go_wp2_with (first | ((with_reducible refine gate_callee (f := 184) rfl ?_); refine goesL_ (some 23) rfl rfl Try.func184 (by kernel_rfl) rfl #[.slice A1 l1.length c1, .int .i64 ag] rfl lu ?_; (with_reducible refine (codewrightref01_shift.calls k1 _ _ l1 ag ai _ ?side1 ?side2 bb.out).mono ?_); (case side1 => repeat (first | exact (Kd.C_below aN.out HB.out) | (with_reducible refine Kd.C_alloc ?_ _) | (with_reducible refine Kd.C_drewN ?_ _) | (with_reducible refine Kd.C_drew ?_))); (case side2 => first | exact aE.out | exact vz aE.out); rintro e bo ⟨aH, rfl, ae, hb⟩; refine ⟨_, rfl, ?_⟩; have aa := am (Kd.R_lower (Kd.R_new' (Kd.R_new' ae (Kd.R_lt (by (with_reducible repeat (first | apply Kd.R_alloc | apply Kd.R_drewN | apply Kd.R_drew)); exact ac.out))) (Kd.R_lt (by (with_reducible repeat (first | apply Kd.R_alloc | apply Kd.R_drewN | apply Kd.R_drew)); exact ab.out))) (below_size (bu HB.out))); replace ac := am (Kd.R_elder' (by (with_reducible repeat (first | apply Kd.R_alloc | apply Kd.R_drewN | apply Kd.R_drew)); exact ac.out) (Kd.R_base ae) hb); replace ab := am (Kd.R_elder' (by (with_reducible repeat (first | apply Kd.R_alloc | apply Kd.R_drewN | apply Kd.R_drew)); exact ab.out) (Kd.R_base ae) hb); replace HB := be HB hb; (try clear hb); (try clear hk); (try clear ae); obtain ⟨aI, aJ, aP⟩ := Kd.R_slice ab.out; subst aP; obtain ⟨aK, aL, aQ⟩ := Kd.R_slice aa.out; subst aQ) | ((with_reducible refine gate_callee (f := 59) rfl ?_); refine goesL_ (some 26) rfl rfl Try.func59 (by kernel_rfl) rfl #[.slice aI ak.length aJ, .slice aK ai.length aL] rfl lu ?_; (with_reducible refine (codewrightref01_Cmp.calls k1 _ _ ak _ _ ai ao _ ?side1 ?side2 ?side3 ?side4 bd.out).mono ?_); (case side1 => exact cu (Kd.R_reads' ab.out).2.2); (case side2 => exact (Kd.R_reads' ab.out).2.1); (case side3 => exact cu (Kd.R_reads' aa.out).2.2); (case side4 => exact (Kd.R_reads' aa.out).2.1); rintro e bp ⟨rfl, hb⟩; refine ⟨_, rfl, ?_⟩; replace ac := am (Kd.R_below (by (with_reducible repeat (first | apply Kd.R_alloc | apply Kd.R_drewN | apply Kd.R_drew)); exact ac.out) hb); replace ab := am (Kd.R_below (by (with_reducible repeat (first | apply Kd.R_alloc | apply Kd.R_drewN | apply Kd.R_drew)); exact ab.out) hb); replace aa := am (Kd.R_below (by (with_reducible repeat (first | apply Kd.R_alloc | apply Kd.R_drewN | apply Kd.R_drew)); exact aa.out) hb); replace HB := be HB hb; (try clear hb); (try clear hk)) | ((with_reducible refine gate_callee (f := 166) rfl ?_); refine goesL_ (some 30) rfl rfl Try.func166 (by kernel_rfl) rfl #[.slice aI ak.length aJ, .slice aK ai.length aL] rfl lu ?_; (with_reducible refine (codewrightref01_Sub.calls k1 _ _ ak _ _ ai ay _ ?side1 ?side2 ?side3 ?side4 bk.out).mono ?_); (case side1 => exact cu (Kd.R_reads' ab.out).2.2); (case side2 => exact (Kd.R_reads' ab.out).2.1); (case side3 => exact cu (Kd.R_reads' aa.out).2.2); (case side4 => exact (Kd.R_reads' aa.out).2.1); rintro e bq ⟨bf, rfl, ae, hb⟩; refine ⟨_, rfl, ?_⟩; have ad := am (Kd.R_lower (Kd.R_new' (Kd.R_new' (Kd.R_new' ae (Kd.R_lt (by (with_reducible repeat (first | apply Kd.R_alloc | apply Kd.R_drewN | apply Kd.R_drew)); exact ac.out))) (Kd.R_lt (by (with_reducible repeat (first | apply Kd.R_alloc | apply Kd.R_drewN | apply Kd.R_drew)); exact ab.out))) (Kd.R_lt (by (with_reducible repeat (first | apply Kd.R_alloc | apply Kd.R_drewN | apply Kd.R_drew)); exact aa.out))) (below_size (bu HB.out))); replace ac := am (Kd.R_elder' (by (with_reducible repeat (first | apply Kd.R_alloc | apply Kd.R_drewN | apply Kd.R_drew)); exact ac.out) (Kd.R_base ae) hb); replace ab := am (Kd.R_elder' (by (with_reducible repeat (first | apply Kd.R_alloc | apply Kd.R_drewN | apply Kd.R_drew)); exact ab.out) (Kd.R_base ae) hb); replace aa := am (Kd.R_elder' (by (with_reducible repeat (first | apply Kd.R_alloc | apply Kd.R_drewN | apply Kd.R_drew)); exact aa.out) (Kd.R_base ae) hb); replace HB := be HB hb; (try clear hb); (try clear hk); (try clear ae)) | ((with_reducible refine gate_dst (N := 32) rfl ?_); refine Kd.R_lit (Kd.int .u32) _ 48 ?hg (N := 32) ?hd (xs := ([1] : List Int)) (inner := [.int .u32 1]) (ok := fun _ => True) (okp := fun _ => True) ?hr ?hp (fun _ hk => hk) trivial (Below.refl _ _) (Nat.le_refl _) (by simp) ?_; (case hd => rfl); (case hg => rfl); (case hr => first | (go_simp; done) | (go_simp; rfl)); (case hp => exact (Reps.one (show Kd.M (Kd.int .u32) _ _ _ 1 [.int .u32 1] from rfl) (Reps.none _ _))); intro bg br al hb hg_ hnew_; clear hg_ hnew_; (first | rw [← aw.out] at al | (simp only [Int.reduceToNat] at al; rw [← aw.out] at al)); have af := am (Kd.R_lower (Kd.R_new' (Kd.R_new' (Kd.R_new' (Kd.R_new' al (Kd.R_lt (by (with_reducible repeat (first | apply Kd.R_alloc | apply Kd.R_drewN | apply Kd.R_drew)); exact ac.out))) (Kd.R_lt (by (with_reducible repeat (first | apply Kd.R_alloc | apply Kd.R_drewN | apply Kd.R_drew)); exact ab.out))) (Kd.R_lt (by (with_reducible repeat (first | apply Kd.R_alloc | apply Kd.R_drewN | apply Kd.R_drew)); exact aa.out))) (Kd.R_lt (by (with_reducible repeat (first | apply Kd.R_alloc | apply Kd.R_drewN | apply Kd.R_drew)); exact ad.out))) (below_size (bu HB.out))); replace ac := am (Kd.R_elder' (by (with_reducible repeat (first | apply Kd.R_alloc | apply Kd.R_drewN | apply Kd.R_drew)); exact ac.out) (Kd.R_base al) hb); replace ab := am (Kd.R_elder' (by (with_reducible repeat (first | apply Kd.R_alloc | apply Kd.R_drewN | apply Kd.R_drew)); exact ab.out) (Kd.R_base al) hb); replace aa := am (Kd.R_elder' (by (with_reducible repeat (first | apply Kd.R_alloc | apply Kd.R_drewN | apply Kd.R_drew)); exact aa.out) (Kd.R_base al) hb); replace ad := am (Kd.R_elder' (by (with_reducible repeat (first | apply Kd.R_alloc | apply Kd.R_drewN | apply Kd.R_drew)); exact ad.out) (Kd.R_base al) hb); replace HB := be HB hb; clear hb al; obtain ⟨aR, aS, aT⟩ := Kd.R_slice af.out; subst aT) | ((with_reducible refine gate_callee (f := 184) rfl ?_); refine goesL_ (some 34) rfl rfl Try.func184 (by kernel_rfl) rfl #[.slice aR az.length aS, .int .i64 ag] rfl lu ?_; (with_reducible refine (codewrightref01_shift.calls k1 _ _ az ag ax _ ?side1 ?side2 bl.out).mono ?_); (case side1 => exact cu (Kd.R_reads' af.out).2.2); (case side2 => exact (Kd.R_reads' af.out).2.1); rintro e bv ⟨bh, rfl, ae, hb⟩; refine ⟨_, rfl, ?_⟩; have ah := am (Kd.R_lower (Kd.R_new' (Kd.R_new' (Kd.R_new' (Kd.R_new' (Kd.R_new' ae (Kd.R_lt (by (with_reducible repeat (first | apply Kd.R_alloc | apply Kd.R_drewN | apply Kd.R_drew)); exact ac.out))) (Kd.R_lt (by (with_reducible repeat (first | apply Kd.R_alloc | apply Kd.R_drewN | apply Kd.R_drew)); exact ab.out))) (Kd.R_lt (by (with_reducible repeat (first | apply Kd.R_alloc | apply Kd.R_drewN | apply Kd.R_drew)); exact aa.out))) (Kd.R_lt (by (with_reducible repeat (first | apply Kd.R_alloc | apply Kd.R_drewN | apply Kd.R_drew)); exact ad.out))) (Kd.R_lt (by (with_reducible repeat (first | apply Kd.R_alloc | apply Kd.R_drewN | apply Kd.R_drew)); exact af.out))) (below_size (bu HB.out))); replace ac := am (Kd.R_elder' (by (with_reducible repeat (first | apply Kd.R_alloc | apply Kd.R_drewN | apply Kd.R_drew)); exact ac.out) (Kd.R_base ae) hb); replace ab := am (Kd.R_elder' (by (with_reducible repeat (first | apply Kd.R_alloc | apply Kd.R_drewN | apply Kd.R_drew)); exact ab.out) (Kd.R_base ae) hb); replace aa := am (Kd.R_elder' (by (with_reducible repeat (first | apply Kd.R_alloc | apply Kd.R_drewN | apply Kd.R_drew)); exact aa.out) (Kd.R_base ae) hb); replace ad := am (Kd.R_elder' (by (with_reducible repeat (first | apply Kd.R_alloc | apply Kd.R_drewN | apply Kd.R_drew)); exact ad.out) (Kd.R_base ae) hb); replace af := am (Kd.R_elder' (by (with_reducible repeat (first | apply Kd.R_alloc | apply Kd.R_drewN | apply Kd.R_drew)); exact af.out) (Kd.R_base ae) hb); replace HB := be HB hb; (try clear hb); (try clear hk); (try clear ae); obtain ⟨aU, aV, aW⟩ := Kd.R_slice ac.out; subst aW; obtain ⟨aX, aY, aZ⟩ := Kd.R_slice ah.out; subst aZ) | ((with_reducible refine gate_callee (f := 55) rfl ?_); refine goesL_ (some 35) rfl rfl Try.func55 (by kernel_rfl) rfl #[.slice aU an.length aV, .slice aX ax.length aY] rfl lu ?_; (with_reducible refine (codewrightref01_Add.calls k1 _ _ an _ _ ax aA _ ?side1 ?side2 ?side3 ?side4 bm.out).mono ?_); (case side1 => exact cu (Kd.R_reads' ac.out).2.2); (case side2 => exact (Kd.R_reads' ac.out).2.1); (case side3 => exact cu (Kd.R_reads' ah.out).2.2); (case side4 => exact (Kd.R_reads' ah.out).2.1); rintro e bw ⟨bi, rfl, ae, hb⟩; refine ⟨_, rfl, ?_⟩; have aC := am (Kd.R_lower (Kd.R_new' (Kd.R_new' (Kd.R_new' (Kd.R_new' (Kd.R_new' (Kd.R_new' ae (Kd.R_lt (by (with_reducible repeat (first | apply Kd.R_alloc | apply Kd.R_drewN | apply Kd.R_drew)); exact ac.out))) (Kd.R_lt (by (with_reducible repeat (first | apply Kd.R_alloc | apply Kd.R_drewN | apply Kd.R_drew)); exact ab.out))) (Kd.R_lt (by (with_reducible repeat (first | apply Kd.R_alloc | apply Kd.R_drewN | apply Kd.R_drew)); exact aa.out))) (Kd.R_lt (by (with_reducible repeat (first | apply Kd.R_alloc | apply Kd.R_drewN | apply Kd.R_drew)); exact ad.out))) (Kd.R_lt (by (with_reducible repeat (first | apply Kd.R_alloc | apply Kd.R_drewN | apply Kd.R_drew)); exact af.out))) (Kd.R_lt (by (with_reducible repeat (first | apply Kd.R_alloc | apply Kd.R_drewN | apply Kd.R_drew)); exact ah.out))) (below_size (bu HB.out))); replace ac := am (Kd.R_elder' (by (with_reducible repeat (first | apply Kd.R_alloc | apply Kd.R_drewN | apply Kd.R_drew)); exact ac.out) (Kd.R_base ae) hb); replace ab := am (Kd.R_elder' (by (with_reducible repeat (first | apply Kd.R_alloc | apply Kd.R_drewN | apply Kd.R_drew)); exact ab.out) (Kd.R_base ae) hb); replace aa := am (Kd.R_elder' (by (with_reducible repeat (first | apply Kd.R_alloc | apply Kd.R_drewN | apply Kd.R_drew)); exact aa.out) (Kd.R_base ae) hb); replace ad := am (Kd.R_elder' (by (with_reducible repeat (first | apply Kd.R_alloc | apply Kd.R_drewN | apply Kd.R_drew)); exact ad.out) (Kd.R_base ae) hb); replace af := am (Kd.R_elder' (by (with_reducible repeat (first | apply Kd.R_alloc | apply Kd.R_drewN | apply Kd.R_drew)); exact af.out) (Kd.R_base ae) hb); replace ah := am (Kd.R_elder' (by (with_reducible repeat (first | apply Kd.R_alloc | apply Kd.R_drewN | apply Kd.R_drew)); exact ah.out) (Kd.R_base ae) hb); replace HB := be HB hb; (try clear hb); (try clear hk); (try clear ae)))
     go_roundg k1
     case measure => have := HK1.out; omega
     case rel => exact ⟨(aA), (ay), (wrap64 (ag - 1)), (by first | rfl | (simp; done) | (simp [*]; done)), H', ⟨by have := HK1.out; omega⟩, ⟨by (with_reducible repeat (first | apply Kd.R_alloc | apply Kd.R_drewN | apply Kd.R_drew)); exact Kd.R_mono aC.out (fun _ hk => hk.1.1.2)⟩, ⟨by (with_reducible repeat (first | apply Kd.R_alloc | apply Kd.R_drewN | apply Kd.R_drew)); exact Kd.R_mono ad.out (fun _ hk => hk.2)⟩, ⟨by repeat (first | (with_reducible first | exact HB.out | apply below_alloc | apply pw_below_drewN | apply below_drew1) | exact HB.out)⟩⟩
    ·
     rw [if_neg aF] at H
     have aG : decide (0 ≤ ao) = false := decide_eq_false aF
     clear aF
     have H' := am H
     clear H
     go_wp2_with (first | ((with_reducible refine gate_callee (f := 184) rfl ?_); refine goesL_ (some 23) rfl rfl Try.func184 (by kernel_rfl) rfl #[.slice A1 l1.length c1, .int .i64 ag] rfl lu ?_; (with_reducible refine (codewrightref01_shift.calls k1 _ _ l1 ag ai _ ?side1 ?side2 bb.out).mono ?_); (case side1 => repeat (first | exact (Kd.C_below aN.out HB.out) | (with_reducible refine Kd.C_alloc ?_ _) | (with_reducible refine Kd.C_drewN ?_ _) | (with_reducible refine Kd.C_drew ?_))); (case side2 => first | exact aE.out | exact vz aE.out); rintro e bx ⟨aH, rfl, ae, hb⟩; refine ⟨_, rfl, ?_⟩; have aa := am (Kd.R_lower (Kd.R_new' (Kd.R_new' ae (Kd.R_lt (by (with_reducible repeat (first | apply Kd.R_alloc | apply Kd.R_drewN | apply Kd.R_drew)); exact ac.out))) (Kd.R_lt (by (with_reducible repeat (first | apply Kd.R_alloc | apply Kd.R_drewN | apply Kd.R_drew)); exact ab.out))) (below_size (bu HB.out))); replace ac := am (Kd.R_elder' (by (with_reducible repeat (first | apply Kd.R_alloc | apply Kd.R_drewN | apply Kd.R_drew)); exact ac.out) (Kd.R_base ae) hb); replace ab := am (Kd.R_elder' (by (with_reducible repeat (first | apply Kd.R_alloc | apply Kd.R_drewN | apply Kd.R_drew)); exact ab.out) (Kd.R_base ae) hb); replace HB := be HB hb; (try clear hb); (try clear ae); obtain ⟨a0, a1, a2⟩ := Kd.R_slice ab.out; subst a2; obtain ⟨a3, a4, a5⟩ := Kd.R_slice aa.out; subst a5) | ((with_reducible refine gate_callee (f := 59) rfl ?_); refine goesL_ (some 26) rfl rfl Try.func59 (by kernel_rfl) rfl #[.slice a0 ak.length a1, .slice a3 ai.length a4] rfl lu ?_; (with_reducible refine (codewrightref01_Cmp.calls k1 _ _ ak _ _ ai ao _ ?side1 ?side2 ?side3 ?side4 bd.out).mono ?_); (case side1 => exact cu (Kd.R_reads' ab.out).2.2); (case side2 => exact (Kd.R_reads' ab.out).2.1); (case side3 => exact cu (Kd.R_reads' aa.out).2.2); (case side4 => exact (Kd.R_reads' aa.out).2.1); rintro e bz ⟨rfl, hb⟩; refine ⟨_, rfl, ?_⟩; replace ac := am (Kd.R_below (by (with_reducible repeat (first | apply Kd.R_alloc | apply Kd.R_drewN | apply Kd.R_drew)); exact ac.out) hb); replace ab := am (Kd.R_below (by (with_reducible repeat (first | apply Kd.R_alloc | apply Kd.R_drewN | apply Kd.R_drew)); exact ab.out) hb); replace aa := am (Kd.R_below (by (with_reducible repeat (first | apply Kd.R_alloc | apply Kd.R_drewN | apply Kd.R_drew)); exact aa.out) hb); replace HB := be HB hb; (try clear hb)))
     go_roundg k1
     case measure => have := HK1.out; omega
     case rel => exact ⟨(an), (ak), (wrap64 (ag - 1)), (by first | rfl | (simp; done) | (simp [*]; done)), H', ⟨by have := HK1.out; omega⟩, ⟨by (with_reducible repeat (first | apply Kd.R_alloc | apply Kd.R_drewN | apply Kd.R_drew)); exact Kd.R_mono ac.out (fun _ hk => hk.1)⟩, ⟨by (with_reducible repeat (first | apply Kd.R_alloc | apply Kd.R_drewN | apply Kd.R_drew)); exact Kd.R_mono ab.out (fun _ hk => hk.1)⟩, ⟨by repeat (first | (with_reducible first | exact HB.out | apply below_alloc | apply pw_below_drewN | apply below_drew1) | exact HB.out)⟩⟩
   ·
    rw [if_neg c9] at H
    have aO : decide (0 ≤ ag) = false := decide_eq_false c9
    clear c9
    obtain ⟨aB, bn, H⟩ := bs H
    replace H : (some (aB, ak)) = some (r1, r2) := H
    simp only [Option.some.injEq, Prod.mk.injEq] at H
    obtain ⟨rfl, rfl⟩ := H
    obtain ⟨a6, a7, a8⟩ := Kd.R_slice ac.out
    subst a8
    go_wp2_with (first | ((with_reducible refine gate_callee (f := 144) rfl ?_); refine goesL_ (some 37) rfl rfl Try.func144 (by kernel_rfl) rfl #[.slice a6 an.length a7] rfl lu ?_; (with_reducible refine (codewrightref01_Trim.calls k1 _ _ an aB _ ?side1 ?side2 bn.out).mono ?_); (case side1 => exact cu (Kd.R_reads' ac.out).2.2); (case side2 => exact (Kd.R_reads' ac.out).2.1); rintro e bA ⟨bj, rfl, ae, hb⟩; refine ⟨_, rfl, ?_⟩; have aD := am (Kd.R_lower (Kd.R_new' (Kd.R_new' ae (Kd.R_lt (by (with_reducible repeat (first | apply Kd.R_alloc | apply Kd.R_drewN | apply Kd.R_drew)); exact ac.out))) (Kd.R_lt (by (with_reducible repeat (first | apply Kd.R_alloc | apply Kd.R_drewN | apply Kd.R_drew)); exact ab.out))) (below_size (bu HB.out))); replace ac := am (Kd.R_elder' (by (with_reducible repeat (first | apply Kd.R_alloc | apply Kd.R_drewN | apply Kd.R_drew)); exact ac.out) (Kd.R_base ae) hb); replace ab := am (Kd.R_elder' (by (with_reducible repeat (first | apply Kd.R_alloc | apply Kd.R_drewN | apply Kd.R_drew)); exact ab.out) (Kd.R_base ae) hb); replace HB := be HB hb; (try clear hb); (try clear ae)))
    go_ret2
    exact ⟨_, _, by first | rfl | (simp [errW_none, errW_some] <;> rfl) | (simp [*, errW_none, errW_some] <;> rfl), by (with_reducible repeat (first | apply Kd.R_alloc | apply Kd.R_drewN | apply Kd.R_drew)); exact Kd.R_mono aD.out (fun _ hk => hk.2), by (with_reducible repeat (first | apply Kd.R_alloc | apply Kd.R_drewN | apply Kd.R_drew)); exact Kd.R_mono ab.out (fun _ hk => hk.2), by repeat (first | (with_reducible first | exact HB.out | apply below_alloc | apply pw_below_drewN | apply below_drew1) | exact HB.out)⟩
def codewrightref01_Gcd.l0 : Nat → List Int → List Int → Option (List Int)
 | 0, _, _ => none
 | k + 1, x0, x1 => (codewrightref01_Zero.f k x1).bind fun t1093 => (if t1093 = true then ((codewrightref01_Trim.f k x0).bind fun t1094 => (some t1094)) else ((codewrightref01_DivMod.f k x0 x1).bind fun bt1097 => (codewrightref01_Gcd.l0 k x1 bt1097.2)))
def codewrightref01_Gcd.f (k : Nat) (l0 : List Int) (l1 : List Int) : Option (List Int) := codewrightref01_Gcd.l0 k l0 l1
theorem codewrightref01_Gcd.calls (k : Nat) (P0_ : Nat → Prop) (A0 : Option Addr) (c0 : Nat) (l0 : List Int) (P1_ : Nat → Prop) (A1 : Option Addr) (c1 : Nat) (l1 : List Int) (r : List Int) (w : World) (hs0 : Kd.V (Kd.int .u32) 48 w w.heap.size (fun k_ => P0_ k_) (.slice A0 l0.length c0) l0) (hs1 : Kd.V (Kd.int .u32) 48 w w.heap.size (fun k_ => P1_ k_) (.slice A1 l1.length c1) l1) (h : codewrightref01_Gcd.f k l0 l1 = some r) :
 Calls Try.prog 156 #[.slice A0 l0.length c0, .slice A1 l1.length c1] w fun e w' => ∃ v0_ : Value, e = .returned (v0_) ∧ Kd.R (Kd.int .u32) 48 w' w.heap.size (fun k_ => (w.heap.size ≤ k_)) v0_ r ∧ Below w.heap.size w w' := by
 have aB := am (show Kd.V (Kd.int .u32) 48 w w.heap.size (fun k_ => ((P0_ k_ ∨ P1_ k_) ∨ w.heap.size ≤ k_)) (.slice A0 l0.length c0) l0 from Kd.V_mono hs0 (fun k_ hk => .inl (.inl hk)))
 have aC := am (show Kd.V (Kd.int .u32) 48 w w.heap.size (fun k_ => ((P0_ k_ ∨ P1_ k_) ∨ w.heap.size ≤ k_)) (.slice A1 l1.length c1) l1 from Kd.V_mono hs1 (fun k_ hk => .inl (.inr hk)))
 have HB := am (Below.refl w.heap.size w)
 have H : (codewrightref01_Gcd.l0 k l0 l1) = some r := h
 clear h
 have H' := am H
 clear H
 go_enter Try.func156, Try.ntmps156
 go_wp2
 go_loopg [0, 1] k (fun kq v0 v1 w' => ∃ (ad : List Int) (ac : List Int), Aside0 (codewrightref01_Gcd.l0 kq ad ac = some r) ∧ Aside0 (kq ≤ k) ∧ Aside0 (Kd.V (Kd.int .u32) 48 w' w.heap.size (fun k_ => ((P0_ k_ ∨ P1_ k_) ∨ w.heap.size ≤ k_)) v0 ad) ∧ Aside0 (Kd.V (Kd.int .u32) 48 w' w.heap.size (fun k_ => ((P0_ k_ ∨ P1_ k_) ∨ w.heap.size ≤ k_)) v1 ac) ∧ Aside0 (Below w.heap.size w w'))
 case atStart => exact ⟨(l0), (l1), H', ⟨Nat.le_refl _⟩, ⟨by (with_reducible repeat (first | apply Kd.V_alloc | apply Kd.V_drewN | apply Kd.V_drew)); exact aB.out⟩, ⟨by (with_reducible repeat (first | apply Kd.V_alloc | apply Kd.V_drewN | apply Kd.V_drew)); exact aC.out⟩, ⟨by repeat (first | (with_reducible first | exact HB.out | apply below_alloc | apply pw_below_drewN | apply below_drew1) | exact HB.out)⟩⟩
 case round =>
  clear H'
  try clear c1
  try clear p2
  obtain ⟨ad, ac, HA, HK1, ab, aa, HB⟩ := hrel
  cases gk with
  | zero => exact absurd HA.out (by simp [codewrightref01_Gcd.l0])
  | succ k1 =>
   have H := HA.out
   clear HA
   simp only [codewrightref01_Gcd.l0] at H
   obtain ⟨ak, A3, H⟩ := bs H
   (try dsimp -simprocs only at H)
   by_cases c4 : ak = true
   ·
    subst c4
    have H1 : ((codewrightref01_Trim.f k1 ad).bind fun ae => (some ae)) = some r := by rw [if_pos rfl] at H; exact H
    clear H
    have H := H1
    clear H1
    obtain ⟨ae, A5, H⟩ := bs H
    replace H : (some ae) = some r := H
    obtain rfl := Option.some.inj H
    obtain ⟨aD, aE, aF⟩ := Kd.V_slice aa.out
    subst aF
    go_wp2_with (first | ((with_reducible refine gate_callee (f := 150) rfl ?_); refine goesL_ (some 8) rfl rfl Try.func150 (by kernel_rfl) rfl #[.slice aD ac.length aE] rfl lu ?_; (with_reducible refine (codewrightref01_Zero.calls k1 _ _ ac true _ ?side1 ?side2 A3.out).mono ?_); (case side1 => exact cu (Kd.V_reads' aa.out).2.2); (case side2 => exact (Kd.V_reads' aa.out).2.1); rintro e w7 ⟨rfl, hb⟩; refine ⟨_, rfl, ?_⟩; replace ab := kv ab hb; replace aa := kv aa hb; replace HB := be HB hb; (try clear hb); obtain ⟨aG, aH, aI⟩ := Kd.V_slice ab.out; subst aI) | ((with_reducible refine gate_callee (f := 144) rfl ?_); refine goesL_ (some 19) rfl rfl Try.func144 (by kernel_rfl) rfl #[.slice aG ad.length aH] rfl lu ?_; (with_reducible refine (codewrightref01_Trim.calls k1 _ _ ad ae _ ?side1 ?side2 A5.out).mono ?_); (case side1 => exact cu (Kd.V_reads' ab.out).2.2); (case side2 => exact (Kd.V_reads' ab.out).2.1); rintro e w9 ⟨ay, rfl, af, hb⟩; refine ⟨_, rfl, ?_⟩; replace ab := am (Kd.V_elder' (vu ab.out) (Kd.R_base af) hb); replace aa := am (Kd.V_elder' (vu aa.out) (Kd.R_base af) hb); have ah := am (Kd.R_lower (Kd.R_newM (M := fun k_ => (w.heap.size ≤ k_)) af (below_size (bu HB.out)) (fun k_ h_ => h_)) (below_size (bu HB.out))); replace HB := be HB hb; (try clear hb); (try clear af)))
    go_ret
    exact ⟨_, by first | rfl | (simp [errW_none, errW_some] <;> rfl) | (simp [*, errW_none, errW_some] <;> rfl), by (with_reducible repeat (first | apply Kd.R_alloc | apply Kd.R_drewN | apply Kd.R_drew)); exact Kd.R_mono ah.out (fun _ hk => hk.1), by repeat (first | (with_reducible first | exact HB.out | apply below_alloc | apply pw_below_drewN | apply below_drew1) | exact HB.out)⟩
   ·
    replace c4 := Bool.eq_false_iff.mpr c4
    subst c4
    have H1 : ((codewrightref01_DivMod.f k1 ad ac).bind fun ai => (codewrightref01_Gcd.l0 k1 ac ai.2)) = some r := by rw [if_neg (show ¬ (false = true) by decide)] at H; exact H
    clear H
    have H := H1
    clear H1
    obtain ⟨⟨al, ag⟩, aJ, H⟩ := bs H
    (try dsimp -simprocs only at H)
    have H' := am H
    clear H
    obtain ⟨an, ao, aq⟩ := Kd.V_slice aa.out
    subst aq
    go_wp2_with (first | ((with_reducible refine gate_callee (f := 150) rfl ?_); refine goesL_ (some 8) rfl rfl Try.func150 (by kernel_rfl) rfl #[.slice an ac.length ao] rfl lu ?_; (with_reducible refine (codewrightref01_Zero.calls k1 _ _ ac false _ ?side1 ?side2 A3.out).mono ?_); (case side1 => exact cu (Kd.V_reads' aa.out).2.2); (case side2 => exact (Kd.V_reads' aa.out).2.1); rintro e aK ⟨rfl, hb⟩; refine ⟨_, rfl, ?_⟩; replace ab := kv ab hb; replace aa := kv aa hb; replace HB := be HB hb; (try clear hb); obtain ⟨au, av, aw⟩ := Kd.V_slice ab.out; subst aw) | ((with_reducible refine gate_callee (f := 157) rfl ?_); refine goesL_ (some 13) rfl rfl Try.func157 (by kernel_rfl) rfl #[.slice au ad.length av, .slice an ac.length ao] rfl lu ?_; (with_reducible refine (codewrightref01_DivMod.calls k1 _ _ ad _ _ ac al ag _ ?side1 ?side2 ?side3 ?side4 aJ.out).mono ?_); (case side1 => exact cu (Kd.V_reads' ab.out).2.2); (case side2 => exact (Kd.V_reads' ab.out).2.1); (case side3 => exact cu (Kd.V_reads' aa.out).2.2); (case side4 => exact (Kd.V_reads' aa.out).2.1); rintro e aL ⟨az, aA, rfl, af, ap, hb⟩; refine ⟨_, rfl, ?_⟩; replace ab := am (Kd.V_mono (Kd.V_told (Kd.V_told (Kd.V_old (vu ab.out) hb) (Kd.R_base af)) (Kd.R_base ap)) (fun _ h_ => h_.1)); replace aa := am (Kd.V_mono (Kd.V_told (Kd.V_told (Kd.V_old (vu aa.out) hb) (Kd.R_base af)) (Kd.R_base ap)) (fun _ h_ => h_.1)); have ax := am (Kd.R_lower (Kd.R_newM (M := fun k_ => (w.heap.size ≤ k_)) af (below_size (bu HB.out)) (fun k_ h_ => h_)) (below_size (bu HB.out))); have aj := am (Kd.R_lower (Kd.R_newM (M := fun k_ => (w.heap.size ≤ k_)) ap (below_size (bu HB.out)) (fun k_ h_ => h_)) (below_size (bu HB.out))); replace HB := be HB hb; (try clear hb); (try clear af); (try clear ap)))
    go_roundg k1
    case measure => have := HK1.out; omega
    case rel => exact ⟨(ac), (ag), H', ⟨by have := HK1.out; omega⟩, ⟨by exact vz aa.out⟩, ⟨Kd.V_mono (Kd.R_V (by (with_reducible repeat (first | apply Kd.R_alloc | apply Kd.R_drewN | apply Kd.R_drew)); exact Kd.R_mono aj.out (fun _ hk => hk.1))) (fun k_ hk => by first | exact ⟨(.inr (hk.1)), hk.2⟩ | exact (.inr (hk)))⟩, ⟨by repeat (first | (with_reducible first | exact HB.out | apply below_alloc | apply pw_below_drewN | apply below_drew1) | exact HB.out)⟩⟩
def codewrightref02_Make.j0 : Nat → Bool → List Int → List Int → Bool → Option (Bool × List Int × List Int)
 | 0, _, _, _, _ => none
 | k + 1, x0, x1, x2, x17 => if x17 = true then (some (false, (([] : List Int)), (([1] : List Int)))) else ((codewrightref01_Gcd.f k x1 x2).bind fun t1112 => ((codewrightref01_DivMod.f k x1 t1112).bind fun bt1115 => ((codewrightref01_DivMod.f k x2 t1112).bind fun bt1121 => (some (x0, bt1115.1, bt1121.1)))))
def codewrightref02_Make.f (k : Nat) (a0 : Bool) (l1 : List Int) (l2 : List Int) : Option (Bool × List Int × List Int) := (codewrightref01_Zero.f k l1).bind fun t1104 => (if t1104 = true then (codewrightref02_Make.j0 k a0 l1 l2 true) else ((codewrightref01_Zero.f k l2).bind fun t1105 => (codewrightref02_Make.j0 k a0 l1 l2 t1105)))
theorem codewrightref02_Make.calls (k : Nat) (a0 : Bool) (P1_ : Nat → Prop) (A1 : Option Addr) (c1 : Nat) (l1 : List Int) (P2_ : Nat → Prop) (A2 : Option Addr) (c2 : Nat) (l2 : List Int) (r1 : Bool) (r2 : List Int) (r3 : List Int) (w : World) (hs1 : Kd.V (Kd.int .u32) 48 w w.heap.size (fun k_ => P1_ k_) (.slice A1 l1.length c1) l1) (hs2 : Kd.V (Kd.int .u32) 48 w w.heap.size (fun k_ => P2_ k_) (.slice A2 l2.length c2) l2) (h : codewrightref02_Make.f k a0 l1 l2 = some (r1, r2, r3)) :
 Calls Try.prog 80 #[.bool a0, .slice A1 l1.length c1, .slice A2 l2.length c2] w fun e w' => ∃ v1_ v2_ : Value, e = .returned (.agg #[.bool r1, v1_, v2_]) ∧ Kd.V (Kd.int .u32) 48 w' w.heap.size (fun k_ => ((P1_ k_ ∨ P2_ k_) ∨ w.heap.size ≤ k_)) v1_ r2 ∧ Kd.V (Kd.int .u32) 48 w' w.heap.size (fun k_ => ((P1_ k_ ∨ P2_ k_) ∨ w.heap.size ≤ k_)) v2_ r3 ∧ Below w.heap.size w w' := by
 have bq := Try.underlying67
 have ap := am (show Kd.V (Kd.int .u32) 48 w w.heap.size (fun k_ => ((P1_ k_ ∨ P2_ k_) ∨ w.heap.size ≤ k_)) (.slice A1 l1.length c1) l1 from Kd.V_mono hs1 (fun k_ hk => .inl (.inl hk)))
 have aw := am (show Kd.V (Kd.int .u32) 48 w w.heap.size (fun k_ => ((P1_ k_ ∨ P2_ k_) ∨ w.heap.size ≤ k_)) (.slice A2 l2.length c2) l2 from Kd.V_mono hs2 (fun k_ hk => .inl (.inr hk)))
 have HB := am (Below.refl w.heap.size w)
 have H : ((codewrightref01_Zero.f k l1).bind fun ax => (if ax = true then (codewrightref02_Make.j0 k a0 l1 l2 true) else ((codewrightref01_Zero.f k l2).bind fun aj => (codewrightref02_Make.j0 k a0 l1 l2 aj)))) = some (r1, r2, r3) := h
 clear h
 have a5 := am H
 clear H
 go_enter Try.func80, Try.ntmps80
 go_upto_region 1 with (first | ((with_reducible refine gate_dst (N := 6) rfl ?_); refine box_event ?hg (N := 6) ?hd (cs := #[.bool false, .slice none 0 0, .slice none 0 0]) (t := 67) ?hr ?_; (case hd => rfl); (case hg => rfl); (case hr => first | (go_simp; done) | (go_simp; rfl)); intro ac hg w5 hbox hb; replace ap := ke ap hg hb; replace aw := ke aw hg hb; have aa := am (hbox); have a6 := ng hg (bu HB.out); have ab := ng hg (bu HB.out); replace HB := be HB hb; clear hb hbox hg))
 (try simp only [Act.put, List.setIfInBounds_toArray, List.set_cons_zero, List.set_cons_succ])
 go_cut [17] (fun br wc => ∃ (kq : Nat) (aq : Bool), br = .bool aq ∧ Aside0 (codewrightref02_Make.j0 kq a0 l1 l2 aq = some (r1, r2, r3)) ∧ Aside0 (kq ≤ k) ∧ Aside0 (Kd.V (Kd.int .u32) 48 wc w.heap.size (fun k_ => ((P1_ k_ ∨ P2_ k_) ∨ w.heap.size ≤ k_) ∧ k_ ≠ ac) (.slice A1 l1.length c1) l1) ∧ Aside0 (Kd.V (Kd.int .u32) 48 wc w.heap.size (fun k_ => ((P1_ k_ ∨ P2_ k_) ∨ w.heap.size ≤ k_) ∧ k_ ≠ ac) (.slice A2 l2.length c2) l2) ∧ Aside0 (wc.heap[ac]? = some (.cells #[.bool false, (.slice none 0 0), (.slice none 0 0)] 67 (0, 0))) ∧ Aside0 (Below w.heap.size w wc))
 case first =>
  have H := a5.out
  clear a5
  obtain ⟨ax, A6, H⟩ := bs H
  (try dsimp -simprocs only at H)
  by_cases c7 : ax = true
  ·
   subst c7
   have H1 : (codewrightref02_Make.j0 k a0 l1 l2 true) = some (r1, r2, r3) := by rw [if_pos rfl] at H; exact H
   clear H
   have H := H1
   clear H1
   have H' := am H
   clear H
   go_wp2_with (first | ((with_reducible refine gate_callee (f := 150) rfl ?_); refine goesL_ (some 13) rfl rfl Try.func150 (by kernel_rfl) rfl #[.slice A1 l1.length c1] rfl lu ?_; (with_reducible refine (codewrightref01_Zero.calls k _ _ l1 true _ ?side1 ?side2 A6.out).mono ?_); (case side1 => exact cu (Kd.V_reads' ap.out).2.2); (case side2 => exact (Kd.V_reads' ap.out).2.1); rintro e w8 ⟨rfl, hb⟩; refine ⟨_, rfl, ?_⟩; replace ap := kv ap hb; replace aw := kv aw hb; replace aa := kb aa hb; replace HB := be1 HB ab hb; (try clear hb)))
   go_meet
   case rel => exact ⟨_, (true), (by first | rfl | (simp; done) | (simp [*]; done)), H', ⟨by first | omega | exact Nat.le_refl _⟩, ⟨by (with_reducible repeat (first | apply Kd.V_alloc | apply Kd.V_drewN | apply Kd.V_drew)); exact ap.out⟩, ⟨by (with_reducible repeat (first | apply Kd.V_alloc | apply Kd.V_drewN | apply Kd.V_drew)); exact aw.out⟩, ⟨by (with_reducible repeat (first | refine blk_drewN ?_ _ | refine blk_drew ?_ | refine blk_alloc ?_ _)); exact aa.out⟩, ⟨by repeat (first | (with_reducible first | exact HB.out | apply below_alloc | apply pw_below_drewN | apply below_drew1 | refine below_set ?_ ab.out) | exact HB.out)⟩⟩
  ·
   replace c7 := Bool.eq_false_iff.mpr c7
   subst c7
   have H1 : ((codewrightref01_Zero.f k l2).bind fun aj => (codewrightref02_Make.j0 k a0 l1 l2 aj)) = some (r1, r2, r3) := by rw [if_neg (show ¬ (false = true) by decide)] at H; exact H
   clear H
   have H := H1
   clear H1
   obtain ⟨aj, A9, H⟩ := bs H
   (try dsimp -simprocs only at H)
   have H' := am H
   clear H
   go_wp2_with (first | ((with_reducible refine gate_callee (f := 150) rfl ?_); refine goesL_ (some 13) rfl rfl Try.func150 (by kernel_rfl) rfl #[.slice A1 l1.length c1] rfl lu ?_; (with_reducible refine (codewrightref01_Zero.calls k _ _ l1 false _ ?side1 ?side2 A6.out).mono ?_); (case side1 => exact cu (Kd.V_reads' ap.out).2.2); (case side2 => exact (Kd.V_reads' ap.out).2.1); rintro e bA ⟨rfl, hb⟩; refine ⟨_, rfl, ?_⟩; replace ap := kv ap hb; replace aw := kv aw hb; replace aa := kb aa hb; replace HB := be1 HB ab hb; (try clear hb)) | (go_at_call 150; (with_reducible refine (codewrightref01_Zero.calls k _ _ l2 aj _ ?side1 ?side2 A9.out).mono ?_); (case side1 => exact cu (Kd.V_reads' aw.out).2.2); (case side2 => exact (Kd.V_reads' aw.out).2.1); rintro e bB ⟨rfl, hb⟩; replace ap := kv ap hb; replace aw := kv aw hb; replace aa := kb aa hb; replace HB := be1 HB ab hb; (try clear hb)))
   go_meet
   case rel => exact ⟨_, (aj), (by first | rfl | (simp; done) | (simp [*]; done)), H', ⟨by first | omega | exact Nat.le_refl _⟩, ⟨by (with_reducible repeat (first | apply Kd.V_alloc | apply Kd.V_drewN | apply Kd.V_drew)); exact ap.out⟩, ⟨by (with_reducible repeat (first | apply Kd.V_alloc | apply Kd.V_drewN | apply Kd.V_drew)); exact aw.out⟩, ⟨by (with_reducible repeat (first | refine blk_drewN ?_ _ | refine blk_drew ?_ | refine blk_alloc ?_ _)); exact aa.out⟩, ⟨by repeat (first | (with_reducible first | exact HB.out | apply below_alloc | apply pw_below_drewN | apply below_drew1 | refine below_set ?_ ab.out) | exact HB.out)⟩⟩
 case rest =>
  clear a5
  try clear c1
  try clear c2
  try clear p2
  try clear c7
  try clear c8
  obtain ⟨kq, aq, rfl, HA, HJ3, ae, af, aa, HB⟩ := hcut
  cases kq with
  | zero => exact absurd HA.out (by simp [codewrightref02_Make.j0])
  | succ kj3 =>
   have H := HA.out
   clear HA
   simp only [codewrightref02_Make.j0] at H
   by_cases aR : aq = true
   ·
    subst aR
    have H1 : (some (false, (([] : List Int)), (([1] : List Int)))) = some (r1, r2, r3) := by rw [if_pos rfl] at H; exact H
    clear H
    have H := H1
    clear H1
    obtain ⟨au, ah⟩ : ∃ y_ : List Int, y_ = (([] : List Int)) := ⟨_, rfl⟩
    replace H : (some (false, au, (([1] : List Int)))) = some (r1, r2, r3) := by first | (rw [ah]; with_reducible exact H) | (have H2_ := (Option.bind_some _ _).symm.trans H; rw [ah]; with_reducible exact H2_) | (have H2_ := (Option.bind_some _ _).symm.trans H; with_reducible exact H2_) | with_reducible exact H | (rw [ah]; exact H) | exact H
    have ay := am ah
    clear ah
    obtain ⟨az, an⟩ : ∃ y_ : List Int, y_ = (([1] : List Int)) := ⟨_, rfl⟩
    rw [← an] at H
    have aA := am an
    clear an
    simp only [Option.some.injEq, Prod.mk.injEq] at H
    obtain ⟨rfl, rfl, rfl⟩ := H
    go_wp2_with (first | ((with_reducible refine gate_dst (N := 18) rfl ?_); refine Kd.R_lit (Kd.int .u32) _ 48 ?hg (N := 18) ?hd (xs := ([] : List Int)) (inner := []) (ok := fun _ => True) (okp := fun _ => True) ?hr ?hp (fun _ hk => hk) trivial (Below.refl _ _) (Nat.le_refl _) (by simp) ?_; (case hd => rfl); (case hg => rfl); (case hr => first | (go_simp; done) | (go_simp; rfl)); (case hp => exact (Reps.none _ _)); intro bj bC ao hb hg_ hnew_; clear hg_ hnew_; (first | rw [← ay.out] at ao | (simp only [Int.reduceToNat] at ao; rw [← ay.out] at ao)); replace ae := am (Kd.V_elder' (vu ae.out) (Kd.R_base ao) hb); replace af := am (Kd.V_elder' (vu af.out) (Kd.R_base ao) hb); have ai := am (Kd.R_lower (Kd.R_newM (M := fun k_ => (w.heap.size ≤ k_)) ao (below_size (bu1 HB.out ab.out)) (fun k_ h_ => h_)) (below_size (bu1 HB.out ab.out))); replace aa := kb aa hb; replace HB := be1 HB ab hb; clear hb ao) | ((with_reducible refine gate_dst (N := 19) rfl ?_); refine Kd.R_lit (Kd.int .u32) _ 48 ?hg (N := 19) ?hd (xs := ([1] : List Int)) (inner := [.int .u32 1]) (ok := fun _ => True) (okp := fun _ => True) ?hr ?hp (fun _ hk => hk) trivial (Below.refl _ _) (Nat.le_refl _) (by simp) ?_; (case hd => rfl); (case hg => rfl); (case hr => first | (go_simp; done) | (go_simp; rfl)); (case hp => exact (Reps.one (show Kd.M (Kd.int .u32) _ _ _ 1 [.int .u32 1] from rfl) (Reps.none _ _))); intro bk bD al hb hg_ hnew_; clear hg_ hnew_; (first | rw [← aA.out] at al | (simp only [Int.reduceToNat] at al; rw [← aA.out] at al)); replace ae := am (Kd.V_elder' (vu ae.out) (Kd.R_base al) hb); replace af := am (Kd.V_elder' (vu af.out) (Kd.R_base al) hb); have aB := am (Kd.R_lower (Kd.R_new' (Kd.R_newM (M := fun k_ => (w.heap.size ≤ k_)) al (below_size (bu1 HB.out ab.out)) (fun k_ h_ => h_)) (Kd.R_lt (by (with_reducible repeat (first | apply Kd.R_alloc | apply Kd.R_drewN | apply Kd.R_drew)); exact ai.out))) (below_size (bu1 HB.out ab.out))); replace ai := am (Kd.R_elder' (by (with_reducible repeat (first | apply Kd.R_alloc | apply Kd.R_drewN | apply Kd.R_drew)); exact ai.out) (Kd.R_base al) hb); replace aa := kb aa hb; replace HB := be1 HB ab hb; clear hb al; obtain ⟨aH, aI, a7⟩ := Kd.R_slice aB.out; subst a7; obtain ⟨aJ, aK, a8⟩ := Kd.R_slice ai.out; subst a8; obtain ⟨aS, aT, aU, aV, aW, aX⟩ := bz aa))
    refine bodyPost_ret (results_cell_row rfl _ _ ac 67 #[.bool false, .slice aJ au.length aK, .slice aH az.length aI] (0, 0) _ rfl (kp aa.out) Try.underlying67 rfl (by kernel_rfl)) rfl ?_
    exact ⟨_, _, by first | rfl | (simp [errW_none, errW_some] <;> rfl) | (simp [*, errW_none, errW_some] <;> rfl), Kd.V_mono (Kd.R_V (by (with_reducible repeat (first | apply Kd.R_alloc | apply Kd.R_drewN | apply Kd.R_drew)); exact Kd.R_mono (Kd.R_far (p := ⟨ac, 2, none⟩) (Kd.R_far (p := ⟨ac, 1, none⟩) (Kd.R_far (p := ⟨ac, 0, none⟩) (Kd.R_types ai.out aa.out (by decide)) (fun _ hk => hk.2) (.bool false)) (fun _ hk => hk.2) (.slice aJ au.length aK)) (fun _ hk => hk.2) (.slice aH az.length aI)) (fun _ hk => hk.1.1.1))) (fun k_ hk => by first | exact ⟨(.inr (hk.1)), hk.2⟩ | exact (.inr (hk))), Kd.V_mono (Kd.R_V (by (with_reducible repeat (first | apply Kd.R_alloc | apply Kd.R_drewN | apply Kd.R_drew)); exact Kd.R_mono (Kd.R_far (p := ⟨ac, 2, none⟩) (Kd.R_far (p := ⟨ac, 1, none⟩) (Kd.R_far (p := ⟨ac, 0, none⟩) (Kd.R_types aB.out aa.out (by decide)) (fun _ hk => hk.2) (.bool false)) (fun _ hk => hk.2) (.slice aJ au.length aK)) (fun _ hk => hk.2) (.slice aH az.length aI)) (fun _ hk => hk.1.1.1))) (fun k_ hk => by first | exact ⟨(.inr (hk.1)), hk.2⟩ | exact (.inr (hk))), by repeat (first | (with_reducible first | exact HB.out | apply below_alloc | apply pw_below_drewN | apply below_drew1 | refine below_set ?_ ab.out) | exact HB.out)⟩
   ·
    replace aR := Bool.eq_false_iff.mpr aR
    subst aR
    have H1 : ((codewrightref01_Gcd.f kj3 l1 l2).bind fun ag => ((codewrightref01_DivMod.f kj3 l1 ag).bind fun aL => ((codewrightref01_DivMod.f kj3 l2 ag).bind fun aM => (some (a0, aL.1, aM.1))))) = some (r1, r2, r3) := by rw [if_neg (show ¬ (false = true) by decide)] at H; exact H
    clear H
    have H := H1
    clear H1
    obtain ⟨ag, bv, H⟩ := bs H
    (try dsimp -simprocs only at H)
    obtain ⟨⟨aF, aN⟩, bw, H⟩ := bs H
    (try dsimp -simprocs only at H)
    obtain ⟨⟨aG, aO⟩, bx, H⟩ := bs H
    (try dsimp -simprocs only at H)
    simp only [Option.some.injEq, Prod.mk.injEq] at H
    obtain ⟨rfl, rfl, rfl⟩ := H
    go_wp2_with (first | ((with_reducible refine gate_callee (f := 156) rfl ?_); refine goesL_ (some 23) rfl rfl Try.func156 (by kernel_rfl) rfl #[.slice A1 l1.length c1, .slice A2 l2.length c2] rfl lu ?_; (with_reducible refine (codewrightref01_Gcd.calls kj3 (fun k_ => (((P1_ k_ ∨ P2_ k_) ∨ w.heap.size ≤ k_) ∧ k_ ≠ ac)) _ _ l1 (fun k_ => (((P1_ k_ ∨ P2_ k_) ∨ w.heap.size ≤ k_) ∧ k_ ≠ ac)) _ _ l2 ag _ ?side1 ?side2 bv.out).mono ?_); (case side1 => exact vz ae.out); (case side2 => exact vz af.out); rintro e bE ⟨bl, rfl, av, hb⟩; refine ⟨_, rfl, ?_⟩; replace av := R_V_base rfl av; replace ae := kv ae hb; replace af := kv af hb; have ad := ar0 w.heap.size (ok' := fun k_ => ((P1_ k_ ∨ P2_ k_) ∨ w.heap.size ≤ k_) ∧ k_ ≠ ac) av (fa (fz1 HB ab) (fb aa)); replace aa := kb aa hb; replace HB := be1 HB ab hb; (try clear hb); (try clear av); obtain ⟨aP, aQ, a9⟩ := Kd.V_slice ad.out; subst a9) | ((with_reducible refine gate_callee (f := 157) rfl ?_); refine goesL_ (some 27) rfl rfl Try.func157 (by kernel_rfl) rfl #[.slice A1 l1.length c1, .slice aP ag.length aQ] rfl lu ?_; (with_reducible refine (codewrightref01_DivMod.calls kj3 _ _ l1 _ _ ag aF aN _ ?side1 ?side2 ?side3 ?side4 bw.out).mono ?_); (case side1 => exact cu (Kd.V_reads' ae.out).2.2); (case side2 => exact (Kd.V_reads' ae.out).2.1); (case side3 => exact cu (Kd.V_reads' ad.out).2.2); (case side4 => exact (Kd.V_reads' ad.out).2.1); rintro e bF ⟨bm, bn, rfl, av, aE, hb⟩; refine ⟨_, rfl, ?_⟩; replace av := R_V_base rfl av; replace aE := R_V_base rfl aE; replace ae := kv ae hb; replace af := kv af hb; replace ad := kv ad hb; have ak := ar0 w.heap.size (ok' := fun k_ => ((P1_ k_ ∨ P2_ k_) ∨ w.heap.size ≤ k_) ∧ k_ ≠ ac) av (fa (fz1 HB ab) (fb aa)); have aC := ar0 w.heap.size (ok' := fun k_ => ((P1_ k_ ∨ P2_ k_) ∨ w.heap.size ≤ k_) ∧ k_ ≠ ac) aE (fa (fz1 HB ab) (fb aa)); replace aa := kb aa hb; replace HB := be1 HB ab hb; (try clear hb); (try clear av); (try clear aE)) | ((with_reducible refine gate_callee (f := 157) rfl ?_); refine goesL_ (some 33) rfl rfl Try.func157 (by kernel_rfl) rfl #[.slice A2 l2.length c2, .slice aP ag.length aQ] rfl lu ?_; (with_reducible refine (codewrightref01_DivMod.calls kj3 _ _ l2 _ _ ag aG aO _ ?side1 ?side2 ?side3 ?side4 bx.out).mono ?_); (case side1 => exact cu (Kd.V_reads' af.out).2.2); (case side2 => exact (Kd.V_reads' af.out).2.1); (case side3 => exact cu (Kd.V_reads' ad.out).2.2); (case side4 => exact (Kd.V_reads' ad.out).2.1); rintro e bG ⟨bo, bp, rfl, av, aE, hb⟩; refine ⟨_, rfl, ?_⟩; replace av := R_V_base rfl av; replace aE := R_V_base rfl aE; replace ae := kv ae hb; replace af := kv af hb; replace ad := kv ad hb; replace ak := kv ak hb; replace aC := kv aC hb; have aD := ar0 w.heap.size (ok' := fun k_ => ((P1_ k_ ∨ P2_ k_) ∨ w.heap.size ≤ k_) ∧ k_ ≠ ac) av (fa (fz1 HB ab) (fb aa)); have ba := ar0 w.heap.size (ok' := fun k_ => ((P1_ k_ ∨ P2_ k_) ∨ w.heap.size ≤ k_) ∧ k_ ≠ ac) aE (fa (fz1 HB ab) (fb aa)); replace aa := kb aa hb; replace HB := be1 HB ab hb; (try clear hb); (try clear av); (try clear aE); obtain ⟨bb, bd, bf⟩ := Kd.V_slice aD.out; subst bf; obtain ⟨bg, bh, bi⟩ := Kd.V_slice ak.out; subst bi; obtain ⟨aY, aZ, a1, a2, a3, a4⟩ := bz aa))
    refine bodyPost_ret (results_cell_row rfl _ _ ac 67 #[.bool a0, .slice bg aF.length bh, .slice bb aG.length bd] (0, 0) _ rfl (kp aa.out) Try.underlying67 rfl (by kernel_rfl)) rfl ?_
    exact ⟨_, _, by first | rfl | (simp [errW_none, errW_some] <;> rfl) | (simp [*, errW_none, errW_some] <;> rfl), by exact vf ak.out, by exact vf aD.out, by repeat (first | (with_reducible first | exact HB.out | apply below_alloc | apply pw_below_drewN | apply below_drew1 | refine below_set ?_ ab.out) | exact HB.out)⟩
def codewrightref01_Of.f (k : Nat) (a0 : Int) : Option (List Int) := (codewrightref01_Trim.f k (([(Int.tmod a0 4294967296) % 4294967296, (IntKind.u64.wrap (Int.tdiv a0 4294967296)) % 4294967296] : List Int))).bind fun t1205 => (some t1205)
theorem codewrightref01_Of.calls (k : Nat) (a0 : Int) (r : List Int) (w : World) (h : codewrightref01_Of.f k a0 = some r) :
 Calls Try.prog 169 #[.int .u64 a0] w fun e w' => ∃ v0_ : Value, e = .returned (v0_) ∧ Kd.R (Kd.int .u32) 48 w' w.heap.size (fun _ => True) v0_ r ∧ Below w.heap.size w w' := by
 have HB := am (Below.refl w.heap.size w)
 have H : ((codewrightref01_Trim.f k (([(Int.tmod a0 4294967296) % 4294967296, (IntKind.u64.wrap (Int.tdiv a0 4294967296)) % 4294967296] : List Int))).bind fun ac => (some ac)) = some r := h
 clear h
 obtain ⟨ae, ab⟩ : ∃ y_ : List Int, y_ = (([(Int.tmod a0 4294967296) % 4294967296, (IntKind.u64.wrap (Int.tdiv a0 4294967296)) % 4294967296] : List Int)) := ⟨_, rfl⟩
 rw [← ab] at H
 have ad := am ab
 clear ab
 obtain ⟨ac, A2, H⟩ := bs H
 replace H : (some ac) = some r := H
 obtain rfl := Option.some.inj H
 go_enter Try.func169, Try.ntmps169
 go_wp2_with (first | ((with_reducible refine gate_dst (N := 9) rfl ?_); refine Kd.R_lit (Kd.int .u32) _ 48 ?hg (N := 9) ?hd (xs := ([(Int.tmod a0 4294967296) % 4294967296, (IntKind.u64.wrap (Int.tdiv a0 4294967296)) % 4294967296] : List Int)) (inner := [.int .u32 ((Int.tmod a0 4294967296) % 4294967296), .int .u32 ((IntKind.u64.wrap (Int.tdiv a0 4294967296)) % 4294967296)]) (ok := fun _ => True) (okp := fun _ => True) ?hr ?hp (fun _ hk => hk) trivial (Below.refl _ _) (Nat.le_refl _) (by simp) ?_; (case hd => rfl); (case hg => rfl); (case hr => first | (go_simp; done) | (go_simp; rfl)); (case hp => exact (Reps.one (show Kd.M (Kd.int .u32) _ _ _ ((Int.tmod a0 4294967296) % 4294967296) [.int .u32 ((Int.tmod a0 4294967296) % 4294967296)] from rfl) (Reps.one (show Kd.M (Kd.int .u32) _ _ _ ((IntKind.u64.wrap (Int.tdiv a0 4294967296)) % 4294967296) [.int .u32 ((IntKind.u64.wrap (Int.tdiv a0 4294967296)) % 4294967296)] from rfl) (Reps.none _ _)))); intro ai w3 ag hb hg_ hnew_; clear hg_ hnew_; (first | rw [← ad.out] at ag | (simp only [Int.reduceToNat] at ag; rw [← ad.out] at ag)); have aa := am (Kd.R_lower ag (below_size (bu HB.out))); replace HB := be HB hb; clear hb ag; obtain ⟨ak, al, an⟩ := Kd.R_slice aa.out; subst an) | ((with_reducible refine gate_callee (f := 144) rfl ?_); refine goesL_ (some 10) rfl rfl Try.func144 (by kernel_rfl) rfl #[.slice ak ae.length al] rfl lu ?_; (with_reducible refine (codewrightref01_Trim.calls k _ _ ae ac _ ?side1 ?side2 A2.out).mono ?_); (case side1 => exact cu (Kd.R_reads' aa.out).2.2); (case side2 => exact (Kd.R_reads' aa.out).2.1); rintro e w6 ⟨aj, rfl, ah, hb⟩; refine ⟨_, rfl, ?_⟩; have af := am (Kd.R_lower (Kd.R_new' ah (Kd.R_lt (by (with_reducible repeat (first | apply Kd.R_alloc | apply Kd.R_drewN | apply Kd.R_drew)); exact aa.out))) (below_size (bu HB.out))); replace aa := am (Kd.R_elder' (by (with_reducible repeat (first | apply Kd.R_alloc | apply Kd.R_drewN | apply Kd.R_drew)); exact aa.out) (Kd.R_base ah) hb); replace HB := be HB hb; (try clear hb); (try clear hk); (try clear ah)))
 go_ret
 exact ⟨_, by first | rfl | (simp [errW_none, errW_some] <;> rfl) | (simp [*, errW_none, errW_some] <;> rfl), by (with_reducible repeat (first | apply Kd.R_alloc | apply Kd.R_drewN | apply Kd.R_drew)); exact Kd.R_mono af.out (fun _ hk => trivial), by repeat (first | (with_reducible first | exact HB.out | apply below_alloc | apply pw_below_drewN | apply below_drew1) | exact HB.out)⟩
def codewrightref02_abs.f (k : Nat) (a0 : Int) : Option (List Int) := if a0 < 0 then ((codewrightref01_Of.f k (IntKind.u64.wrap (wrap64 (-(wrap64 (a0 + 1)))))).bind fun t1208 => ((codewrightref01_Add.f k t1208 (([1] : List Int))).bind fun t1214 => (some t1214))) else ((codewrightref01_Of.f k (IntKind.u64.wrap (a0))).bind fun t1217 => (some t1217))
theorem codewrightref02_abs.calls (k : Nat) (a0 : Int) (r : List Int) (w : World) (h : codewrightref02_abs.f k a0 = some r) :
 Calls Try.prog 159 #[.int .i64 a0] w fun e w' => ∃ v0_ : Value, e = .returned (v0_) ∧ Kd.V (Kd.int .u32) 48 w' w.heap.size (fun k_ => (w.heap.size ≤ k_)) v0_ r ∧ Below w.heap.size w w' := by
 have HB := am (Below.refl w.heap.size w)
 have H : (if a0 < 0 then ((codewrightref01_Of.f k (IntKind.u64.wrap (wrap64 (-(wrap64 (a0 + 1)))))).bind fun ac => ((codewrightref01_Add.f k ac (([1] : List Int))).bind fun ae => (some ae))) else ((codewrightref01_Of.f k (IntKind.u64.wrap (a0))).bind fun af => (some af))) = some r := h
 clear h
 by_cases c2 : a0 < 0
 ·
  rw [if_pos c2] at H
  have an : decide (a0 < 0) = true := decide_eq_true c2
  clear c2
  obtain ⟨ac, A3, H⟩ := bs H
  (try dsimp -simprocs only at H)
  obtain ⟨ah, ad⟩ : ∃ y_ : List Int, y_ = (([1] : List Int)) := ⟨_, rfl⟩
  rw [← ad] at H
  have ai := am ad
  clear ad
  obtain ⟨ae, A4, H⟩ := bs H
  replace H : (some ae) = some r := H
  obtain rfl := Option.some.inj H
  go_enter Try.func159, Try.ntmps159
  go_wp2_with (first | ((with_reducible refine gate_callee (f := 169) rfl ?_); refine goesL_ (some 9) rfl rfl Try.func169 (by kernel_rfl) rfl #[.int .u64 (IntKind.u64.wrap (wrap64 (-(wrap64 (a0 + 1)))))] rfl lu ?_; (with_reducible refine (codewrightref01_Of.calls k (IntKind.u64.wrap (wrap64 (-(wrap64 (a0 + 1))))) ac _ A3.out).mono ?_); rintro e w5 ⟨ao, rfl, ag, hb⟩; refine ⟨_, rfl, ?_⟩; replace ag := R_V_base rfl ag; have aa := ar0 w.heap.size (ok' := fun k_ => (w.heap.size ≤ k_)) ag (fz HB); replace HB := be HB hb; (try clear hb); (try clear hk); (try clear ag)) | ((with_reducible refine gate_dst (N := 10) rfl ?_); refine Kd.R_lit (Kd.int .u32) _ 48 ?hg (N := 10) ?hd (xs := ([1] : List Int)) (inner := [.int .u32 1]) (ok := fun _ => True) (okp := fun _ => True) ?hr ?hp (fun _ hk => hk) trivial (Below.refl _ _) (Nat.le_refl _) (by simp) ?_; (case hd => rfl); (case hg => rfl); (case hr => first | (go_simp; done) | (go_simp; rfl)); (case hp => exact (Reps.one (show Kd.M (Kd.int .u32) _ _ _ 1 [.int .u32 1] from rfl) (Reps.none _ _))); intro ap w6 al hb hg_ hnew_; clear hg_ hnew_; (first | rw [← ai.out] at al | (simp only [Int.reduceToNat] at al; rw [← ai.out] at al)); replace aa := am (Kd.V_elder' (vu aa.out) (Kd.R_base al) hb); have ab := am (Kd.R_lower (Kd.R_newM (M := fun k_ => (w.heap.size ≤ k_)) al (below_size (bu HB.out)) (fun k_ h_ => h_)) (below_size (bu HB.out))); replace HB := be HB hb; clear hb al; obtain ⟨ax, ay, az⟩ := Kd.V_slice aa.out; subst az; obtain ⟨aq, au, aA⟩ := Kd.R_slice ab.out; subst aA) | ((with_reducible refine gate_callee (f := 55) rfl ?_); refine goesL_ (some 11) rfl rfl Try.func55 (by kernel_rfl) rfl #[.slice ax ac.length ay, .slice aq ah.length au] rfl lu ?_; (with_reducible refine (codewrightref01_Add.calls k _ _ ac _ _ ah ae _ ?side1 ?side2 ?side3 ?side4 A4.out).mono ?_); (case side1 => exact cu (Kd.V_reads' aa.out).2.2); (case side2 => exact (Kd.V_reads' aa.out).2.1); (case side3 => exact cu (Kd.R_reads' ab.out).2.2); (case side4 => exact (Kd.R_reads' ab.out).2.1); rintro e aC ⟨av, rfl, ag, hb⟩; refine ⟨_, rfl, ?_⟩; replace ag := R_V_base rfl ag; replace aa := kv aa hb; have aj := am (Kd.V_lower (Kd.V_mono (ok' := fun k_ => (w.heap.size ≤ k_) ∧ some k_ ≠ (.slice aq ah.length au : Value).ownBlock) ag (fun k_ hk_ => ⟨(Nat.le_trans (below_size (bu HB.out)) hk_), (Kd.fresh' (Kd.R_lt (by (with_reducible repeat (first | apply Kd.R_alloc | apply Kd.R_drewN | apply Kd.R_drew)); exact ab.out)) k_ hk_)⟩)) (below_size (bu HB.out))); replace ab := am (Kd.R_below (by (with_reducible repeat (first | apply Kd.R_alloc | apply Kd.R_drewN | apply Kd.R_drew)); exact ab.out) hb); replace HB := be HB hb; (try clear hb); (try clear hk); (try clear ag)))
  go_ret
  exact ⟨_, by first | rfl | (simp [errW_none, errW_some] <;> rfl) | (simp [*, errW_none, errW_some] <;> rfl), by exact vz aj.out, by repeat (first | (with_reducible first | exact HB.out | apply below_alloc | apply pw_below_drewN | apply below_drew1) | exact HB.out)⟩
 ·
  rw [if_neg c2] at H
  have an : decide (a0 < 0) = false := decide_eq_false c2
  clear c2
  obtain ⟨af, aB, H⟩ := bs H
  replace H : (some af) = some r := H
  obtain rfl := Option.some.inj H
  go_enter Try.func159, Try.ntmps159
  go_wp2_with (first | ((with_reducible refine gate_callee (f := 169) rfl ?_); refine goesL_ (some 14) rfl rfl Try.func169 (by kernel_rfl) rfl #[.int .u64 (IntKind.u64.wrap (a0))] rfl lu ?_; (with_reducible refine (codewrightref01_Of.calls k (IntKind.u64.wrap (a0)) af _ aB.out).mono ?_); rintro e aD ⟨aw, rfl, ag, hb⟩; refine ⟨_, rfl, ?_⟩; replace ag := R_V_base rfl ag; have ak := ar0 w.heap.size (ok' := fun k_ => (w.heap.size ≤ k_)) ag (fz HB); replace HB := be HB hb; (try clear hb); (try clear ag)))
  go_ret
  exact ⟨_, by first | rfl | (simp [errW_none, errW_some] <;> rfl) | (simp [*, errW_none, errW_some] <;> rfl), by (with_reducible repeat (first | apply Kd.V_alloc | apply Kd.V_drewN | apply Kd.V_drew)); exact ak.out, by repeat (first | (with_reducible first | exact HB.out | apply below_alloc | apply pw_below_drewN | apply below_drew1) | exact HB.out)⟩
def codewrightref02_Of.f (k : Nat) (a0 : Int) (a1 : Int) : Option (Bool × List Int × List Int) := (codewrightref02_abs.f k a0).bind fun t1221 => ((codewrightref02_abs.f k a1).bind fun t1224 => ((codewrightref02_Make.f k ((decide (a0 < 0)) != (decide (a1 < 0))) t1221 t1224).bind fun bt1227 => (some (bt1227.1, bt1227.2.1, bt1227.2.2))))
theorem codewrightref02_Of.calls (k : Nat) (a0 : Int) (a1 : Int) (r1 : Bool) (r2 : List Int) (r3 : List Int) (w : World) (h : codewrightref02_Of.f k a0 a1 = some (r1, r2, r3)) :
 Calls Try.prog 85 #[.int .i64 a0, .int .i64 a1] w fun e w' => ∃ v1_ v2_ : Value, e = .returned (.agg #[.bool r1, v1_, v2_]) ∧ Kd.V (Kd.int .u32) 48 w' w.heap.size (fun k_ => (w.heap.size ≤ k_)) v1_ r2 ∧ Kd.V (Kd.int .u32) 48 w' w.heap.size (fun k_ => (w.heap.size ≤ k_)) v2_ r3 ∧ Below w.heap.size w w' := by
 have aN := Try.underlying67
 have HB := am (Below.refl w.heap.size w)
 have H : ((codewrightref02_abs.f k a0).bind fun af => ((codewrightref02_abs.f k a1).bind fun ag => ((codewrightref02_Make.f k ((decide (a0 < 0)) != (decide (a1 < 0))) af ag).bind fun ah => (some (ah.1, ah.2.1, ah.2.2))))) = some (r1, r2, r3) := h
 clear h
 obtain ⟨af, A3, H⟩ := bs H
 (try dsimp -simprocs only at H)
 obtain ⟨ag, A4, H⟩ := bs H
 (try dsimp -simprocs only at H)
 obtain ⟨⟨ak, al, an⟩, A5, H⟩ := bs H
 (try dsimp -simprocs only at H)
 simp only [Option.some.injEq, Prod.mk.injEq] at H
 obtain ⟨rfl, rfl, rfl⟩ := H
 go_enter Try.func85, Try.ntmps85
 go_wp2_with (first | ((with_reducible refine gate_dst (N := 4) rfl ?_); refine box_event ?hg (N := 4) ?hd (cs := #[.bool false, .slice none 0 0, .slice none 0 0]) (t := 67) ?hr ?_; (case hd => rfl); (case hg => rfl); (case hr => first | (go_simp; done) | (go_simp; rfl)); intro ac hg w6 hbox hb; have aa := am (hbox); have ay := ng hg (bu HB.out); have ab := ng hg (bu HB.out); replace HB := be HB hb; clear hb hbox hg) | ((with_reducible refine gate_callee (f := 159) rfl ?_); refine goesL_ (some 11) rfl rfl Try.func159 (by kernel_rfl) rfl #[.int .i64 a0] rfl lu ?_; (with_reducible refine (codewrightref02_abs.calls k a0 af _ A3.out).mono ?_); rintro e w7 ⟨aI, rfl, ao, hb⟩; refine ⟨_, rfl, ?_⟩; have ad := ar0 w.heap.size (ok' := fun k_ => (w.heap.size ≤ k_) ∧ k_ ≠ ac) ao (fa (fz1 HB ab) (fb aa)); replace aa := kb aa hb; replace HB := be1 HB ab hb; (try clear hb); (try clear ao)) | ((with_reducible refine gate_callee (f := 159) rfl ?_); refine goesL_ (some 13) rfl rfl Try.func159 (by kernel_rfl) rfl #[.int .i64 a1] rfl lu ?_; (with_reducible refine (codewrightref02_abs.calls k a1 ag _ A4.out).mono ?_); rintro e w8 ⟨aJ, rfl, ao, hb⟩; refine ⟨_, rfl, ?_⟩; replace ad := kv ad hb; have ae := ar0 w.heap.size (ok' := fun k_ => (w.heap.size ≤ k_) ∧ k_ ≠ ac) ao (fa (fz1 HB ab) (fb aa)); replace aa := kb aa hb; replace HB := be1 HB ab hb; (try clear hb); (try clear ao); obtain ⟨aO, aP, aQ⟩ := Kd.V_slice ad.out; subst aQ; obtain ⟨az, aA, aB⟩ := Kd.V_slice ae.out; subst aB) | ((with_reducible refine gate_callee (f := 80) rfl ?_); refine goesL_ (some 14) rfl rfl Try.func80 (by kernel_rfl) rfl #[.bool ((decide (a0 < 0)) != (decide (a1 < 0))), .slice aO af.length aP, .slice az ag.length aA] rfl lu ?_; (with_reducible refine (codewrightref02_Make.calls k ((decide (a0 < 0)) != (decide (a1 < 0))) (fun k_ => ((w.heap.size ≤ k_) ∧ k_ ≠ ac)) _ _ af (fun k_ => ((w.heap.size ≤ k_) ∧ k_ ≠ ac)) _ _ ag ak al an _ ?side1 ?side2 A5.out).mono ?_); (case side1 => exact vz ad.out); (case side2 => exact vz ae.out); rintro e aR ⟨aK, aL, rfl, ao, aM, hb⟩; refine ⟨_, rfl, ?_⟩; replace ad := kv ad hb; replace ae := kv ae hb; have ai := ar w.heap.size (ok' := fun k_ => (w.heap.size ≤ k_) ∧ k_ ≠ ac) ao (fa (fz1 HB ab) (fb aa)); have aj := ar w.heap.size (ok' := fun k_ => (w.heap.size ≤ k_) ∧ k_ ≠ ac) aM (fa (fz1 HB ab) (fb aa)); replace aa := kb aa hb; replace HB := be1 HB ab hb; (try clear hb); (try clear ao); (try clear aM); obtain ⟨ap, aq, au, av, aw, ax⟩ := bz aa; obtain ⟨aC, aD, aE⟩ := Kd.V_slice ai.out; subst aE; obtain ⟨aF, aG, aH⟩ := Kd.V_slice aj.out; subst aH))
 refine bodyPost_ret (results_cell_row rfl _ _ ac 67 #[.bool ak, .slice aC al.length aD, .slice aF an.length aG] (0, 0) _ rfl (kp aa.out) Try.underlying67 rfl (by kernel_rfl)) rfl ?_
 exact ⟨_, _, by first | rfl | (simp [errW_none, errW_some] <;> rfl) | (simp [*, errW_none, errW_some] <;> rfl), by exact vf ai.out, by exact vf aj.out, by repeat (first | (with_reducible first | exact HB.out | apply below_alloc | apply pw_below_drewN | apply below_drew1 | refine below_set ?_ ab.out) | exact HB.out)⟩
def codewrightref02_Int.f (k : Nat) (a0 : Int) : Option (Bool × List Int × List Int) := (codewrightref02_Of.f k a0 1).bind fun bt1706 => (some (bt1706.1, bt1706.2.1, bt1706.2.2))
theorem codewrightref02_Int.calls (k : Nat) (a0 : Int) (r1 : Bool) (r2 : List Int) (r3 : List Int) (w : World) (h : codewrightref02_Int.f k a0 = some (r1, r2, r3)) :
 Calls Try.prog 99 #[.int .i64 a0] w fun e w' => ∃ v1_ v2_ : Value, e = .returned (.agg #[.bool r1, v1_, v2_]) ∧ Kd.V (Kd.int .u32) 48 w' w.heap.size (fun k_ => (w.heap.size ≤ k_)) v1_ r2 ∧ Kd.V (Kd.int .u32) 48 w' w.heap.size (fun k_ => (w.heap.size ≤ k_)) v2_ r3 ∧ Below w.heap.size w w' := by
 have ay := Try.underlying67
 have HB := am (Below.refl w.heap.size w)
 have H : ((codewrightref02_Of.f k a0 1).bind fun ac => (some (ac.1, ac.2.1, ac.2.2))) = some (r1, r2, r3) := h
 clear h
 obtain ⟨⟨ag, ah, ai⟩, A2, H⟩ := bs H
 (try dsimp -simprocs only at H)
 simp only [Option.some.injEq, Prod.mk.injEq] at H
 obtain ⟨rfl, rfl, rfl⟩ := H
 go_enter Try.func99, Try.ntmps99
 go_wp2_with (first | ((with_reducible refine gate_dst (N := 2) rfl ?_); refine box_event ?hg (N := 2) ?hd (cs := #[.bool false, .slice none 0 0, .slice none 0 0]) (t := 67) ?hr ?_; (case hd => rfl); (case hg => rfl); (case hr => first | (go_simp; done) | (go_simp; rfl)); intro ad hg w3 hbox hb; have aa := am (hbox); have aj := ng hg (bu HB.out); have ab := ng hg (bu HB.out); replace HB := be HB hb; clear hb hbox hg) | ((with_reducible refine gate_callee (f := 85) rfl ?_); refine goesL_ (some 4) rfl rfl Try.func85 (by kernel_rfl) rfl #[.int .i64 a0, .int .i64 1] rfl lu ?_; (with_reducible refine (codewrightref02_Of.calls k a0 1 ag ah ai _ A2.out).mono ?_); rintro e w4 ⟨au, av, rfl, aw, ax, hb⟩; refine ⟨_, rfl, ?_⟩; have ae := ar0 w.heap.size (ok' := fun k_ => (w.heap.size ≤ k_) ∧ k_ ≠ ad) aw (fa (fz1 HB ab) (fb aa)); have af := ar0 w.heap.size (ok' := fun k_ => (w.heap.size ≤ k_) ∧ k_ ≠ ad) ax (fa (fz1 HB ab) (fb aa)); replace aa := kb aa hb; replace HB := be1 HB ab hb; (try clear hb); (try clear aw); (try clear ax); obtain ⟨ak, al, an, ao, ap, aq⟩ := bz aa; obtain ⟨az, aA, aB⟩ := Kd.V_slice ae.out; subst aB; obtain ⟨aC, aD, aE⟩ := Kd.V_slice af.out; subst aE))
 refine bodyPost_ret (results_cell_row rfl _ _ ad 67 #[.bool ag, .slice az ah.length aA, .slice aC ai.length aD] (0, 0) _ rfl (kp aa.out) Try.underlying67 rfl (by kernel_rfl)) rfl ?_
 exact ⟨_, _, by first | rfl | (simp [errW_none, errW_some] <;> rfl) | (simp [*, errW_none, errW_some] <;> rfl), by exact vf ae.out, by exact vf af.out, by repeat (first | (with_reducible first | exact HB.out | apply below_alloc | apply pw_below_drewN | apply below_drew1 | refine below_set ?_ ab.out) | exact HB.out)⟩
def rational_Sign.j0 : Nat → Bool → Bool → List Int → List Int → Option (Int)
 | 0, _, _, _, _ => none
 | k + 1, x3, x1285000, x1285001, x1285002 => if x3 = true then (some 0) else (if x1285000 = true then (some (-1)) else (some 1))
def rational_Sign.f (k : Nat) (a0_0 : Bool) (l0_1 : List Int) (l0_2 : List Int) : Option (Int) := (nat_Bits.f k l0_1).bind fun t1285 => (if t1285 = 0 then (rational_Sign.j0 k true a0_0 l0_1 l0_2) else ((nat_Bits.f k l0_2).bind fun t1286 => (rational_Sign.j0 k (t1286 == 0) a0_0 l0_1 l0_2)))
theorem rational_Sign.calls (k : Nat) (a0_0 : Bool) (A0_1 : Option Addr) (c0_1 : Nat) (l0_1 : List Int) (A0_2 : Option Addr) (c0_2 : Nat) (l0_2 : List Int) (r : Int) (w : World) (hr0_1 : Kd.C (Kd.int .u32) w A0_1 l0_1.length l0_1) (hc0_1 : l0_1.length ≤ c0_1) (hr0_2 : Kd.C (Kd.int .u32) w A0_2 l0_2.length l0_2) (hc0_2 : l0_2.length ≤ c0_2) (h : rational_Sign.f k a0_0 l0_1 l0_2 = some r) :
 Calls Try.prog 91 #[.agg #[.bool a0_0, .slice A0_1 l0_1.length c0_1, .slice A0_2 l0_2.length c0_2]] w fun e w' => e = .returned (.int .i64 r) ∧ Below w.heap.size w w' := by
 have aY := Try.underlying67
 have ap := am hr0_1
 have ae := am hc0_1
 clear hr0_1 hc0_1
 have aH := am hr0_2
 have aq := am hc0_2
 clear hr0_2 hc0_2
 have HB := am (Below.refl w.heap.size w)
 have H : ((nat_Bits.f k l0_1).bind fun ac => (if ac = 0 then (rational_Sign.j0 k true a0_0 l0_1 l0_2) else ((nat_Bits.f k l0_2).bind fun ad => (rational_Sign.j0 k (ad == 0) a0_0 l0_1 l0_2)))) = some r := h
 clear h
 have aW := am H
 clear H
 go_enter Try.func91, Try.ntmps91
 go_upto_region 1 with (first | ((with_reducible refine gate_dst (N := 1) rfl ?_); refine box_event ?hg (N := 1) ?hd (cs := #[.bool a0_0, .slice A0_1 l0_1.length c0_1, .slice A0_2 l0_2.length c0_2]) (t := 67) ?hr ?_; (case hd => rfl); (case hg => rfl); (case hr => first | (go_simp; done) | (go_simp; rfl)); intro au hg w3 hbox hb; have aa := am (hbox); have aX := ng hg (bu HB.out); have ab := ng hg (bu HB.out); replace HB := be HB hb; clear hb hbox hg))
 (try simp only [Act.put, List.setIfInBounds_toArray, List.set_cons_zero, List.set_cons_succ])
 go_cut [3] (fun v3 wc => ∃ (kq : Nat) (ag : Bool), v3 = .bool ag ∧ Aside0 (rational_Sign.j0 kq ag a0_0 l0_1 l0_2 = some r) ∧ Aside0 (kq ≤ k) ∧ Aside0 (wc.heap[au]? = some (.cells #[.bool a0_0, (.slice A0_1 l0_1.length c0_1), (.slice A0_2 l0_2.length c0_2)] 67 (0, 0))) ∧ Aside0 (Below w.heap.size w wc))
 case first =>
  have H := aW.out
  clear aW
  obtain ⟨ac, A4, H⟩ := bs H
  (try dsimp -simprocs only at H)
  by_cases c5 : ac = 0
  ·
   rw [if_pos c5] at H
   have af : (ac == 0) = true := beq_iff_eq.mpr c5
   have ah : (ac != 0) = false := bne_eq_false_iff_eq.mpr c5
   clear c5
   (first | rw [af] | rw [ah] | (simp only [i64_w, i32_w]; rw [af]) | skip)
   have H' := am H
   clear H
   obtain ⟨av, aw, ax, ay, az, aA⟩ := bz aa
   go_wp2_with (first | ((with_reducible refine gate_callee (f := 154) rfl ?_); refine goesL_ (some 6) rfl rfl Try.func154 (by kernel_rfl) rfl #[.slice A0_1 l0_1.length c0_1] rfl lu ?_; (with_reducible refine (nat_Bits.calls k _ _ l0_1 ac _ ?side1 ?side2 A4.out).mono ?_); (case side1 => repeat (first | exact (Kd.C_below ap.out HB.out) | (with_reducible refine Kd.C_alloc ?_ _) | (with_reducible refine Kd.C_drewN ?_ _) | (with_reducible refine Kd.C_drew ?_))); (case side2 => first | exact ae.out | exact vz ae.out); rintro e w7 ⟨rfl, hb⟩; refine ⟨_, rfl, ?_⟩; replace aa := kb aa hb; replace HB := be1 HB ab hb; (try clear hb)))
   go_meet
   case rel => exact ⟨_, (true), (by first | rfl | (simp; done) | (simp [*]; done)), H', ⟨by first | omega | exact Nat.le_refl _⟩, ⟨by (with_reducible repeat (first | refine blk_drewN ?_ _ | refine blk_drew ?_ | refine blk_alloc ?_ _)); exact aa.out⟩, ⟨by repeat (first | (with_reducible first | exact HB.out | apply below_alloc | apply pw_below_drewN | apply below_drew1 | refine below_set ?_ ab.out) | exact HB.out)⟩⟩
  ·
   rw [if_neg c5] at H
   have af : (ac == 0) = false := beq_eq_false_iff_ne.mpr c5
   have ah : (ac != 0) = true := bne_iff_ne.mpr c5
   (first | rw [af] | rw [ah] | (simp only [i64_w, i32_w]; rw [af]) | skip)
   obtain ⟨ad, A8, H⟩ := bs H
   (try dsimp -simprocs only at H)
   have H' := am H
   clear H
   obtain ⟨aB, aC, aD, aE, aF, aG⟩ := bz aa
   go_wp2_with (first | ((with_reducible refine gate_callee (f := 154) rfl ?_); refine goesL_ (some 6) rfl rfl Try.func154 (by kernel_rfl) rfl #[.slice A0_1 l0_1.length c0_1] rfl lu ?_; (with_reducible refine (nat_Bits.calls k _ _ l0_1 ac _ ?side1 ?side2 A4.out).mono ?_); (case side1 => repeat (first | exact (Kd.C_below ap.out HB.out) | (with_reducible refine Kd.C_alloc ?_ _) | (with_reducible refine Kd.C_drewN ?_ _) | (with_reducible refine Kd.C_drew ?_))); (case side2 => first | exact ae.out | exact vz ae.out); rintro e aZ ⟨rfl, hb⟩; refine ⟨_, rfl, ?_⟩; replace aa := kb aa hb; replace HB := be1 HB ab hb; (try clear hb); obtain ⟨ai, aj, ak, al, an, ao⟩ := bz aa) | (go_at_call 154; (with_reducible refine (nat_Bits.calls k _ _ l0_2 ad _ ?side1 ?side2 A8.out).mono ?_); (case side1 => repeat (first | exact (Kd.C_below aH.out HB.out) | (with_reducible refine Kd.C_alloc ?_ _) | (with_reducible refine Kd.C_drewN ?_ _) | (with_reducible refine Kd.C_drew ?_))); (case side2 => first | exact aq.out | exact vz aq.out); rintro e a0 ⟨rfl, hb⟩; replace aa := kb aa hb; replace HB := be1 HB ab hb; (try clear hb)))
   go_meet
   case rel => exact ⟨_, ((ad == 0)), (by first | rfl | (simp; done) | (simp [*]; done) | (cases ad <;> first | rfl | (simp; done))), H', ⟨by first | omega | exact Nat.le_refl _⟩, ⟨by (with_reducible repeat (first | refine blk_drewN ?_ _ | refine blk_drew ?_ | refine blk_alloc ?_ _)); exact aa.out⟩, ⟨by repeat (first | (with_reducible first | exact HB.out | apply below_alloc | apply pw_below_drewN | apply below_drew1 | refine below_set ?_ ab.out) | exact HB.out)⟩⟩
 case rest =>
  clear aW
  try clear c1
  try clear p2
  try clear c5
  try clear af
  try clear ah
  try clear c9
  try clear ai
  try clear aj
  try clear ak
  try clear av
  try clear aw
  try clear ax
  try clear aB
  try clear aC
  try clear aD
  try clear al
  try clear an
  try clear ao
  try clear ay
  try clear az
  try clear aA
  try clear aE
  try clear aF
  try clear aG
  obtain ⟨kq, ag, rfl, HA, HJ1, aa, HB⟩ := hcut
  cases kq with
  | zero => exact absurd HA.out (by simp [rational_Sign.j0])
  | succ kj1 =>
   have H := HA.out
   clear HA
   simp only [rational_Sign.j0] at H
   by_cases aI : ag = true
   ·
    subst aI
    have H1 : (some 0) = some r := by rw [if_pos rfl] at H; exact H
    clear H
    have H := H1
    clear H1
    obtain rfl := Option.some.inj H
    go_wp2
    go_ret
    exact ⟨by first | rfl | (simp [errW_none, errW_some] <;> rfl) | (simp [*, errW_none, errW_some] <;> rfl), by repeat (first | (with_reducible first | exact HB.out | apply below_alloc | apply pw_below_drewN | apply below_drew1 | refine below_set ?_ ab.out) | exact HB.out)⟩
   ·
    replace aI := Bool.eq_false_iff.mpr aI
    subst aI
    have H1 : (if a0_0 = true then (some (-1)) else (some 1)) = some r := by rw [if_neg (show ¬ (false = true) by decide)] at H; exact H
    clear H
    have H := H1
    clear H1
    by_cases aJ : a0_0 = true
    ·
     subst aJ
     have H1 : (some (-1)) = some r := by rw [if_pos rfl] at H; exact H
     clear H
     have H := H1
     clear H1
     obtain rfl := Option.some.inj H
     obtain ⟨aK, aL, aM, aN, aO, aP⟩ := bz aa
     go_wp2
     go_ret
     exact ⟨by first | rfl | (simp [errW_none, errW_some] <;> rfl) | (simp [*, errW_none, errW_some] <;> rfl), by repeat (first | (with_reducible first | exact HB.out | apply below_alloc | apply pw_below_drewN | apply below_drew1 | refine below_set ?_ ab.out) | exact HB.out)⟩
    ·
     replace aJ := Bool.eq_false_iff.mpr aJ
     subst aJ
     have H1 : (some 1) = some r := by rw [if_neg (show ¬ (false = true) by decide)] at H; exact H
     clear H
     have H := H1
     clear H1
     obtain rfl := Option.some.inj H
     obtain ⟨aQ, aR, aS, aT, aU, aV⟩ := bz aa
     go_wp2
     go_ret
     exact ⟨by first | rfl | (simp [errW_none, errW_some] <;> rfl) | (simp [*, errW_none, errW_some] <;> rfl), by repeat (first | (with_reducible first | exact HB.out | apply below_alloc | apply pw_below_drewN | apply below_drew1 | refine below_set ?_ ab.out) | exact HB.out)⟩
def codewrightref02_Trim.f (k : Nat) (a0_0 : Bool) (l0_1 : List Int) (l0_2 : List Int) : Option (Bool × List Int × List Int) := (codewrightref02_Make.f k a0_0 l0_1 l0_2).bind fun bt1129 => (some (bt1129.1, bt1129.2.1, bt1129.2.2))
theorem codewrightref02_Trim.calls (k : Nat) (a0_0 : Bool) (P0_1_ : Nat → Prop) (A0_1 : Option Addr) (c0_1 : Nat) (l0_1 : List Int) (P0_2_ : Nat → Prop) (A0_2 : Option Addr) (c0_2 : Nat) (l0_2 : List Int) (r1 : Bool) (r2 : List Int) (r3 : List Int) (w : World) (hs0_1 : Kd.V (Kd.int .u32) 48 w w.heap.size (fun k_ => P0_1_ k_) (.slice A0_1 l0_1.length c0_1) l0_1) (hs0_2 : Kd.V (Kd.int .u32) 48 w w.heap.size (fun k_ => P0_2_ k_) (.slice A0_2 l0_2.length c0_2) l0_2) (h : codewrightref02_Trim.f k a0_0 l0_1 l0_2 = some (r1, r2, r3)) :
 Calls Try.prog 88 #[.agg #[.bool a0_0, .slice A0_1 l0_1.length c0_1, .slice A0_2 l0_2.length c0_2]] w fun e w' => ∃ v1_ v2_ : Value, e = .returned (.agg #[.bool r1, v1_, v2_]) ∧ Kd.V (Kd.int .u32) 48 w' w.heap.size (fun k_ => ((P0_1_ k_ ∨ P0_2_ k_) ∨ w.heap.size ≤ k_)) v1_ r2 ∧ Kd.V (Kd.int .u32) 48 w' w.heap.size (fun k_ => ((P0_1_ k_ ∨ P0_2_ k_) ∨ w.heap.size ≤ k_)) v2_ r3 ∧ Below w.heap.size w w' := by
 have aP := Try.underlying67
 have ad := am (show Kd.V (Kd.int .u32) 48 w w.heap.size (fun k_ => ((P0_1_ k_ ∨ P0_2_ k_) ∨ w.heap.size ≤ k_)) (.slice A0_1 l0_1.length c0_1) l0_1 from Kd.V_mono hs0_1 (fun k_ hk => .inl (.inl hk)))
 have ae := am (show Kd.V (Kd.int .u32) 48 w w.heap.size (fun k_ => ((P0_1_ k_ ∨ P0_2_ k_) ∨ w.heap.size ≤ k_)) (.slice A0_2 l0_2.length c0_2) l0_2 from Kd.V_mono hs0_2 (fun k_ hk => .inl (.inr hk)))
 have HB := am (Below.refl w.heap.size w)
 have H : ((codewrightref02_Make.f k a0_0 l0_1 l0_2).bind fun ak => (some (ak.1, ak.2.1, ak.2.2))) = some (r1, r2, r3) := h
 clear h
 obtain ⟨⟨ao, ap, aq⟩, A2, H⟩ := bs H
 (try dsimp -simprocs only at H)
 simp only [Option.some.injEq, Prod.mk.injEq] at H
 obtain ⟨rfl, rfl, rfl⟩ := H
 go_enter Try.func88, Try.ntmps88
 go_wp2_with (first | ((with_reducible refine gate_dst (N := 1) rfl ?_); refine box_event ?hg (N := 1) ?hd (cs := #[.bool a0_0, .slice A0_1 l0_1.length c0_1, .slice A0_2 l0_2.length c0_2]) (t := 67) ?hr ?_; (case hd => rfl); (case hg => rfl); (case hr => first | (go_simp; done) | (go_simp; rfl)); intro ag hg w3 hbox hb; replace ad := ke ad hg hb; replace ae := ke ae hg hb; have aa := am (hbox); have au := ng hg (bu HB.out); have ab := ng hg (bu HB.out); replace HB := be HB hb; clear hb hbox hg) | ((with_reducible refine gate_dst (N := 2) rfl ?_); refine box_event ?hg (N := 2) ?hd (cs := #[.bool false, .slice none 0 0, .slice none 0 0]) (t := 67) ?hr ?_; (case hd => rfl); (case hg => rfl); (case hr => first | (go_simp; done) | (go_simp; rfl)); intro af hg w4 hbox hb; replace ad := ke ad hg hb; replace ae := ke ae hg hb; have ac := am (hbox); have av := ng hg (bu1 HB.out ab.out); have ah := ng hg (bu1 HB.out ab.out); replace HB := be1 HB ab hb; have ai := nl hg aa; have aj := nr hg aa; replace aa := kb aa hb; clear hb hbox hg; have aQ := ai.out; have aR := aj.out; obtain ⟨aw, ax, ay, az, aA, aB⟩ := bz aa) | ((with_reducible refine gate_callee (f := 80) rfl ?_); refine goesL_ (some 9) rfl rfl Try.func80 (by kernel_rfl) rfl #[.bool a0_0, .slice A0_1 l0_1.length c0_1, .slice A0_2 l0_2.length c0_2] rfl lu ?_; (with_reducible refine (codewrightref02_Make.calls k a0_0 (fun k_ => ((((P0_1_ k_ ∨ P0_2_ k_) ∨ w.heap.size ≤ k_) ∧ k_ ≠ ag) ∧ k_ ≠ af)) _ _ l0_1 (fun k_ => ((((P0_1_ k_ ∨ P0_2_ k_) ∨ w.heap.size ≤ k_) ∧ k_ ≠ ag) ∧ k_ ≠ af)) _ _ l0_2 ao ap aq _ ?side1 ?side2 A2.out).mono ?_); (case side1 => exact vz ad.out); (case side2 => exact vz ae.out); rintro e w7 ⟨aL, aM, rfl, aN, aO, hb⟩; refine ⟨_, rfl, ?_⟩; replace ad := kv ad hb; replace ae := kv ae hb; have al := ar w.heap.size (ok' := fun k_ => ((P0_1_ k_ ∨ P0_2_ k_) ∨ w.heap.size ≤ k_) ∧ k_ ≠ ag ∧ k_ ≠ af) aN (fa (fz2 HB ab ah) (fa (fb aa) (fb ac))); have an := ar w.heap.size (ok' := fun k_ => ((P0_1_ k_ ∨ P0_2_ k_) ∨ w.heap.size ≤ k_) ∧ k_ ≠ ag ∧ k_ ≠ af) aO (fa (fz2 HB ab ah) (fa (fb aa) (fb ac))); replace aa := kb aa hb; replace ac := kb ac hb; replace HB := be2 HB ab ah hb; (try clear hb); (try clear aN); (try clear aO); obtain ⟨aC, aD, aE, aF, aG, aH⟩ := bz ac; obtain ⟨aS, aT, aU⟩ := Kd.V_slice al.out; subst aU; obtain ⟨aI, aJ, aK⟩ := Kd.V_slice an.out; subst aK))
 refine bodyPost_ret (results_cell_row rfl _ _ af 67 #[.bool ao, .slice aS ap.length aT, .slice aI aq.length aJ] (0, 0) _ rfl (kp ac.out) Try.underlying67 rfl (by kernel_rfl)) rfl ?_
 exact ⟨_, _, by first | rfl | (simp [errW_none, errW_some] <;> rfl) | (simp [*, errW_none, errW_some] <;> rfl), by exact vf al.out, by exact vf an.out, by repeat (first | (with_reducible first | exact HB.out | apply below_alloc | apply pw_below_drewN | apply below_drew1 | refine below_set ?_ ab.out | refine below_set ?_ ah.out) | exact HB.out)⟩
def codewrightref02_Whole.f (k : Nat) (a0_0 : Bool) (l0_1 : List Int) (l0_2 : List Int) : Option (List Int × Bool) := (codewrightref02_Trim.f k a0_0 l0_1 l0_2).bind fun bt2495 => (if bt2495.1 = true then (some (([] : List Int), false)) else ((codewrightref01_Same.f k bt2495.2.2 (([1] : List Int))).bind fun t2505 => (if t2505 = true then (some (bt2495.2.1, true)) else (some (([] : List Int), false)))))
theorem codewrightref02_Whole.calls (k : Nat) (a0_0 : Bool) (P0_1_ : Nat → Prop) (A0_1 : Option Addr) (c0_1 : Nat) (l0_1 : List Int) (P0_2_ : Nat → Prop) (A0_2 : Option Addr) (c0_2 : Nat) (l0_2 : List Int) (r1 : List Int) (r2 : Bool) (w : World) (hs0_1 : Kd.V (Kd.int .u32) 48 w w.heap.size (fun k_ => P0_1_ k_) (.slice A0_1 l0_1.length c0_1) l0_1) (hs0_2 : Kd.V (Kd.int .u32) 48 w w.heap.size (fun k_ => P0_2_ k_) (.slice A0_2 l0_2.length c0_2) l0_2) (h : codewrightref02_Whole.f k a0_0 l0_1 l0_2 = some (r1, r2)) :
 Calls Try.prog 108 #[.agg #[.bool a0_0, .slice A0_1 l0_1.length c0_1, .slice A0_2 l0_2.length c0_2]] w fun e w' => ∃ v0_ : Value, e = .returned (.tuple #[v0_, .bool r2]) ∧ Kd.V (Kd.int .u32) 48 w' w.heap.size (fun k_ => ((P0_1_ k_ ∨ P0_2_ k_) ∨ w.heap.size ≤ k_)) v0_ r1 ∧ Below w.heap.size w w' := by
 have bF := Try.underlying67
 have ad := am (show Kd.V (Kd.int .u32) 48 w w.heap.size (fun k_ => ((P0_1_ k_ ∨ P0_2_ k_) ∨ w.heap.size ≤ k_)) (.slice A0_1 l0_1.length c0_1) l0_1 from Kd.V_mono hs0_1 (fun k_ hk => .inl (.inl hk)))
 have ae := am (show Kd.V (Kd.int .u32) 48 w w.heap.size (fun k_ => ((P0_1_ k_ ∨ P0_2_ k_) ∨ w.heap.size ≤ k_)) (.slice A0_2 l0_2.length c0_2) l0_2 from Kd.V_mono hs0_2 (fun k_ hk => .inl (.inr hk)))
 have HB := am (Below.refl w.heap.size w)
 have H : ((codewrightref02_Trim.f k a0_0 l0_1 l0_2).bind fun aq => (if aq.1 = true then (some (([] : List Int), false)) else ((codewrightref01_Same.f k aq.2.2 (([1] : List Int))).bind fun ak => (if ak = true then (some (aq.2.1, true)) else (some (([] : List Int), false)))))) = some (r1, r2) := h
 clear h
 obtain ⟨⟨aI, ah, ag⟩, A2, H⟩ := bs H
 (try dsimp -simprocs only at H)
 by_cases c3 : aI = true
 ·
  subst c3
  have H1 : (some (([] : List Int), false)) = some (r1, r2) := by rw [if_pos rfl] at H; exact H
  clear H
  have H := H1
  clear H1
  simp only [Option.some.injEq, Prod.mk.injEq] at H
  obtain ⟨rfl, rfl⟩ := H
  go_enter Try.func108, Try.ntmps108
  go_wp2_with (first | ((with_reducible refine gate_dst (N := 1) rfl ?_); (try (refine gate_guard (by rfl) ?_; dsimp only)); refine box_event ?hg (N := 1) ?hd (cs := #[.bool a0_0, .slice A0_1 l0_1.length c0_1, .slice A0_2 l0_2.length c0_2]) (t := 67) ?hr ?_; (case hd => rfl); (case hg => rfl); (case hr => first | (go_simp; done) | (go_simp; rfl)); intro aa hg w4 hbox hb; replace ad := ke ad hg hb; replace ae := ke ae hg hb; have ab := am (hbox); have au := ng hg (bu HB.out); have ac := ng hg (bu HB.out); replace HB := be HB hb; clear hb hbox hg; obtain ⟨bh, bi, bj, bk, bl, bm⟩ := bz ab) | ((with_reducible refine gate_callee (f := 88) rfl ?_); refine goesL_ (some 5) rfl rfl Try.func88 (by kernel_rfl) rfl #[.agg #[.bool a0_0, .slice A0_1 l0_1.length c0_1, .slice A0_2 l0_2.length c0_2]] rfl lu ?_; (with_reducible refine (codewrightref02_Trim.calls k a0_0 (fun k_ => (((P0_1_ k_ ∨ P0_2_ k_) ∨ w.heap.size ≤ k_) ∧ k_ ≠ aa)) _ _ l0_1 (fun k_ => (((P0_1_ k_ ∨ P0_2_ k_) ∨ w.heap.size ≤ k_) ∧ k_ ≠ aa)) _ _ l0_2 true ah ag _ ?side1 ?side2 A2.out).mono ?_); (case side1 => exact vz ad.out); (case side2 => exact vz ae.out); rintro e w6 ⟨aE, aF, rfl, aG, aH, hb⟩; refine ⟨_, rfl, ?_⟩; replace ad := kv ad hb; replace ae := kv ae hb; have ai := ar w.heap.size (ok' := fun k_ => ((P0_1_ k_ ∨ P0_2_ k_) ∨ w.heap.size ≤ k_) ∧ k_ ≠ aa) aG (fa (fz1 HB ac) (fb ab)); have af := ar w.heap.size (ok' := fun k_ => ((P0_1_ k_ ∨ P0_2_ k_) ∨ w.heap.size ≤ k_) ∧ k_ ≠ aa) aH (fa (fz1 HB ac) (fb ab)); replace ab := kb ab hb; replace HB := be1 HB ac hb; (try clear hb); (try clear aG); (try clear aH); obtain ⟨bn, bo, bp, bq, br, bv⟩ := bz ab; obtain ⟨bM, bN, bG⟩ := Kd.V_slice ai.out; subst bG; obtain ⟨bO, bP, bH⟩ := Kd.V_slice af.out; subst bH))
  go_ret2
  exact ⟨_, by first | rfl | (simp [errW_none, errW_some] <;> rfl) | (simp [*, errW_none, errW_some] <;> rfl), Kd.V_nil _ _ _ _ _, by repeat (first | (with_reducible first | exact HB.out | apply below_alloc | apply pw_below_drewN | apply below_drew1 | refine below_set ?_ ac.out) | exact HB.out)⟩
 ·
  replace c3 := Bool.eq_false_iff.mpr c3
  subst c3
  have H1 : ((codewrightref01_Same.f k ag (([1] : List Int))).bind fun ak => (if ak = true then (some (ah, true)) else (some (([] : List Int), false)))) = some (r1, r2) := by rw [if_neg (show ¬ (false = true) by decide)] at H; exact H
  clear H
  have H := H1
  clear H1
  obtain ⟨av, al⟩ : ∃ y_ : List Int, y_ = (([1] : List Int)) := ⟨_, rfl⟩
  replace H : ((codewrightref01_Same.f k ag av).bind fun ak => (if ak = true then (some (ah, true)) else (some (([] : List Int), false)))) = some (r1, r2) := by first | (rw [al]; with_reducible exact H) | (have H2_ := (Option.bind_some _ _).symm.trans H; rw [al]; with_reducible exact H2_) | (have H2_ := (Option.bind_some _ _).symm.trans H; with_reducible exact H2_) | with_reducible exact H | (rw [al]; exact H) | exact H
  have an := am al
  clear al
  obtain ⟨ak, bE, H⟩ := bs H
  (try dsimp -simprocs only at H)
  by_cases aK : ak = true
  ·
   subst aK
   have H1 : (some (ah, true)) = some (r1, r2) := by rw [if_pos rfl] at H; exact H
   clear H
   have H := H1
   clear H1
   simp only [Option.some.injEq, Prod.mk.injEq] at H
   obtain ⟨rfl, rfl⟩ := H
   go_enter Try.func108, Try.ntmps108
   go_wp2_with (first | ((with_reducible refine gate_dst (N := 1) rfl ?_); (try (refine gate_guard (by rfl) ?_; dsimp only)); refine box_event ?hg (N := 1) ?hd (cs := #[.bool a0_0, .slice A0_1 l0_1.length c0_1, .slice A0_2 l0_2.length c0_2]) (t := 67) ?hr ?_; (case hd => rfl); (case hg => rfl); (case hr => first | (go_simp; done) | (go_simp; rfl)); intro aa hg bQ hbox hb; replace ad := ke ad hg hb; replace ae := ke ae hg hb; have ab := am (hbox); have au := ng hg (bu HB.out); have ac := ng hg (bu HB.out); replace HB := be HB hb; clear hb hbox hg; obtain ⟨aL, aM, aN, aO, aP, aQ⟩ := bz ab) | ((with_reducible refine gate_callee (f := 88) rfl ?_); refine goesL_ (some 5) rfl rfl Try.func88 (by kernel_rfl) rfl #[.agg #[.bool a0_0, .slice A0_1 l0_1.length c0_1, .slice A0_2 l0_2.length c0_2]] rfl lu ?_; (with_reducible refine (codewrightref02_Trim.calls k a0_0 (fun k_ => (((P0_1_ k_ ∨ P0_2_ k_) ∨ w.heap.size ≤ k_) ∧ k_ ≠ aa)) _ _ l0_1 (fun k_ => (((P0_1_ k_ ∨ P0_2_ k_) ∨ w.heap.size ≤ k_) ∧ k_ ≠ aa)) _ _ l0_2 false ah ag _ ?side1 ?side2 A2.out).mono ?_); (case side1 => exact vz ad.out); (case side2 => exact vz ae.out); rintro e bR ⟨aE, aF, rfl, aG, aH, hb⟩; refine ⟨_, rfl, ?_⟩; replace ad := kv ad hb; replace ae := kv ae hb; have ai := ar w.heap.size (ok' := fun k_ => ((P0_1_ k_ ∨ P0_2_ k_) ∨ w.heap.size ≤ k_) ∧ k_ ≠ aa) aG (fa (fz1 HB ac) (fb ab)); have af := ar w.heap.size (ok' := fun k_ => ((P0_1_ k_ ∨ P0_2_ k_) ∨ w.heap.size ≤ k_) ∧ k_ ≠ aa) aH (fa (fz1 HB ac) (fb ab)); replace ab := kb ab hb; replace HB := be1 HB ac hb; (try clear hb); (try clear hk); (try clear aG); (try clear aH); obtain ⟨aR, aS, aT, aU, aV, aW⟩ := bz ab; obtain ⟨aw, ax, bw⟩ := Kd.V_slice ai.out; subst bw; obtain ⟨ay, az, bx⟩ := Kd.V_slice af.out; subst bx) | ((with_reducible refine gate_dst (N := 11) rfl ?_); (try (refine gate_guard (by rfl) ?_; dsimp only)); refine Kd.R_lit (Kd.int .u32) _ 48 ?hg (N := 11) ?hd (xs := ([1] : List Int)) (inner := [.int .u32 1]) (ok := fun _ => True) (okp := fun _ => True) ?hr ?hp (fun _ hk => hk) trivial (Below.refl _ _) (Nat.le_refl _) (by simp) ?_; (case hd => rfl); (case hg => rfl); (case hr => first | (go_simp; done) | (go_simp; rfl)); (case hp => exact (Reps.one (show Kd.M (Kd.int .u32) _ _ _ 1 [.int .u32 1] from rfl) (Reps.none _ _))); intro aJ bS ao hb hg_ hnew_; clear hg_ hnew_; (first | rw [← an.out] at ao | (simp only [Int.reduceToNat] at ao; rw [← an.out] at ao)); replace ad := am (Kd.V_elder' (by (with_reducible repeat (first | apply Kd.V_alloc | apply Kd.V_drewN | apply Kd.V_drew)); exact (Kd.V_mono (Kd.V_far (p := ⟨aa, 2, none⟩) (Kd.V_far (p := ⟨aa, 1, none⟩) (Kd.V_far (p := ⟨aa, 0, none⟩) (Kd.V_mono ad.out (fun k_ hk => (⟨hk, hk.2⟩ : _ ∧ k_ ≠ aa))) (fun _ hk => hk.2) (.bool false)) (fun _ hk => hk.2) (.slice aw ah.length ax)) (fun _ hk => hk.2) (.slice ay ag.length az)) (fun _ h_ => h_.1))) (Kd.R_base ao) hb); replace ae := am (Kd.V_elder' (by (with_reducible repeat (first | apply Kd.V_alloc | apply Kd.V_drewN | apply Kd.V_drew)); exact (Kd.V_mono (Kd.V_far (p := ⟨aa, 2, none⟩) (Kd.V_far (p := ⟨aa, 1, none⟩) (Kd.V_far (p := ⟨aa, 0, none⟩) (Kd.V_mono ae.out (fun k_ hk => (⟨hk, hk.2⟩ : _ ∧ k_ ≠ aa))) (fun _ hk => hk.2) (.bool false)) (fun _ hk => hk.2) (.slice aw ah.length ax)) (fun _ hk => hk.2) (.slice ay ag.length az)) (fun _ h_ => h_.1))) (Kd.R_base ao) hb); replace ai := am (Kd.V_elder' (by (with_reducible repeat (first | apply Kd.V_alloc | apply Kd.V_drewN | apply Kd.V_drew)); exact (Kd.V_mono (Kd.V_far (p := ⟨aa, 2, none⟩) (Kd.V_far (p := ⟨aa, 1, none⟩) (Kd.V_far (p := ⟨aa, 0, none⟩) (Kd.V_mono ai.out (fun k_ hk => (⟨hk, hk.2⟩ : _ ∧ k_ ≠ aa))) (fun _ hk => hk.2) (.bool false)) (fun _ hk => hk.2) (.slice aw ah.length ax)) (fun _ hk => hk.2) (.slice ay ag.length az)) (fun _ h_ => h_.1))) (Kd.R_base ao) hb); replace af := am (Kd.V_elder' (by (with_reducible repeat (first | apply Kd.V_alloc | apply Kd.V_drewN | apply Kd.V_drew)); exact (Kd.V_mono (Kd.V_far (p := ⟨aa, 2, none⟩) (Kd.V_far (p := ⟨aa, 1, none⟩) (Kd.V_far (p := ⟨aa, 0, none⟩) (Kd.V_mono af.out (fun k_ hk => (⟨hk, hk.2⟩ : _ ∧ k_ ≠ aa))) (fun _ hk => hk.2) (.bool false)) (fun _ hk => hk.2) (.slice aw ah.length ax)) (fun _ hk => hk.2) (.slice ay ag.length az)) (fun _ h_ => h_.1))) (Kd.R_base ao) hb); have aj := am (Kd.R_lower (Kd.R_newM (M := fun k_ => (w.heap.size ≤ k_)) ao (below_size (bu1 HB.out ac.out)) (fun k_ h_ => h_)) (below_size (bu1 HB.out ac.out))); replace ab := am (blk_below (g := aa) (o := .cells #[.bool false, .slice aw ah.length ax, .slice ay ag.length az] 67 (0, 0)) (kp ab.out) hb); replace HB := be1 HB ac hb; clear hb ao; obtain ⟨bI, bJ, bA⟩ := Kd.R_slice aj.out; subst bA) | (go_at_call 51; (with_reducible refine (codewrightref01_Same.calls k _ _ ag _ _ av true _ ?side1 ?side2 ?side3 ?side4 bE.out).mono ?_); (case side1 => exact cu (Kd.V_reads' af.out).2.2); (case side2 => exact (Kd.V_reads' af.out).2.1); (case side3 => exact cu (Kd.R_reads' aj.out).2.2); (case side4 => exact (Kd.R_reads' aj.out).2.1); rintro e w' ⟨rfl, ⟨nd, rfl⟩⟩; obtain ⟨aX, aY, aZ, a0, a1, a2⟩ := bz ab))
   go_ret2
   exact ⟨_, by first | rfl | (simp [errW_none, errW_some] <;> rfl) | (simp [*, errW_none, errW_some] <;> rfl), by exact vz ai.out, by repeat (first | (with_reducible first | exact HB.out | apply below_alloc | apply pw_below_drewN | apply below_drew1 | refine below_set ?_ ac.out) | exact HB.out)⟩
  ·
   replace aK := Bool.eq_false_iff.mpr aK
   subst aK
   have H1 : (some (([] : List Int), false)) = some (r1, r2) := by rw [if_neg (show ¬ (false = true) by decide)] at H; exact H
   clear H
   have H := H1
   clear H1
   simp only [Option.some.injEq, Prod.mk.injEq] at H
   obtain ⟨rfl, rfl⟩ := H
   go_enter Try.func108, Try.ntmps108
   go_wp2_with (first | ((with_reducible refine gate_dst (N := 1) rfl ?_); (try (refine gate_guard (by rfl) ?_; dsimp only)); refine box_event ?hg (N := 1) ?hd (cs := #[.bool a0_0, .slice A0_1 l0_1.length c0_1, .slice A0_2 l0_2.length c0_2]) (t := 67) ?hr ?_; (case hd => rfl); (case hg => rfl); (case hr => first | (go_simp; done) | (go_simp; rfl)); intro aa hg bT hbox hb; replace ad := ke ad hg hb; replace ae := ke ae hg hb; have ab := am (hbox); have au := ng hg (bu HB.out); have ac := ng hg (bu HB.out); replace HB := be HB hb; clear hb hbox hg; obtain ⟨a3, a4, a5, a6, a7, a8⟩ := bz ab) | ((with_reducible refine gate_callee (f := 88) rfl ?_); refine goesL_ (some 5) rfl rfl Try.func88 (by kernel_rfl) rfl #[.agg #[.bool a0_0, .slice A0_1 l0_1.length c0_1, .slice A0_2 l0_2.length c0_2]] rfl lu ?_; (with_reducible refine (codewrightref02_Trim.calls k a0_0 (fun k_ => (((P0_1_ k_ ∨ P0_2_ k_) ∨ w.heap.size ≤ k_) ∧ k_ ≠ aa)) _ _ l0_1 (fun k_ => (((P0_1_ k_ ∨ P0_2_ k_) ∨ w.heap.size ≤ k_) ∧ k_ ≠ aa)) _ _ l0_2 false ah ag _ ?side1 ?side2 A2.out).mono ?_); (case side1 => exact vz ad.out); (case side2 => exact vz ae.out); rintro e bU ⟨aE, aF, rfl, aG, aH, hb⟩; refine ⟨_, rfl, ?_⟩; replace ad := kv ad hb; replace ae := kv ae hb; have ai := ar w.heap.size (ok' := fun k_ => ((P0_1_ k_ ∨ P0_2_ k_) ∨ w.heap.size ≤ k_) ∧ k_ ≠ aa) aG (fa (fz1 HB ac) (fb ab)); have af := ar w.heap.size (ok' := fun k_ => ((P0_1_ k_ ∨ P0_2_ k_) ∨ w.heap.size ≤ k_) ∧ k_ ≠ aa) aH (fa (fz1 HB ac) (fb ab)); replace ab := kb ab hb; replace HB := be1 HB ac hb; (try clear hb); (try clear hk); (try clear aG); (try clear aH); obtain ⟨a9, ba, bb, bd, bf, bg⟩ := bz ab; obtain ⟨aA, aB, bB⟩ := Kd.V_slice ai.out; subst bB; obtain ⟨aC, aD, bC⟩ := Kd.V_slice af.out; subst bC) | ((with_reducible refine gate_dst (N := 11) rfl ?_); (try (refine gate_guard (by rfl) ?_; dsimp only)); refine Kd.R_lit (Kd.int .u32) _ 48 ?hg (N := 11) ?hd (xs := ([1] : List Int)) (inner := [.int .u32 1]) (ok := fun _ => True) (okp := fun _ => True) ?hr ?hp (fun _ hk => hk) trivial (Below.refl _ _) (Nat.le_refl _) (by simp) ?_; (case hd => rfl); (case hg => rfl); (case hr => first | (go_simp; done) | (go_simp; rfl)); (case hp => exact (Reps.one (show Kd.M (Kd.int .u32) _ _ _ 1 [.int .u32 1] from rfl) (Reps.none _ _))); intro aJ bV ap hb hg_ hnew_; clear hg_ hnew_; (first | rw [← an.out] at ap | (simp only [Int.reduceToNat] at ap; rw [← an.out] at ap)); replace ad := am (Kd.V_elder' (by (with_reducible repeat (first | apply Kd.V_alloc | apply Kd.V_drewN | apply Kd.V_drew)); exact (Kd.V_mono (Kd.V_far (p := ⟨aa, 2, none⟩) (Kd.V_far (p := ⟨aa, 1, none⟩) (Kd.V_far (p := ⟨aa, 0, none⟩) (Kd.V_mono ad.out (fun k_ hk => (⟨hk, hk.2⟩ : _ ∧ k_ ≠ aa))) (fun _ hk => hk.2) (.bool false)) (fun _ hk => hk.2) (.slice aA ah.length aB)) (fun _ hk => hk.2) (.slice aC ag.length aD)) (fun _ h_ => h_.1))) (Kd.R_base ap) hb); replace ae := am (Kd.V_elder' (by (with_reducible repeat (first | apply Kd.V_alloc | apply Kd.V_drewN | apply Kd.V_drew)); exact (Kd.V_mono (Kd.V_far (p := ⟨aa, 2, none⟩) (Kd.V_far (p := ⟨aa, 1, none⟩) (Kd.V_far (p := ⟨aa, 0, none⟩) (Kd.V_mono ae.out (fun k_ hk => (⟨hk, hk.2⟩ : _ ∧ k_ ≠ aa))) (fun _ hk => hk.2) (.bool false)) (fun _ hk => hk.2) (.slice aA ah.length aB)) (fun _ hk => hk.2) (.slice aC ag.length aD)) (fun _ h_ => h_.1))) (Kd.R_base ap) hb); replace ai := am (Kd.V_elder' (by (with_reducible repeat (first | apply Kd.V_alloc | apply Kd.V_drewN | apply Kd.V_drew)); exact (Kd.V_mono (Kd.V_far (p := ⟨aa, 2, none⟩) (Kd.V_far (p := ⟨aa, 1, none⟩) (Kd.V_far (p := ⟨aa, 0, none⟩) (Kd.V_mono ai.out (fun k_ hk => (⟨hk, hk.2⟩ : _ ∧ k_ ≠ aa))) (fun _ hk => hk.2) (.bool false)) (fun _ hk => hk.2) (.slice aA ah.length aB)) (fun _ hk => hk.2) (.slice aC ag.length aD)) (fun _ h_ => h_.1))) (Kd.R_base ap) hb); replace af := am (Kd.V_elder' (by (with_reducible repeat (first | apply Kd.V_alloc | apply Kd.V_drewN | apply Kd.V_drew)); exact (Kd.V_mono (Kd.V_far (p := ⟨aa, 2, none⟩) (Kd.V_far (p := ⟨aa, 1, none⟩) (Kd.V_far (p := ⟨aa, 0, none⟩) (Kd.V_mono af.out (fun k_ hk => (⟨hk, hk.2⟩ : _ ∧ k_ ≠ aa))) (fun _ hk => hk.2) (.bool false)) (fun _ hk => hk.2) (.slice aA ah.length aB)) (fun _ hk => hk.2) (.slice aC ag.length aD)) (fun _ h_ => h_.1))) (Kd.R_base ap) hb); have aj := am (Kd.R_lower (Kd.R_newM (M := fun k_ => (w.heap.size ≤ k_)) ap (below_size (bu1 HB.out ac.out)) (fun k_ h_ => h_)) (below_size (bu1 HB.out ac.out))); replace ab := am (blk_below (g := aa) (o := .cells #[.bool false, .slice aA ah.length aB, .slice aC ag.length aD] 67 (0, 0)) (kp ab.out) hb); replace HB := be1 HB ac hb; clear hb ap; obtain ⟨bK, bL, bD⟩ := Kd.R_slice aj.out; subst bD) | (go_at_call 51; (with_reducible refine (codewrightref01_Same.calls k _ _ ag _ _ av false _ ?side1 ?side2 ?side3 ?side4 bE.out).mono ?_); (case side1 => exact cu (Kd.V_reads' af.out).2.2); (case side2 => exact (Kd.V_reads' af.out).2.1); (case side3 => exact cu (Kd.R_reads' aj.out).2.2); (case side4 => exact (Kd.R_reads' aj.out).2.1); rintro e w' ⟨rfl, ⟨nd, rfl⟩⟩))
   go_ret2
   exact ⟨_, by first | rfl | (simp [errW_none, errW_some] <;> rfl) | (simp [*, errW_none, errW_some] <;> rfl), Kd.V_nil _ _ _ _ _, by repeat (first | (with_reducible first | exact HB.out | apply below_alloc | apply pw_below_drewN | apply below_drew1 | refine below_set ?_ ac.out) | exact HB.out)⟩
def codewrightref02_Floor.j0 : Nat → List Int → Bool → Bool → List Int → List Int → Option (Bool × List Int × List Int)
 | 0, _, _, _, _, _ => none
 | k + 1, x3, x21, x2507000, x2507001, x2507002 => if x21 = true then ((codewrightref01_Add.f k x3 (([1] : List Int))).bind fun t2524 => ((codewrightref02_Make.f k x2507000 t2524 (([1] : List Int))).bind fun bt2530 => (some (bt2530.1, bt2530.2.1, bt2530.2.2)))) else ((codewrightref02_Make.f k x2507000 x3 (([1] : List Int))).bind fun bt2540 => (some (bt2540.1, bt2540.2.1, bt2540.2.2)))
def codewrightref02_Floor.f (k : Nat) (a0_0 : Bool) (l0_1 : List Int) (l0_2 : List Int) : Option (Bool × List Int × List Int) := (codewrightref02_Trim.f k a0_0 l0_1 l0_2).bind fun bt2508 => ((codewrightref01_DivMod.f k bt2508.2.1 bt2508.2.2).bind fun bt2515 => (if bt2508.1 = true then (codewrightref02_Floor.j0 k bt2515.1 (decide ((bt2515.2.length : Int) > 0)) bt2508.1 bt2508.2.1 bt2508.2.2) else (codewrightref02_Floor.j0 k bt2515.1 false bt2508.1 bt2508.2.1 bt2508.2.2)))
theorem codewrightref02_Floor.calls (k : Nat) (a0_0 : Bool) (P0_1_ : Nat → Prop) (A0_1 : Option Addr) (c0_1 : Nat) (l0_1 : List Int) (P0_2_ : Nat → Prop) (A0_2 : Option Addr) (c0_2 : Nat) (l0_2 : List Int) (r1 : Bool) (r2 : List Int) (r3 : List Int) (w : World) (hs0_1 : Kd.V (Kd.int .u32) 48 w w.heap.size (fun k_ => P0_1_ k_) (.slice A0_1 l0_1.length c0_1) l0_1) (hs0_2 : Kd.V (Kd.int .u32) 48 w w.heap.size (fun k_ => P0_2_ k_) (.slice A0_2 l0_2.length c0_2) l0_2) (h : codewrightref02_Floor.f k a0_0 l0_1 l0_2 = some (r1, r2, r3)) :
 Calls Try.prog 109 #[.agg #[.bool a0_0, .slice A0_1 l0_1.length c0_1, .slice A0_2 l0_2.length c0_2]] w fun e w' => ∃ v1_ v2_ : Value, e = .returned (.agg #[.bool r1, v1_, v2_]) ∧ Kd.V (Kd.int .u32) 48 w' w.heap.size (fun k_ => ((P0_1_ k_ ∨ P0_2_ k_) ∨ w.heap.size ≤ k_)) v1_ r2 ∧ Kd.V (Kd.int .u32) 48 w' w.heap.size (fun k_ => ((P0_1_ k_ ∨ P0_2_ k_) ∨ w.heap.size ≤ k_)) v2_ r3 ∧ Below w.heap.size w w' := by
 have c4 := Try.underlying67
 have aB := am (show Kd.V (Kd.int .u32) 48 w w.heap.size (fun k_ => ((P0_1_ k_ ∨ P0_2_ k_) ∨ w.heap.size ≤ k_)) (.slice A0_1 l0_1.length c0_1) l0_1 from Kd.V_mono hs0_1 (fun k_ hk => .inl (.inl hk)))
 have aC := am (show Kd.V (Kd.int .u32) 48 w w.heap.size (fun k_ => ((P0_1_ k_ ∨ P0_2_ k_) ∨ w.heap.size ≤ k_)) (.slice A0_2 l0_2.length c0_2) l0_2 from Kd.V_mono hs0_2 (fun k_ hk => .inl (.inr hk)))
 have HB := am (Below.refl w.heap.size w)
 have H : ((codewrightref02_Trim.f k a0_0 l0_1 l0_2).bind fun av => ((codewrightref01_DivMod.f k av.2.1 av.2.2).bind fun aR => (if av.1 = true then (codewrightref02_Floor.j0 k aR.1 (decide ((aR.2.length : Int) > 0)) av.1 av.2.1 av.2.2) else (codewrightref02_Floor.j0 k aR.1 false av.1 av.2.1 av.2.2)))) = some (r1, r2, r3) := h
 clear h
 obtain ⟨⟨aj, ao, ap⟩, A2, H⟩ := bs H
 (try dsimp -simprocs only at H)
 obtain ⟨⟨au, aW⟩, A3, H⟩ := bs H
 (try dsimp -simprocs only at H)
 have ce := am H
 clear H
 go_enter Try.func109, Try.ntmps109
 go_upto_region 3 with (first | ((with_reducible refine gate_dst (N := 1) rfl ?_); (try (refine gate_guard (by rfl) ?_; dsimp only)); refine box_event ?hg (N := 1) ?hd (cs := #[.bool a0_0, .slice A0_1 l0_1.length c0_1, .slice A0_2 l0_2.length c0_2]) (t := 67) ?hr ?_; (case hd => rfl); (case hg => rfl); (case hr => first | (go_simp; done) | (go_simp; rfl)); intro ah hg w5 hbox hb; replace aB := ke aB hg hb; replace aC := ke aC hg hb; have aa := am (hbox); have cf := ng hg (bu HB.out); have ac := ng hg (bu HB.out); replace HB := be HB hb; clear hb hbox hg) | ((with_reducible refine gate_dst (N := 2) rfl ?_); (try (refine gate_guard (by rfl) ?_; dsimp only)); refine box_event ?hg (N := 2) ?hd (cs := #[.bool false, .slice none 0 0, .slice none 0 0]) (t := 67) ?hr ?_; (case hd => rfl); (case hg => rfl); (case hr => first | (go_simp; done) | (go_simp; rfl)); intro ae hg w6 hbox hb; replace aB := ke aB hg hb; replace aC := ke aC hg hb; have ab := am (hbox); have cg := ng hg (bu1 HB.out ac.out); have ad := ng hg (bu1 HB.out ac.out); replace HB := be1 HB ac hb; have al := nl hg aa; have ai := nr hg aa; replace aa := kb aa hb; clear hb hbox hg; have c5 := al.out; have c6 := ai.out; obtain ⟨bC, bD, bE, bF, bG, bH⟩ := bz aa) | ((with_reducible refine gate_callee (f := 88) rfl ?_); refine goesL_ (some 6) rfl rfl Try.func88 (by kernel_rfl) rfl #[.agg #[.bool a0_0, .slice A0_1 l0_1.length c0_1, .slice A0_2 l0_2.length c0_2]] rfl lu ?_; (with_reducible refine (codewrightref02_Trim.calls k a0_0 (fun k_ => ((((P0_1_ k_ ∨ P0_2_ k_) ∨ w.heap.size ≤ k_) ∧ k_ ≠ ah) ∧ k_ ≠ ae)) _ _ l0_1 (fun k_ => ((((P0_1_ k_ ∨ P0_2_ k_) ∨ w.heap.size ≤ k_) ∧ k_ ≠ ah) ∧ k_ ≠ ae)) _ _ l0_2 aj ao ap _ ?side1 ?side2 A2.out).mono ?_); (case side1 => exact vz aB.out); (case side2 => exact vz aC.out); rintro e w9 ⟨cK, cL, rfl, aN, aV, hb⟩; refine ⟨_, rfl, ?_⟩; replace aB := kv aB hb; replace aC := kv aC hb; have ax := ar w.heap.size (ok' := fun k_ => ((P0_1_ k_ ∨ P0_2_ k_) ∨ w.heap.size ≤ k_) ∧ k_ ≠ ah ∧ k_ ≠ ae) aN (fa (fz2 HB ac ad) (fa (fb aa) (fb ab))); have ay := ar w.heap.size (ok' := fun k_ => ((P0_1_ k_ ∨ P0_2_ k_) ∨ w.heap.size ≤ k_) ∧ k_ ≠ ah ∧ k_ ≠ ae) aV (fa (fz2 HB ac ad) (fa (fb aa) (fb ab))); replace aa := kb aa hb; replace ab := kb ab hb; replace HB := be2 HB ac ad hb; (try clear hb); (try clear aN); (try clear aV); obtain ⟨a7, a8, a9, ba, bb, bd⟩ := bz aa; obtain ⟨aJ, aK, ch⟩ := Kd.V_slice ax.out; subst ch; obtain ⟨aL, aM, ci⟩ := Kd.V_slice ay.out; subst ci) | ((with_reducible refine gate_callee (f := 157) rfl ?_); refine goesL_ (some 12) rfl rfl Try.func157 (by kernel_rfl) rfl #[.slice aJ ao.length aK, .slice aL ap.length aM] rfl lu ?_; (with_reducible refine (codewrightref01_DivMod.calls k _ _ ao _ _ ap au aW _ ?side1 ?side2 ?side3 ?side4 A3.out).mono ?_); (case side1 => exact vr ax.out); (case side2 => exact (Kd.V_reads' ax.out).2.1); (case side3 => exact vr ay.out); (case side4 => exact (Kd.V_reads' ay.out).2.1); rintro e df ⟨bN, cM, rfl, aN, aV, hb⟩; refine ⟨_, rfl, ?_⟩; replace aN := R_V_base rfl aN; replace aV := R_V_base rfl aV; replace aB := kx aB hb; replace aC := kx aC hb; replace ax := kx ax hb; replace ay := kx ay hb; have aX := ar0 w.heap.size (ok' := fun k_ => ((P0_1_ k_ ∨ P0_2_ k_) ∨ w.heap.size ≤ k_) ∧ k_ ≠ ah ∧ k_ ≠ ae) aN (fa (fz2 HB ac ad) (fa (fs aa) (fs ab))); have bI := ar0 w.heap.size (ok' := fun k_ => ((P0_1_ k_ ∨ P0_2_ k_) ∨ w.heap.size ≤ k_) ∧ k_ ≠ ah ∧ k_ ≠ ae) aV (fa (fz2 HB ac ad) (fa (fs aa) (fs ab))); replace aa := am (blk_below (g := ah) (o := .cells #[.bool aj, .slice aJ ao.length aK, .slice aL ap.length aM] 67 (0, 0)) (kp aa.out) hb); replace ab := am (blk_below (g := ae) (o := .cells #[.bool false, .slice none 0 0, .slice none 0 0] 67 (0, 0)) (kf ai.out ab.out) hb); replace HB := be2 HB ac ad hb; (try clear hb); (try clear aN); (try clear aV)))
 (try simp only [Act.put, List.setIfInBounds_toArray, List.set_cons_zero, List.set_cons_succ])
 go_cut [21] (fun c9 wc => ∃ (kq : Nat) (aT : Bool), c9 = .bool aT ∧ Aside0 (codewrightref02_Floor.j0 kq au aT aj ao ap = some (r1, r2, r3)) ∧ Aside0 (kq ≤ k) ∧ Aside0 (Kd.V (Kd.int .u32) 48 wc w.heap.size (fun k_ => ((P0_1_ k_ ∨ P0_2_ k_) ∨ w.heap.size ≤ k_) ∧ k_ ≠ ah ∧ k_ ≠ ae) bN au) ∧ Aside0 (Kd.V (Kd.int .u32) 48 wc w.heap.size (fun k_ => ((P0_1_ k_ ∨ P0_2_ k_) ∨ w.heap.size ≤ k_) ∧ k_ ≠ ah ∧ k_ ≠ ae) (.slice aJ ao.length aK) ao) ∧ Aside0 (Kd.V (Kd.int .u32) 48 wc w.heap.size (fun k_ => ((P0_1_ k_ ∨ P0_2_ k_) ∨ w.heap.size ≤ k_) ∧ k_ ≠ ah ∧ k_ ≠ ae) (.slice aL ap.length aM) ap) ∧ Aside0 (wc.heap[ah]? = some (.cells #[.bool aj, (.slice aJ ao.length aK), (.slice aL ap.length aM)] 67 (0, 0))) ∧ Aside0 (wc.heap[ae]? = some (.cells #[.bool false, (.slice none 0 0), (.slice none 0 0)] 67 (0, 0))) ∧ Aside0 (Below w.heap.size w wc))
 case first =>
  have H := ce.out
  clear ce
  by_cases bO : aj = true
  ·
   subst bO
   have H1 : (codewrightref02_Floor.j0 k au (decide ((aW.length : Int) > 0)) true ao ap) = some (r1, r2, r3) := by rw [if_pos rfl] at H; exact H
   clear H
   have H := H1
   clear H1
   have H' := am H
   clear H
   have cN := al.out
   have cO := ai.out
   obtain ⟨bf, bg, bh, bi, bj, bk⟩ := bz aa
   obtain ⟨da, db, cj⟩ := Kd.V_slice bI.out
   subst cj
   go_wp2
   go_meet
   case rel => exact ⟨_, (decide ((aW.length : Int) > 0)), (by first | rfl | (simp; done) | (simp [*]; done)), H', ⟨by first | omega | exact Nat.le_refl _⟩, ⟨by (with_reducible repeat (first | apply Kd.V_alloc | apply Kd.V_drewN | apply Kd.V_drew)); exact aX.out⟩, ⟨by (with_reducible repeat (first | apply Kd.V_alloc | apply Kd.V_drewN | apply Kd.V_drew)); exact ax.out⟩, ⟨by (with_reducible repeat (first | apply Kd.V_alloc | apply Kd.V_drewN | apply Kd.V_drew)); exact ay.out⟩, ⟨by (with_reducible repeat (first | refine blk_drewN ?_ _ | refine blk_drew ?_ | refine blk_alloc ?_ _)); exact aa.out⟩, ⟨by (with_reducible repeat (first | refine blk_drewN ?_ _ | refine blk_drew ?_ | refine blk_alloc ?_ _)); exact ab.out⟩, ⟨by repeat (first | (with_reducible first | exact HB.out | apply below_alloc | apply pw_below_drewN | apply below_drew1 | refine below_set ?_ ac.out | refine below_set ?_ ad.out) | exact HB.out)⟩⟩
  ·
   replace bO := Bool.eq_false_iff.mpr bO
   subst bO
   have H1 : (codewrightref02_Floor.j0 k au false false ao ap) = some (r1, r2, r3) := by rw [if_neg (show ¬ (false = true) by decide)] at H; exact H
   clear H
   have H := H1
   clear H1
   have H' := am H
   clear H
   have cP := al.out
   have cQ := ai.out
   obtain ⟨bl, bm, bn, bo, bp, bq⟩ := bz aa
   go_wp2
   go_meet
   case rel => exact ⟨_, (false), (by first | rfl | (simp; done) | (simp [*]; done)), H', ⟨by first | omega | exact Nat.le_refl _⟩, ⟨by (with_reducible repeat (first | apply Kd.V_alloc | apply Kd.V_drewN | apply Kd.V_drew)); exact aX.out⟩, ⟨by (with_reducible repeat (first | apply Kd.V_alloc | apply Kd.V_drewN | apply Kd.V_drew)); exact ax.out⟩, ⟨by (with_reducible repeat (first | apply Kd.V_alloc | apply Kd.V_drewN | apply Kd.V_drew)); exact ay.out⟩, ⟨by (with_reducible repeat (first | refine blk_drewN ?_ _ | refine blk_drew ?_ | refine blk_alloc ?_ _)); exact aa.out⟩, ⟨by (with_reducible repeat (first | refine blk_drewN ?_ _ | refine blk_drew ?_ | refine blk_alloc ?_ _)); exact ab.out⟩, ⟨by repeat (first | (with_reducible first | exact HB.out | apply below_alloc | apply pw_below_drewN | apply below_drew1 | refine below_set ?_ ac.out | refine below_set ?_ ad.out) | exact HB.out)⟩⟩
 case rest =>
  clear ce
  try clear c1
  try clear p2
  try clear c7
  try clear c8
  try clear c10
  try clear bO
  try clear c15
  try clear c18
  try clear a7
  try clear a8
  try clear a9
  try clear bf
  try clear bg
  try clear bh
  try clear bl
  try clear bm
  try clear bn
  try clear bC
  try clear bD
  try clear bE
  try clear ba
  try clear bb
  try clear bd
  try clear bi
  try clear bj
  try clear bk
  try clear bo
  try clear bp
  try clear bq
  try clear bF
  try clear bG
  try clear bH
  obtain ⟨kq, aT, rfl, HA, HJ3, aw, af, ag, aa, ab, HB⟩ := hcut
  cases kq with
  | zero => exact absurd HA.out (by simp [codewrightref02_Floor.j0])
  | succ kj3 =>
   have H := HA.out
   clear HA
   simp only [codewrightref02_Floor.j0] at H
   by_cases bP : aT = true
   ·
    subst bP
    have H1 : ((codewrightref01_Add.f kj3 au (([1] : List Int))).bind fun aE => ((codewrightref02_Make.f kj3 aj aE (([1] : List Int))).bind fun az => (some (az.1, az.2.1, az.2.2)))) = some (r1, r2, r3) := by rw [if_pos rfl] at H; exact H
    clear H
    have H := H1
    clear H1
    obtain ⟨aF, aG⟩ : ∃ y_ : List Int, y_ = (([1] : List Int)) := ⟨_, rfl⟩
    replace H : ((codewrightref01_Add.f kj3 au aF).bind fun aE => ((codewrightref02_Make.f kj3 aj aE (([1] : List Int))).bind fun az => (some (az.1, az.2.1, az.2.2)))) = some (r1, r2, r3) := by first | (rw [aG]; with_reducible exact H) | (have H2_ := (Option.bind_some _ _).symm.trans H; rw [aG]; with_reducible exact H2_) | (have H2_ := (Option.bind_some _ _).symm.trans H; with_reducible exact H2_) | with_reducible exact H | (rw [aG]; exact H) | exact H
    have aY := am aG
    clear aG
    obtain ⟨aE, dc, H⟩ := bs H
    (try dsimp -simprocs only at H)
    obtain ⟨aU, aS⟩ : ∃ y_ : List Int, y_ = (([1] : List Int)) := ⟨_, rfl⟩
    rw [← aS] at H
    have aZ := am aS
    clear aS
    obtain ⟨⟨br, bv, bw⟩, dd, H⟩ := bs H
    (try dsimp -simprocs only at H)
    simp only [Option.some.injEq, Prod.mk.injEq] at H
    obtain ⟨rfl, rfl, rfl⟩ := H
    go_wp2_with (first | ((with_reducible refine gate_dst (N := 23) rfl ?_); (try (refine gate_guard (by rfl) ?_; dsimp only)); refine Kd.R_lit (Kd.int .u32) _ 48 ?hg (N := 23) ?hd (xs := ([1] : List Int)) (inner := [.int .u32 1]) (ok := fun _ => True) (okp := fun _ => True) ?hr ?hp (fun _ hk => hk) trivial (Below.refl _ _) (Nat.le_refl _) (by simp) ?_; (case hd => rfl); (case hg => rfl); (case hr => first | (go_simp; done) | (go_simp; rfl)); (case hp => exact (Reps.one (show Kd.M (Kd.int .u32) _ _ _ 1 [.int .u32 1] from rfl) (Reps.none _ _))); intro cR dg aO hb hg_ hnew_; clear hg_ hnew_; (first | rw [← aY.out] at aO | (simp only [Int.reduceToNat] at aO; rw [← aY.out] at aO)); replace aw := am (Kd.V_elder' (vu aw.out) (Kd.R_base aO) hb); replace af := am (Kd.V_elder' (vu af.out) (Kd.R_base aO) hb); replace ag := am (Kd.V_elder' (vu ag.out) (Kd.R_base aO) hb); have ak := am (Kd.R_lower (Kd.R_newM (M := fun k_ => (w.heap.size ≤ k_)) aO (below_size (bu2 HB.out ac.out ad.out)) (fun k_ h_ => h_)) (below_size (bu2 HB.out ac.out ad.out))); replace aa := kb aa hb; replace ab := kb ab hb; replace HB := be2 HB ac ad hb; clear hb aO; obtain ⟨ck, cl, cm⟩ := Kd.V_slice aw.out; subst cm; obtain ⟨a0, a1, cn⟩ := Kd.R_slice ak.out; subst cn) | ((with_reducible refine gate_callee (f := 55) rfl ?_); refine goesL_ (some 24) rfl rfl Try.func55 (by kernel_rfl) rfl #[.slice ck au.length cl, .slice a0 aF.length a1] rfl lu ?_; (with_reducible refine (codewrightref01_Add.calls kj3 _ _ au _ _ aF aE _ ?side1 ?side2 ?side3 ?side4 dc.out).mono ?_); (case side1 => exact cu (Kd.V_reads' aw.out).2.2); (case side2 => exact (Kd.V_reads' aw.out).2.1); (case side3 => exact cu (Kd.R_reads' ak.out).2.2); (case side4 => exact (Kd.R_reads' ak.out).2.1); rintro e dh ⟨cS, rfl, aN, hb⟩; refine ⟨_, rfl, ?_⟩; replace aN := R_V_base rfl aN; replace aw := kv aw hb; replace af := kv af hb; replace ag := kv ag hb; have aD := am (Kd.V_lower (Kd.V_mono (ok' := fun k_ => ((P0_1_ k_ ∨ P0_2_ k_) ∨ w.heap.size ≤ k_) ∧ some k_ ≠ (.slice a0 aF.length a1 : Value).ownBlock ∧ k_ ≠ ah ∧ k_ ≠ ae) aN (fun k_ hk_ => ⟨(.inr (Nat.le_trans (below_size (bu2 HB.out ac.out ad.out)) hk_)), (Kd.fresh' (Kd.R_lt (by (with_reducible repeat (first | apply Kd.R_alloc | apply Kd.R_drewN | apply Kd.R_drew)); exact ak.out)) k_ hk_), (Kd.freshB (g := ah) (o := .cells #[.bool aj, .slice aJ ao.length aK, .slice aL ap.length aM] 67 (0, 0)) (ku aa.out) k_ hk_), (Kd.freshB (g := ae) (o := .cells #[.bool false, .slice none 0 0, .slice none 0 0] 67 (0, 0)) (ku ab.out) k_ hk_)⟩)) (below_size (bu2 HB.out ac.out ad.out))); replace ak := am (Kd.R_below (by (with_reducible repeat (first | apply Kd.R_alloc | apply Kd.R_drewN | apply Kd.R_drew)); exact ak.out) hb); replace aa := kb aa hb; replace ab := kb ab hb; replace HB := be2 HB ac ad hb; (try clear hb); (try clear hk); (try clear aN); have cT := al.out; have cU := ai.out; obtain ⟨bQ, bR, bS, bT, bU, bV⟩ := bz aa) | ((with_reducible refine gate_dst (N := 28) rfl ?_); (try (refine gate_guard (by rfl) ?_; dsimp only)); refine Kd.R_lit (Kd.int .u32) _ 48 ?hg (N := 28) ?hd (xs := ([1] : List Int)) (inner := [.int .u32 1]) (ok := fun _ => True) (okp := fun _ => True) ?hr ?hp (fun _ hk => hk) trivial (Below.refl _ _) (Nat.le_refl _) (by simp) ?_; (case hd => rfl); (case hg => rfl); (case hr => first | (go_simp; done) | (go_simp; rfl)); (case hp => exact (Reps.one (show Kd.M (Kd.int .u32) _ _ _ 1 [.int .u32 1] from rfl) (Reps.none _ _))); intro cV di aI hb hg_ hnew_; clear hg_ hnew_; (first | rw [← aZ.out] at aI | (simp only [Int.reduceToNat] at aI; rw [← aZ.out] at aI)); replace aw := am (Kd.V_elder' (vu aw.out) (Kd.R_base aI) hb); replace af := am (Kd.V_elder' (vu af.out) (Kd.R_base aI) hb); replace ag := am (Kd.V_elder' (vu ag.out) (Kd.R_base aI) hb); replace aD := am (Kd.V_elder' (vu aD.out) (Kd.R_base aI) hb); have an := am (Kd.R_lower (Kd.R_new' (Kd.R_newM (M := fun k_ => (w.heap.size ≤ k_)) aI (below_size (bu2 HB.out ac.out ad.out)) (fun k_ h_ => h_)) (Kd.R_lt (by (with_reducible repeat (first | apply Kd.R_alloc | apply Kd.R_drewN | apply Kd.R_drew)); exact ak.out))) (below_size (bu2 HB.out ac.out ad.out))); replace ak := am (Kd.R_elder' (by (with_reducible repeat (first | apply Kd.R_alloc | apply Kd.R_drewN | apply Kd.R_drew)); exact ak.out) (Kd.R_base aI) hb); replace aa := kb aa hb; replace ab := kb ab hb; replace HB := be2 HB ac ad hb; clear hb aI; obtain ⟨co, cp, cq⟩ := Kd.V_slice aD.out; subst cq; obtain ⟨bJ, bK, cr⟩ := Kd.R_slice an.out; subst cr) | ((with_reducible refine gate_callee (f := 80) rfl ?_); refine goesL_ (some 29) rfl rfl Try.func80 (by kernel_rfl) rfl #[.bool aj, .slice co aE.length cp, .slice bJ aU.length bK] rfl lu ?_; (with_reducible refine (codewrightref02_Make.calls kj3 aj (fun k_ => ((((P0_1_ k_ ∨ P0_2_ k_) ∨ w.heap.size ≤ k_) ∧ (some k_ ≠ (.slice a0 aF.length a1 : Value).ownBlock ∧ (k_ ≠ ah ∧ k_ ≠ ae))) ∧ some k_ ≠ (.slice bJ aU.length bK : Value).ownBlock)) _ _ aE (fun k_ => some k_ = (.slice bJ aU.length bK : Value).ownBlock) _ _ aU br bv bw _ ?side1 ?side2 dd.out).mono ?_); (case side1 => exact vz aD.out); (case side2 => exact Kd.R_V (Kd.R_tight rfl (Kd.R_types (Kd.R_types (an.out) aa.out (by decide)) ab.out (by decide)))); rintro e dj ⟨cW, cX, rfl, aN, aV, hb⟩; refine ⟨_, rfl, ?_⟩; replace aw := kv aw hb; replace af := kv af hb; replace ag := kv ag hb; replace aD := kv aD hb; have a2 := am (Kd.V_lower (Kd.V_mono (ok' := fun k_ => ((P0_1_ k_ ∨ P0_2_ k_) ∨ w.heap.size ≤ k_) ∧ some k_ ≠ (.slice a0 aF.length a1 : Value).ownBlock ∧ k_ ≠ ah ∧ k_ ≠ ae) aN (fun k_ hk_ => ⟨Or.elim hk_ (fun hs_ => Or.elim hs_ (fun hs_ => hs_.1.1) (fun hs_ => (.inr (((Kd.R_types (Kd.R_types (an.out) aa.out (by decide)) ab.out (by decide)).1 k_ hs_.symm).1.1.1.1)))) (fun hn_ => (.inr (Nat.le_trans (below_size (bu2 HB.out ac.out ad.out)) hn_))), Or.elim hk_ (fun hs_ => Or.elim hs_ (fun hs_ => hs_.1.2.1) (fun hs_ => ((Kd.R_types (Kd.R_types (an.out) aa.out (by decide)) ab.out (by decide)).1 k_ hs_.symm).1.1.2)) (fun hn_ => (Kd.fresh' (Kd.R_lt (by (with_reducible repeat (first | apply Kd.R_alloc | apply Kd.R_drewN | apply Kd.R_drew)); exact ak.out)) k_ hn_)), Or.elim hk_ (fun hs_ => Or.elim hs_ (fun hs_ => hs_.1.2.2.1) (fun hs_ => ((Kd.R_types (Kd.R_types (an.out) aa.out (by decide)) ab.out (by decide)).1 k_ hs_.symm).1.2)) (fun hn_ => (Kd.freshB (g := ah) (o := .cells #[.bool aj, .slice aJ ao.length aK, .slice aL ap.length aM] 67 (0, 0)) (ku aa.out) k_ hn_)), Or.elim hk_ (fun hs_ => Or.elim hs_ (fun hs_ => hs_.1.2.2.2) (fun hs_ => ((Kd.R_types (Kd.R_types (an.out) aa.out (by decide)) ab.out (by decide)).1 k_ hs_.symm).2)) (fun hn_ => (Kd.freshB (g := ae) (o := .cells #[.bool false, .slice none 0 0, .slice none 0 0] 67 (0, 0)) (ku ab.out) k_ hn_))⟩)) (below_size (bu2 HB.out ac.out ad.out))); have a3 := am (Kd.V_lower (Kd.V_mono (ok' := fun k_ => ((P0_1_ k_ ∨ P0_2_ k_) ∨ w.heap.size ≤ k_) ∧ some k_ ≠ (.slice a0 aF.length a1 : Value).ownBlock ∧ k_ ≠ ah ∧ k_ ≠ ae) aV (fun k_ hk_ => ⟨Or.elim hk_ (fun hs_ => Or.elim hs_ (fun hs_ => hs_.1.1) (fun hs_ => (.inr (((Kd.R_types (Kd.R_types (an.out) aa.out (by decide)) ab.out (by decide)).1 k_ hs_.symm).1.1.1.1)))) (fun hn_ => (.inr (Nat.le_trans (below_size (bu2 HB.out ac.out ad.out)) hn_))), Or.elim hk_ (fun hs_ => Or.elim hs_ (fun hs_ => hs_.1.2.1) (fun hs_ => ((Kd.R_types (Kd.R_types (an.out) aa.out (by decide)) ab.out (by decide)).1 k_ hs_.symm).1.1.2)) (fun hn_ => (Kd.fresh' (Kd.R_lt (by (with_reducible repeat (first | apply Kd.R_alloc | apply Kd.R_drewN | apply Kd.R_drew)); exact ak.out)) k_ hn_)), Or.elim hk_ (fun hs_ => Or.elim hs_ (fun hs_ => hs_.1.2.2.1) (fun hs_ => ((Kd.R_types (Kd.R_types (an.out) aa.out (by decide)) ab.out (by decide)).1 k_ hs_.symm).1.2)) (fun hn_ => (Kd.freshB (g := ah) (o := .cells #[.bool aj, .slice aJ ao.length aK, .slice aL ap.length aM] 67 (0, 0)) (ku aa.out) k_ hn_)), Or.elim hk_ (fun hs_ => Or.elim hs_ (fun hs_ => hs_.1.2.2.2) (fun hs_ => ((Kd.R_types (Kd.R_types (an.out) aa.out (by decide)) ab.out (by decide)).1 k_ hs_.symm).2)) (fun hn_ => (Kd.freshB (g := ae) (o := .cells #[.bool false, .slice none 0 0, .slice none 0 0] 67 (0, 0)) (ku ab.out) k_ hn_))⟩)) (below_size (bu2 HB.out ac.out ad.out))); replace ak := am (Kd.R_below (by (with_reducible repeat (first | apply Kd.R_alloc | apply Kd.R_drewN | apply Kd.R_drew)); exact ak.out) hb); replace an := am (Kd.R_below (by (with_reducible repeat (first | apply Kd.R_alloc | apply Kd.R_drewN | apply Kd.R_drew)); exact an.out) hb); replace aa := kb aa hb; replace ab := kb ab hb; replace HB := be2 HB ac ad hb; (try clear hb); (try clear hk); (try clear aN); (try clear aV); obtain ⟨bW, bX, bY, bZ, b0, b1⟩ := bz ab; obtain ⟨ct, cv, cw⟩ := Kd.V_slice a2.out; subst cw; obtain ⟨cx, cy, cz⟩ := Kd.V_slice a3.out; subst cz))
    refine bodyPost_ret (results_cell_row rfl _ _ ae 67 #[.bool br, .slice ct bv.length cv, .slice cx bw.length cy] (0, 0) _ rfl (kp ab.out) Try.underlying67 rfl (by kernel_rfl)) rfl ?_
    exact ⟨_, _, by first | rfl | (simp [errW_none, errW_some] <;> rfl) | (simp [*, errW_none, errW_some] <;> rfl), by exact vf a2.out, by exact vf a3.out, by repeat (first | (with_reducible first | exact HB.out | apply below_alloc | apply pw_below_drewN | apply below_drew1 | refine below_set ?_ ac.out | refine below_set ?_ ad.out) | exact HB.out)⟩
   ·
    replace bP := Bool.eq_false_iff.mpr bP
    subst bP
    have H1 : ((codewrightref02_Make.f kj3 aj au (([1] : List Int))).bind fun aA => (some (aA.1, aA.2.1, aA.2.2))) = some (r1, r2, r3) := by rw [if_neg (show ¬ (false = true) by decide)] at H; exact H
    clear H
    have H := H1
    clear H1
    obtain ⟨aP, aH⟩ : ∃ y_ : List Int, y_ = (([1] : List Int)) := ⟨_, rfl⟩
    replace H : ((codewrightref02_Make.f kj3 aj au aP).bind fun aA => (some (aA.1, aA.2.1, aA.2.2))) = some (r1, r2, r3) := by first | (rw [aH]; with_reducible exact H) | (have H2_ := (Option.bind_some _ _).symm.trans H; rw [aH]; with_reducible exact H2_) | (have H2_ := (Option.bind_some _ _).symm.trans H; with_reducible exact H2_) | with_reducible exact H | (rw [aH]; exact H) | exact H
    have a4 := am aH
    clear aH
    obtain ⟨⟨bx, bA, bB⟩, de, H⟩ := bs H
    (try dsimp -simprocs only at H)
    simp only [Option.some.injEq, Prod.mk.injEq] at H
    obtain ⟨rfl, rfl, rfl⟩ := H
    have cY := al.out
    have cZ := ai.out
    obtain ⟨b2, b3, b4, b5, b6, b7⟩ := bz aa
    go_wp2_with (first | ((with_reducible refine gate_dst (N := 28) rfl ?_); (try (refine gate_guard (by rfl) ?_; dsimp only)); refine Kd.R_lit (Kd.int .u32) _ 48 ?hg (N := 28) ?hd (xs := ([1] : List Int)) (inner := [.int .u32 1]) (ok := fun _ => True) (okp := fun _ => True) ?hr ?hp (fun _ hk => hk) trivial (Below.refl _ _) (Nat.le_refl _) (by simp) ?_; (case hd => rfl); (case hg => rfl); (case hr => first | (go_simp; done) | (go_simp; rfl)); (case hp => exact (Reps.one (show Kd.M (Kd.int .u32) _ _ _ 1 [.int .u32 1] from rfl) (Reps.none _ _))); intro c0 dk aQ hb hg_ hnew_; clear hg_ hnew_; (first | rw [← a4.out] at aQ | (simp only [Int.reduceToNat] at aQ; rw [← a4.out] at aQ)); replace aw := am (Kd.V_elder' (vu aw.out) (Kd.R_base aQ) hb); replace af := am (Kd.V_elder' (vu af.out) (Kd.R_base aQ) hb); replace ag := am (Kd.V_elder' (vu ag.out) (Kd.R_base aQ) hb); have aq := am (Kd.R_lower (Kd.R_newM (M := fun k_ => (w.heap.size ≤ k_)) aQ (below_size (bu2 HB.out ac.out ad.out)) (fun k_ h_ => h_)) (below_size (bu2 HB.out ac.out ad.out))); replace aa := kb aa hb; replace ab := kb ab hb; replace HB := be2 HB ac ad hb; clear hb aQ; obtain ⟨cA, cB, cC⟩ := Kd.V_slice aw.out; subst cC; obtain ⟨bL, bM, cD⟩ := Kd.R_slice aq.out; subst cD) | ((with_reducible refine gate_callee (f := 80) rfl ?_); refine goesL_ (some 29) rfl rfl Try.func80 (by kernel_rfl) rfl #[.bool aj, .slice cA au.length cB, .slice bL aP.length bM] rfl lu ?_; (with_reducible refine (codewrightref02_Make.calls kj3 aj (fun k_ => ((((P0_1_ k_ ∨ P0_2_ k_) ∨ w.heap.size ≤ k_) ∧ (k_ ≠ ah ∧ k_ ≠ ae)) ∧ some k_ ≠ (.slice bL aP.length bM : Value).ownBlock)) _ _ au (fun k_ => some k_ = (.slice bL aP.length bM : Value).ownBlock) _ _ aP bx bA bB _ ?side1 ?side2 de.out).mono ?_); (case side1 => exact vz aw.out); (case side2 => exact Kd.R_V (Kd.R_tight rfl (Kd.R_types (Kd.R_types (aq.out) aa.out (by decide)) ab.out (by decide)))); rintro e dl ⟨c2, c3, rfl, aN, aV, hb⟩; refine ⟨_, rfl, ?_⟩; replace aw := kv aw hb; replace af := kv af hb; replace ag := kv ag hb; have a5 := am (Kd.V_lower (Kd.V_mono (ok' := fun k_ => ((P0_1_ k_ ∨ P0_2_ k_) ∨ w.heap.size ≤ k_) ∧ k_ ≠ ah ∧ k_ ≠ ae) aN (fun k_ hk_ => ⟨Or.elim hk_ (fun hs_ => Or.elim hs_ (fun hs_ => hs_.1.1) (fun hs_ => (.inr (((Kd.R_types (Kd.R_types (aq.out) aa.out (by decide)) ab.out (by decide)).1 k_ hs_.symm).1.1.1)))) (fun hn_ => (.inr (Nat.le_trans (below_size (bu2 HB.out ac.out ad.out)) hn_))), Or.elim hk_ (fun hs_ => Or.elim hs_ (fun hs_ => hs_.1.2.1) (fun hs_ => ((Kd.R_types (Kd.R_types (aq.out) aa.out (by decide)) ab.out (by decide)).1 k_ hs_.symm).1.2)) (fun hn_ => (Kd.freshB (g := ah) (o := .cells #[.bool aj, .slice aJ ao.length aK, .slice aL ap.length aM] 67 (0, 0)) (ku aa.out) k_ hn_)), Or.elim hk_ (fun hs_ => Or.elim hs_ (fun hs_ => hs_.1.2.2) (fun hs_ => ((Kd.R_types (Kd.R_types (aq.out) aa.out (by decide)) ab.out (by decide)).1 k_ hs_.symm).2)) (fun hn_ => (Kd.freshB (g := ae) (o := .cells #[.bool false, .slice none 0 0, .slice none 0 0] 67 (0, 0)) (ku ab.out) k_ hn_))⟩)) (below_size (bu2 HB.out ac.out ad.out))); have a6 := am (Kd.V_lower (Kd.V_mono (ok' := fun k_ => ((P0_1_ k_ ∨ P0_2_ k_) ∨ w.heap.size ≤ k_) ∧ k_ ≠ ah ∧ k_ ≠ ae) aV (fun k_ hk_ => ⟨Or.elim hk_ (fun hs_ => Or.elim hs_ (fun hs_ => hs_.1.1) (fun hs_ => (.inr (((Kd.R_types (Kd.R_types (aq.out) aa.out (by decide)) ab.out (by decide)).1 k_ hs_.symm).1.1.1)))) (fun hn_ => (.inr (Nat.le_trans (below_size (bu2 HB.out ac.out ad.out)) hn_))), Or.elim hk_ (fun hs_ => Or.elim hs_ (fun hs_ => hs_.1.2.1) (fun hs_ => ((Kd.R_types (Kd.R_types (aq.out) aa.out (by decide)) ab.out (by decide)).1 k_ hs_.symm).1.2)) (fun hn_ => (Kd.freshB (g := ah) (o := .cells #[.bool aj, .slice aJ ao.length aK, .slice aL ap.length aM] 67 (0, 0)) (ku aa.out) k_ hn_)), Or.elim hk_ (fun hs_ => Or.elim hs_ (fun hs_ => hs_.1.2.2) (fun hs_ => ((Kd.R_types (Kd.R_types (aq.out) aa.out (by decide)) ab.out (by decide)).1 k_ hs_.symm).2)) (fun hn_ => (Kd.freshB (g := ae) (o := .cells #[.bool false, .slice none 0 0, .slice none 0 0] 67 (0, 0)) (ku ab.out) k_ hn_))⟩)) (below_size (bu2 HB.out ac.out ad.out))); replace aq := am (Kd.R_below (by (with_reducible repeat (first | apply Kd.R_alloc | apply Kd.R_drewN | apply Kd.R_drew)); exact aq.out) hb); replace aa := kb aa hb; replace ab := kb ab hb; replace HB := be2 HB ac ad hb; (try clear hb); (try clear hk); (try clear aN); (try clear aV); obtain ⟨b8, b9, ca, cb, cc, cd⟩ := bz ab; obtain ⟨cE, cF, cG⟩ := Kd.V_slice a5.out; subst cG; obtain ⟨cH, cI, cJ⟩ := Kd.V_slice a6.out; subst cJ))
    refine bodyPost_ret (results_cell_row rfl _ _ ae 67 #[.bool bx, .slice cE bA.length cF, .slice cH bB.length cI] (0, 0) _ rfl (kp ab.out) Try.underlying67 rfl (by kernel_rfl)) rfl ?_
    exact ⟨_, _, by first | rfl | (simp [errW_none, errW_some] <;> rfl) | (simp [*, errW_none, errW_some] <;> rfl), by exact vf a5.out, by exact vf a6.out, by repeat (first | (with_reducible first | exact HB.out | apply below_alloc | apply pw_below_drewN | apply below_drew1 | refine below_set ?_ ac.out | refine below_set ?_ ad.out) | exact HB.out)⟩
end Go.Proofs.Ytecfdemglbfnoaa.PT
end
section
namespace Go.Proofs.Ytecfdemglbfnoaa.PT
open Go.RowKit Go.Proofs.YtecfdemglbfnoaaW.PrintWords Go.Proofs.YtecfdemglbfnoaaW.PrintLast Go.Proofs.YtecfdemglbfnoaaW.PrintMore
def sp (zs : List Int) (o : Nat) (xs : List Int) : List Int := zs.take o ++ xs ++ zs.drop (o + xs.length)
theorem sp_len {zs xs : List Int} {o : Nat} (h : o + xs.length ≤ zs.length) : (sp zs o xs).length = zs.length := by
  simp only [sp, List.length_append, List.length_take, List.length_drop]; omega
theorem sp_get {zs xs : List Int} {o i : Nat} (h : o + xs.length ≤ zs.length) (hi : i < xs.length) : (sp zs o xs)[o + i]? = xs[i]? := by
  have ht : (zs.take o).length = o := by rw [List.length_take]; omega
  rw [sp, List.append_assoc, List.getElem?_append_right (by omega), ht, Nat.add_sub_cancel_left, List.getElem?_append_left hi]
theorem sp_rd {zs xs : List Int} {o i : Nat} (h : o + xs.length ≤ zs.length) (hi : i < xs.length) : rd (sp zs o xs) ((o + i : Nat) : Int) = rd xs (i : Int) := by
  unfold rd
  rw [List.getD_eq_getElem?_getD, List.getD_eq_getElem?_getD, Int.toNat_natCast, Int.toNat_natCast, sp_get h hi]
theorem sp_set {zs xs : List Int} {o i : Nat} (h : o + xs.length ≤ zs.length) (hi : i < xs.length) (v : Int) : (sp zs o xs).set (o + i) v = sp zs o (xs.set i v) := by
  have ht : (zs.take o).length = o := by rw [List.length_take]; omega
  rw [sp, sp, List.length_set, List.append_assoc, List.append_assoc, List.set_append_right _ _ (by omega), ht, Nat.add_sub_cancel_left, List.set_append_left _ _ hi]
theorem add_off (g o j : Nat) : (⟨g, o, none⟩ : Addr).add j = ⟨g, o + j, none⟩ := by unfold Addr.add; split <;> simp_all
section
variable {w : World} {base g N cap o : Nat} {ok : Nat → Prop} {zs xs : List Int}
theorem win_cell (h : Kd.R (Kd.int .u32) 48 w base ok (.slice (some ⟨g, 0, none⟩) N cap) (sp zs o xs)) (hl : o + xs.length ≤ zs.length) (i : Int) (h0 : 0 ≤ i) (h1 : i < (xs.length : Int)) :
    w.cell? ⟨g, o + i.toNat, none⟩ = some (.int .u32 (rd xs i)) ∧ w.frozen? ⟨g, o + i.toNat, none⟩ = false := by
  obtain ⟨j, rfl⟩ := Int.eq_ofNat_of_zero_le h0
  obtain ⟨hn, _⟩ := Kd.R_reads' h
  have := Kd.R_celln (0 : Int) h ((o + j : Nat) : Int) (by omega) (by rw [hn, sp_len hl]; omega)
  have e : rdOf (0 : Int) (sp zs o xs) ((o + j : Nat) : Int) = rd xs (j : Int) := sp_rd hl (by omega)
  rw [e] at this
  exact this
theorem win_put (h : Kd.R (Kd.int .u32) 48 w base ok (.slice (some ⟨g, 0, none⟩) N cap) (sp zs o xs)) (hl : o + xs.length ≤ zs.length) (i : Int) (h0 : 0 ≤ i) (h1 : i < (xs.length : Int)) (x : Int) :
    Kd.R (Kd.int .u32) 48 (w.setCell ⟨g, o + i.toNat, none⟩ (.int .u32 x)) base ok (.slice (some ⟨g, 0, none⟩) N cap) (sp zs o (xs.set i.toNat x)) ∧ w.grownBy (w.setCell ⟨g, o + i.toNat, none⟩ (.int .u32 x)) (some g) := by
  obtain ⟨j, rfl⟩ := Int.eq_ofNat_of_zero_le h0
  have := Kd.R_putg h ((o + j : Nat) : Int) x
  rw [Int.toNat_natCast, sp_set hl (by omega)] at this
  exact this
end
def Wn (g o N cap n : Nat) (zs : List Int) (w : World) (base : Nat) (ok : Nat → Prop) (xs : List Int) : Prop :=
  xs.length = n ∧ o + n ≤ zs.length ∧ Kd.R (Kd.int .u32) 48 w base ok (.slice (some ⟨g, 0, none⟩) N cap) (sp zs o xs)
section
variable {w w' w1 : World} {base g N cap o n m : Nat} {ok ok' : Nat → Prop} {zs xs : List Int}
theorem Wn_alloc (h : Wn g o N cap n zs w base ok xs) (x : Obj) : Wn g o N cap n zs (w.alloc x) base ok xs := ⟨h.1, h.2.1, Kd.R_alloc h.2.2 x⟩
theorem Wn_drew (h : Wn g o N cap n zs w base ok xs) : Wn g o N cap n zs w.drew base ok xs := ⟨h.1, h.2.1, Kd.R_drew h.2.2⟩
theorem Wn_drewN (h : Wn g o N cap n zs w base ok xs) (m : Nat) : Wn g o N cap n zs (w.drewN m) base ok xs := ⟨h.1, h.2.1, Kd.R_drewN h.2.2 m⟩
theorem Wn_at (hq : w.drewN m = w') (h : Wn g o N cap n zs w base ok xs) : Wn g o N cap n zs w' base ok xs := by subst hq; exact Wn_drewN h m
theorem Wn_mono (h : Wn g o N cap n zs w base ok xs) (hm : ∀ k, ok k → ok' k) : Wn g o N cap n zs w base ok' xs := ⟨h.1, h.2.1, Kd.R_mono h.2.2 hm⟩
theorem Wn_cell (h : Wn g o N cap n zs w base ok xs) (i : Int) (h0 : 0 ≤ i) (h1 : i < (n : Int)) : w.cell? ⟨g, o + i.toNat, none⟩ = some (.int .u32 (rd xs i)) ∧ w.frozen? ⟨g, o + i.toNat, none⟩ = false :=
  win_cell h.2.2 (by rw [h.1]; exact h.2.1) i h0 (by rw [h.1]; exact h1)
theorem Wn_put (h : Wn g o N cap n zs w base ok xs) (i : Int) (h0 : 0 ≤ i) (h1 : i < (n : Int)) (x : Int) :
    Wn g o N cap n zs (w.setCell ⟨g, o + i.toNat, none⟩ (.int .u32 x)) base ok (xs.set i.toNat x) ∧ w.grownBy (w.setCell ⟨g, o + i.toNat, none⟩ (.int .u32 x)) (some g) := by
  have := win_put h.2.2 (by rw [h.1]; exact h.2.1) i h0 (by rw [h.1]; exact h1) x
  exact ⟨⟨by rw [List.length_set]; exact h.1, h.2.1, this.1⟩, this.2⟩
theorem Wn_ok (h : Wn g o N cap n zs w base ok xs) : ∀ k, some g = some k → ok k := fun k hk => h.2.2.1 k (by simpa [Value.ownBlock] using hk)
theorem Wn_base (h : Wn g o N cap n zs w base ok xs) : base ≤ g := Kd.R_base h.2.2 g rfl
end
end Go.Proofs.Ytecfdemglbfnoaa.PT
end
section
namespace Go.Proofs.Ytecfdemglbfnoaa.Num
theorem guess_down {u v q r top v1 v2 u2 p ul vl : Nat} (hu : u = (top * 4294967296 + u2) * p + ul) (hul : ul < p) (hv : v = (v1 * 4294967296 + v2) * p + vl)
    (ht : q * v1 + r = top) (h : r * 4294967296 + u2 < q * v2) : u < q * v := by
  have h1 : top * 4294967296 + u2 + 1 ≤ q * (v1 * 4294967296 + v2) := by
    rw [← ht, Nat.add_mul, Nat.mul_add, Nat.mul_assoc]; omega
  have h2 : (top * 4294967296 + u2 + 1) * p ≤ q * (v1 * 4294967296 + v2) * p := Nat.mul_le_mul_right p h1
  have h3 : q * v = q * (v1 * 4294967296 + v2) * p + q * vl := by rw [hv, Nat.mul_add, Nat.mul_assoc]
  rw [Nat.add_mul] at h2
  omega
theorem guess_up {u v q r top v1 v2 u2 p ul vl : Nat} (hu : u = (top * 4294967296 + u2) * p + ul) (hv : v = (v1 * 4294967296 + v2) * p + vl) (hvl : vl < p)
    (ht : q * v1 + r = top) (h : q * v2 ≤ r * 4294967296 + u2) (hq : q ≤ 4294967295) (hv1 : 1 ≤ v1) : q * v < u + v := by
  have h1 : q * (v1 * 4294967296 + v2) ≤ top * 4294967296 + u2 := by
    rw [← ht, Nat.add_mul, Nat.mul_add, Nat.mul_assoc]; omega
  have h2 : q * (v1 * 4294967296 + v2) * p ≤ (top * 4294967296 + u2) * p := Nat.mul_le_mul_right p h1
  have h3 : q * v = q * (v1 * 4294967296 + v2) * p + q * vl := by rw [hv, Nat.mul_add, Nat.mul_assoc]
  have h4 : q * vl ≤ 4294967295 * p := Nat.mul_le_mul hq (Nat.le_of_lt hvl)
  have h5 : 1 * p ≤ v1 * p := Nat.mul_le_mul_right p hv1
  have h6 : v = v1 * p * 4294967296 + v2 * p + vl := by rw [hv, Nat.add_mul, Nat.mul_right_comm]
  have h7 : 0 < p := by omega
  omega
theorem quo_of {u v q : Nat} (h1 : q * v ≤ u) (h2 : u < q * v + v) : u / v = q ∧ u % v = u - q * v := by
  have hv : 0 < v := by omega
  have e : u / v = q := by
    rw [Nat.div_eq_iff hv]
    constructor
    · exact h1
    · omega
  refine ⟨e, ?_⟩
  have := Nat.div_add_mod u v
  rw [e, Nat.mul_comm] at this
  omega
end Go.Proofs.Ytecfdemglbfnoaa.Num
end
section
namespace Go.Proofs.Ytecfdemglbfnoaa.Num
open Go.RowKit Go.Proofs.Ytecfdemglbfnoaa.PT Go.Proofs.YtecfdemglbfnoaaW.PrintWords Go.Proofs.YtecfdemglbfnoaaW.PrintLast Go.Proofs.YtecfdemglbfnoaaW.PrintMore
theorem w64 {x : Int} (h : -9223372036854775808 ≤ x) (h' : x ≤ 9223372036854775807) : wrap64 x = x := by unfold wrap64; omega
theorem u64 {x : Int} (h : 0 ≤ x) (h' : x < 18446744073709551616) : IntKind.u64.wrap x = x := by
  have e : IntKind.u64.wrap x = x % 18446744073709551616 := by simp [IntKind.wrap, IntKind.bits, IntKind.signed]
  rw [e]; omega
theorem up (i : Nat) (h : i < 9223372036854775807) : wrap64 ((i : Int) + 1) = ((i + 1 : Nat) : Int) := by rw [w64 (by omega) (by omega)]; rfl
theorem dn (n : Nat) (h : n < 9223372036854775807) : wrap64 (((n + 1 : Nat) : Int) - 1) = (n : Int) := by rw [w64 (by omega) (by omega)]; omega
theorem cut_lb {l : List Int} (h : U l) (n : Nat) (hn : n ≤ l.length) (hz : valn (l.drop n) = 0) (hl : n = 0 ∨ rd l ((n - 1 : Nat) : Int) ≠ 0) : l.take n = lb (valn l) := by
  rw [← valn_take_of_zero l n hn hz]
  refine (lb_valn (U_take h n) ?_).symm
  rcases hl with rfl | hl
  · left; simp
  · by_cases h0 : n = 0
    · left; subst h0; simp
    · right
      have e : n - 1 + 1 = n := by omega
      rw [← e, take_rd l (n - 1) (by omega), List.getLast?_append]
      simpa using hl
theorem short_l0 {l : List Int} (h : U l) (hs : l.length ≤ 9223372036854775807) : ∀ n : Nat, n ≤ l.length → valn (l.drop n) = 0 → Ev (fun k => nat_short.l0 k l (n : Int)) (lb (valn l)) := by
  intro n
  induction n with
  | zero =>
    intro hn hz
    rw [← cut_lb h 0 hn hz (.inl rfl)]
    refine Ev.step (f := fun _ => some (l.take 0)) (fun k => ?_) (Ev.now _)
    simp only [nat_short.l0]
    rw [if_neg (by omega), if_pos (by omega), if_pos (by omega)]; rfl
  | succ n ih =>
    intro hn hz
    by_cases e : rd l (n : Int) = 0
    · refine Ev.step (f := fun k => nat_short.l0 k l (n : Int)) (fun k => ?_) (ih (by omega) (by rw [valn_drop_rd, e, hz]; rfl))
      simp only [nat_short.l0]
      rw [if_pos (by omega), dn n (by omega), if_pos (by omega), if_pos (by omega), if_pos e]
    · rw [← cut_lb h (n + 1) hn hz (.inr (by simpa using e))]
      refine Ev.step (f := fun _ => some (l.take (n + 1))) (fun k => ?_) (Ev.now _)
      simp only [nat_short.l0]
      rw [if_pos (by omega), dn n (by omega), if_pos (by omega), if_pos (by omega), if_neg e, if_pos (by omega), if_pos (by omega)]; rfl
theorem short_f {l : List Int} (h : U l) (hs : l.length ≤ 9223372036854775807) : Ev (fun k => nat_short.f k l) (lb (valn l)) :=
  short_l0 h hs l.length (Nat.le_refl _) (by simp [valn_nil])
theorem Trim_f {l : List Int} (h : U l) (hs : l.length < 35184372088832) : Ev (fun k => nat_Trim.f k l) (lb (valn l)) := by
  unfold nat_Trim.f
  refine Ev.bind (short_f h (by omega)) ?_
  have := lb_len h
  refine Ev.congr (f := fun _ => some (lb (valn l))) (fun k => ?_) (Ev.now _)
  rw [if_pos (by simpa using Nat.lt_of_le_of_lt this hs)]; rfl
theorem rTrim_l0 {l : List Int} (h : U l) (hs : l.length < 35184372088832) : ∀ n : Nat, n ≤ l.length → valn (l.drop n) = 0 → Ev (fun k => codewrightref01_Trim.l0 k l (n : Int)) (lb (valn l)) := by
  intro n
  induction n with
  | zero =>
    intro hn hz
    rw [← cut_lb h 0 hn hz (.inl rfl)]
    refine Ev.step (f := fun _ => some (l.take 0)) (fun k => ?_) (Ev.now _)
    simp only [codewrightref01_Trim.l0]
    rw [if_neg (by omega), Option.bind_some, if_pos (by omega), if_pos (by omega), if_pos (by simp)]; rfl
  | succ n ih =>
    intro hn hz
    by_cases e : rd l (n : Int) = 0
    · refine Ev.step (f := fun k => codewrightref01_Trim.l0 k l (n : Int)) (fun k => ?_) (ih (by omega) (by rw [valn_drop_rd, e, hz]; rfl))
      simp only [codewrightref01_Trim.l0]
      rw [if_pos (by omega), dn n (by omega), if_pos (by omega), if_pos (by omega), if_pos e]
    · rw [← cut_lb h (n + 1) hn hz (.inr (by simpa using e))]
      refine Ev.step (f := fun _ => some (l.take (n + 1))) (fun k => ?_) (Ev.now _)
      simp only [codewrightref01_Trim.l0]
      have et : (((n + 1 : Nat) : Int)).toNat = n + 1 := rfl
      rw [if_pos (by omega), dn n (by omega), if_pos (by omega), if_pos (by omega), if_neg e, Option.bind_some, if_pos (by omega), if_pos (by omega), et, if_pos (by rw [List.length_take]; simp; omega)]; rfl
theorem rTrim_f {l : List Int} (h : U l) (hs : l.length < 35184372088832) : Ev (fun k => codewrightref01_Trim.f k l) (lb (valn l)) :=
  rTrim_l0 h hs l.length (Nat.le_refl _) (by simp [valn_nil])
theorem valn_two (n : Nat) (h : n < 18446744073709551616) : valn [((n : Int)) % 4294967296, ((n : Int) / 4294967296) % 4294967296] = n := by
  simp only [valn_cons, valn_nil]; omega
theorem Of_f (n : Nat) (h : n < 18446744073709551616) : Ev (fun k => nat_Of.f k (n : Int)) (lb n) := by
  unfold nat_Of.f
  have := Trim_f (l := [((n : Int)) % 4294967296, ((n : Int) / 4294967296) % 4294967296]) (U_cons (by omega) (U_cons (by omega) U_nil)) (by simp)
  rw [valn_two n h] at this
  exact Ev.bind this (Ev.now _)
theorem step_val {p T S1 S2 a b c d c' : Nat} (h : T + p * c = S1 + S2) (e : a + b + c = d + 4294967296 * c') : (T + p * d) + p * 4294967296 * c' = (S1 + p * a) + (S2 + p * b) := by
  have h1 : p * (a + b + c) = p * (d + 4294967296 * c') := by rw [e]
  simp only [Nat.mul_add] at h1
  have h2 : p * (4294967296 * c') = p * 4294967296 * c' := by rw [Nat.mul_assoc]
  omega
theorem plus_l0 {a b : List Int} (ha : U a) (hb : U b) (hl : b.length ≤ a.length) (hs : a.length < 35184372088832) (d : Nat) : ∀ (i : Nat) (z : List Int) (c : Nat), i + d = a.length → z.length = a.length + 1 → U z → c ≤ 1 →
    valn (z.take i) + pw i * c = valn (a.take i) + valn (b.take i) →
    Ev (fun k => nat_plus.l0 k a b z (c : Int) (a.length : Int) (i : Int)) (lb (valn a + valn b)) := by
  induction d with
  | zero =>
    intro i z c hi hz uz hc hv
    obtain rfl : i = a.length := by omega
    have u1 : U (z.set a.length (c : Int)) := U_set uz (by omega) _
    have key : valn (z.set a.length (c : Int)) = valn a + valn b := by
      have h1 := valn_set_take z a.length (c : Int) (by omega)
      rw [List.take_of_length_le (by rw [List.length_set]; omega), Int.toNat_natCast, hv, List.take_of_length_le (Nat.le_refl _), List.take_of_length_le hl] at h1
      exact h1
    have h2 := short_f u1 (by rw [List.length_set]; omega)
    rw [key] at h2
    refine Ev.step (f := fun k => (nat_short.f k (z.set a.length (c : Int))).bind some) (fun k => ?_) (Ev.bind h2 (Ev.now _))
    simp only [nat_plus.l0]
    have e : ((c : Int)) % 4294967296 = c := by omega
    rw [if_neg (by omega), if_pos (by omega), if_pos (by omega), e]; rfl
  | succ d ih =>
    intro i z c hi hz uz hc hv
    have h0 := U_rd ha (i : Int)
    have h1 := U_rd hb (i : Int)
    obtain ⟨s, hs1⟩ : ∃ s : Nat, rd a (i : Int) + (c : Int) + rd b (i : Int) = (s : Int) := ⟨(rd a (i : Int) + (c : Int) + rd b (i : Int)).toNat, by omega⟩
    have em : ((s : Nat) : Int) % 4294967296 = ((s % 4294967296 : Nat) : Int) := by omega
    have ed : ((s : Nat) : Int) / 4294967296 = ((s / 4294967296 : Nat) : Int) := by omega
    have step := ih (i + 1) (z.set i ((s % 4294967296 : Nat) : Int)) (s / 4294967296) (by omega) (by rw [List.length_set]; exact hz) (U_set uz (by omega) _) (by omega) (by
      rw [valn_set_take z i _ (by omega), valn_take_succ a, valn_take_succ b, pw_succ, Int.toNat_natCast]
      exact step_val hv (by omega))
    refine Ev.step (f := fun k => nat_plus.l0 k a b (z.set i ((s % 4294967296 : Nat) : Int)) ((s / 4294967296 : Nat) : Int) (a.length : Int) ((i + 1 : Nat) : Int)) (fun k => ?_) step
    simp only [nat_plus.l0]
    rw [if_pos (by omega), if_pos (by omega), if_pos (by omega)]
    by_cases hib : i < b.length
    · rw [if_pos (by omega), if_pos (by omega), u64 (x := rd a (i : Int)) (by omega) (by omega), u64 (x := rd a (i : Int) + (c : Int)) (by omega) (by omega), u64 (x := rd b (i : Int)) (by omega) (by omega), u64 (x := rd a (i : Int) + (c : Int) + rd b (i : Int)) (by omega) (by omega), hs1, up i (by omega), em, ed, Int.toNat_natCast]
    · have hb0 : rd b (i : Int) = 0 := rd_ge b i (by omega)
      rw [if_neg (by omega), if_pos (by omega), u64 (x := rd a (i : Int)) (by omega) (by omega), u64 (x := rd a (i : Int) + (c : Int)) (by omega) (by omega), up i (by omega)]
      have hs2 : rd a (i : Int) + (c : Int) = (s : Int) := by omega
      rw [hs2, em, ed, Int.toNat_natCast]
theorem plus_f {a b : List Int} (ha : U a) (hb : U b) (hsa : a.length < 35184372088832) (hsb : b.length < 35184372088832) : Ev (fun k => nat_plus.f k a b) (lb (valn a + valn b)) := by
  have go : ∀ {a b : List Int}, U a → U b → b.length ≤ a.length → a.length < 35184372088832 → Ev (fun k => nat_plus.j0 k a b) (lb (valn a + valn b)) := by
    intro a b ha hb hl hs
    have h := plus_l0 ha hb hl hs a.length 0 (List.replicate (a.length + 1) 0) 0 (by omega) (by simp) (U_replicate _) (by omega) (by simp [valn_nil])
    refine Ev.step (fun k => ?_) h
    simp only [nat_plus.j0]
    rw [up a.length (by omega), if_pos (by omega), Int.toNat_natCast, if_pos (by omega)]; rfl
  unfold nat_plus.f
  by_cases h : a.length < b.length
  · have := go hb ha (by omega) hsb
    rw [Nat.add_comm] at this
    exact Ev.congr (fun k => if_pos (by omega)) this
  · exact Ev.congr (fun k => if_neg (by omega)) (go ha hb (by omega) hsa)
def sumv (ls : List (List Int)) : Nat := (ls.map valn).sum
theorem rdL4_at (ls : List (List Int)) (i : Nat) (h : i < ls.length) : ls.drop i = rd_L4 ls (i : Int) :: ls.drop (i + 1) := by
  simp [rd_L4, h]
theorem rdL4_mem (ls : List (List Int)) (i : Nat) (h : i < ls.length) : rd_L4 ls (i : Int) ∈ ls := by simp [rd_L4, h]
theorem Add_l0 {ls : List (List Int)} (hU : ∀ l ∈ ls, U l) (m : Nat) (hm : ∀ l ∈ ls, l.length ≤ m) (hs : m + ls.length < 35184372088832) (d : Nat) : ∀ (i : Nat) (s : Nat), i + d = ls.length → s < pw (m + i) →
    Ev (fun k => nat_Add.l0 k (lb s) ls (ls.length : Int) (i : Int)) (lb (s + sumv (ls.drop i))) := by
  induction d with
  | zero =>
    intro i s hi hlt
    obtain rfl : i = ls.length := by omega
    have hlen := lb_len_le hlt
    have h := Trim_f (U_lb s) (by omega)
    rw [valn_lb] at h
    have e : s + sumv (ls.drop ls.length) = s := by simp [sumv]
    rw [e]
    refine Ev.step (f := fun k => (nat_Trim.f k (lb s)).bind some) (fun k => ?_) (Ev.bind h (Ev.now _))
    simp only [nat_Add.l0]
    rw [if_neg (by omega)]
  | succ d ih =>
    intro i s hi hlt
    have hmem := rdL4_mem ls i (by omega)
    have hlen := lb_len_le hlt
    have hlx := hm _ hmem
    have h1 := short_f (hU _ hmem) (by omega)
    have h2 := plus_f (U_lb s) (U_lb (valn (rd_L4 ls (i : Int)))) (by omega) (by have := lb_len (hU _ hmem); omega)
    rw [valn_lb, valn_lb] at h2
    have hlt2 : s + valn (rd_L4 ls (i : Int)) < pw (m + (i + 1)) := by
      have a1 := valn_lt (hU _ hmem)
      have a2 : pw (rd_L4 ls (i : Int)).length ≤ pw (m + i) := pw_mono (by omega)
      rw [← Nat.add_assoc, pw_succ]; omega
    have h3 := ih (i + 1) _ (by omega) hlt2
    have e : s + sumv (ls.drop i) = s + valn (rd_L4 ls (i : Int)) + sumv (ls.drop (i + 1)) := by
      rw [rdL4_at ls i (by omega)]; simp only [sumv, List.map_cons, List.sum_cons]; omega
    rw [e]
    refine Ev.step (f := fun k => (nat_short.f k (rd_L4 ls (i : Int))).bind fun t => (nat_plus.f k (lb s) t).bind fun t' => nat_Add.l0 k t' ls (ls.length : Int) ((i + 1 : Nat) : Int)) (fun k => ?_) (Ev.bind h1 (Ev.bind h2 h3))
    simp only [nat_Add.l0]
    rw [if_pos (by omega), if_pos (by omega), if_pos (by omega), up i (by omega)]
theorem Add_f {ls : List (List Int)} (hU : ∀ l ∈ ls, U l) (m : Nat) (hm : ∀ l ∈ ls, l.length ≤ m) (hs : m + ls.length < 35184372088832) : Ev (fun k => nat_Add.f k ls) (lb (sumv ls)) := by
  have h := Add_l0 hU m hm hs ls.length 0 0 (by omega) (pw_pos _)
  rw [lb_zero] at h
  simpa [nat_Add.f] using h
theorem Add_two {a b : List Int} (ha : U a) (hb : U b) (hsa : a.length < 30000000000000) (hsb : b.length < 30000000000000) : Ev (fun k => nat_Add.f k [a, b]) (lb (valn a + valn b)) := by
  have h := Add_f (ls := [a, b]) (by intro l hl; simp at hl; rcases hl with rfl | rfl <;> assumption) 30000000000000 (by intro l hl; simp at hl; rcases hl with rfl | rfl <;> omega) (by simp)
  simpa [sumv] using h
theorem or64 (i x y : Nat) (hx : x % 2 ^ i = 0) (hx1 : x < 18446744073709551616) (hy : y < 2 ^ i) (hi : i ≤ 63) : Go.bits .or .u64 (x : Int) (y : Int) = ((x + y : Nat) : Int) := by
  have hp : 2 ^ i ≤ 2 ^ 63 := Nat.pow_le_pow_right (by decide) hi
  have h := bits_join .u64 64 (Nat.le_refl _) (fun n h0 h1 => u64 h0 h1) i (x : Int) (y : Int) (by omega) (by exact_mod_cast hx) (by omega) (by omega) (by exact_mod_cast hy) (by omega)
  rw [h]; rfl
theorem shl64 (x n : Nat) (hx : x < 4294967296) (hn : n ≤ 31) : shl .u64 (x : Int) (n : Int) = ((x * 2 ^ n : Nat) : Int) := by
  have hp : 2 ^ n ≤ 2 ^ 31 := Nat.pow_le_pow_right (by decide) hn
  have h1 : x * 2 ^ n ≤ 4294967295 * 2 ^ 31 := Nat.mul_le_mul (by omega) hp
  have hm : min ((n : Int)).toNat IntKind.u64.bits = n := by
    have : IntKind.u64.bits = 64 := rfl
    rw [Int.toNat_natCast, this]; omega
  unfold shl
  rw [hm]
  have e : (x : Int) * 2 ^ n = ((x * 2 ^ n : Nat) : Int) := by simp
  rw [e, u64 (by omega) (by omega)]
theorem shift_l0 {l : List Int} (h : U l) (n : Nat) (hn : n ≤ 31) (hs : l.length < 35184372088832) (d : Nat) : ∀ (i : Nat) (z : List Int) (c : Nat), i + d = l.length → z.length = l.length + 1 → U z → c < 2 ^ n →
    valn (z.take i) + pw i * c = valn (l.take i) * 2 ^ n →
    Ev (fun k => nat_shift.l0 k l (n : Int) z (c : Int) l (l.length : Int) (i : Int)) (padn (l.length + 1) (valn l * 2 ^ n)) := by
  have hp : 2 ^ n ≤ 2 ^ 31 := Nat.pow_le_pow_right (by decide) hn
  induction d with
  | zero =>
    intro i z c hi hz uz hc hv
    obtain rfl : i = l.length := by omega
    have u1 : U (z.set l.length (c : Int)) := U_set uz (by omega) _
    have key : valn (z.set l.length (c : Int)) = valn l * 2 ^ n := by
      have h1 := valn_set_take z l.length (c : Int) (by omega)
      rw [List.take_of_length_le (by rw [List.length_set]; omega), Int.toNat_natCast, hv, List.take_of_length_le (Nat.le_refl _)] at h1
      exact h1
    have h2 := padn_valn u1
    rw [key, List.length_set, hz] at h2
    rw [h2]
    refine Ev.step (f := fun _ => some (z.set l.length (c : Int))) (fun k => ?_) (Ev.now _)
    simp only [nat_shift.l0]
    have e : ((c : Int)) % 4294967296 = c := by omega
    rw [if_neg (by omega), if_pos (by omega), if_pos (by omega), e]; rfl
  | succ d ih =>
    intro i z c hi hz uz hc hv
    have h0 := U_rd h (i : Int)
    obtain ⟨x, hx⟩ : ∃ x : Nat, rd l (i : Int) = (x : Int) := ⟨(rd l (i : Int)).toNat, by omega⟩
    have hx4 : x < 4294967296 := by omega
    have hxp : x * 2 ^ n + 2 ^ n ≤ 4294967296 * 2 ^ n := by
      have : (x + 1) * 2 ^ n ≤ 4294967296 * 2 ^ n := Nat.mul_le_mul_right _ (by omega)
      rwa [Nat.add_mul, Nat.one_mul] at this
    have et : Go.bits .or .u64 (shl .u64 (IntKind.u64.wrap (rd l (i : Int))) (n : Int)) (c : Int) = ((x * 2 ^ n + c : Nat) : Int) := by
      rw [hx, u64 (by omega) (by omega), shl64 x n hx4 hn, or64 n _ _ (by simp) (by omega) hc (by omega)]
    have hdiv : (x * 2 ^ n + c) / 4294967296 < 2 ^ n := by omega
    have step := ih (i + 1) (z.set i (((x * 2 ^ n + c) % 4294967296 : Nat) : Int)) ((x * 2 ^ n + c) / 4294967296) (by omega) (by rw [List.length_set]; exact hz) (U_set uz (by omega) _) hdiv (by
      rw [valn_set_take z i _ (by omega), valn_take_succ l, pw_succ, Int.toNat_natCast, hx, Int.toNat_natCast, Nat.add_mul, ← hv]
      have e2 : pw i * x * 2 ^ n = pw i * (x * 2 ^ n) := Nat.mul_assoc ..
      have e3 : pw i * (x * 2 ^ n + c) = pw i * ((x * 2 ^ n + c) % 4294967296 + 4294967296 * ((x * 2 ^ n + c) / 4294967296)) := by rw [Nat.mod_add_div]
      rw [Nat.mul_add, Nat.mul_add, ← Nat.mul_assoc (pw i) 4294967296] at e3
      omega)
    refine Ev.step (fun k => ?_) step
    simp only [nat_shift.l0]
    rw [if_pos (by omega), if_pos (by omega), if_pos (by omega), if_pos (by omega), if_pos (by omega), et, up i (by omega), Int.toNat_natCast]
    have em : (((x * 2 ^ n + c : Nat) : Int)) % 4294967296 = (((x * 2 ^ n + c) % 4294967296 : Nat) : Int) := by omega
    have ed : (((x * 2 ^ n + c : Nat) : Int)) / 4294967296 = (((x * 2 ^ n + c) / 4294967296 : Nat) : Int) := by omega
    rw [em, ed]
theorem shift_f {l : List Int} (h : U l) (n : Nat) (hn : n ≤ 31) (hs : l.length < 35184372088832) : Ev (fun k => nat_shift.f k l (n : Int)) (padn (l.length + 1) (valn l * 2 ^ n)) := by
  have h := shift_l0 h n hn hs l.length 0 (List.replicate (l.length + 1) 0) 0 (by omega) (by simp) (U_replicate _) (Nat.two_pow_pos n) (by simp [valn_nil])
  refine Ev.congr (fun k => ?_) h
  unfold nat_shift.f
  rw [up l.length (by omega), if_pos (by omega), Int.toNat_natCast, if_pos (by omega)]; rfl
def sz (n : Nat) : Nat := if n = 0 then 0 else n.log2 + 1
theorem sz_zero : sz 0 = 0 := rfl
theorem sz_eq {n b : Nat} (h1 : 2 ^ b ≤ n) (h2 : n < 2 ^ (b + 1)) : sz n = b + 1 := by
  have h0 : n ≠ 0 := by have := Nat.two_pow_pos b; omega
  unfold sz; rw [if_neg h0, (Nat.log2_eq_iff h0).mpr ⟨h1, h2⟩]
theorem sz_pos {n : Nat} (h : n ≠ 0) : 1 ≤ sz n := by unfold sz; rw [if_neg h]; omega
theorem sz_spec {n : Nat} (h : n ≠ 0) : 2 ^ (sz n - 1) ≤ n ∧ n < 2 ^ sz n := by
  unfold sz; rw [if_neg h]; exact ⟨Nat.log2_self_le h, Nat.lt_log2_self⟩
theorem lt_sz (n : Nat) : n < 2 ^ sz n := by
  by_cases h : n = 0
  · subst h; decide
  · exact (sz_spec h).2
theorem sz_div {n k : Nat} (h : n / 2 ^ k ≠ 0) : sz n = k + sz (n / 2 ^ k) := by
  obtain ⟨h1, h2⟩ := sz_spec h
  have h3 := sz_pos h
  obtain ⟨L, hL⟩ : ∃ L, sz (n / 2 ^ k) = L + 1 := ⟨sz (n / 2 ^ k) - 1, by omega⟩
  rw [hL] at h1 h2 ⊢
  rw [Nat.add_sub_cancel] at h1
  rw [Nat.le_div_iff_mul_le (Nat.two_pow_pos k), ← Nat.pow_add] at h1
  rw [Nat.div_lt_iff_lt_mul (Nat.two_pow_pos k), ← Nat.pow_add] at h2
  rw [sz_eq (b := L + k) h1 (by rw [show L + k + 1 = L + 1 + k from by omega]; exact h2)]; omega
theorem sz_le {n b : Nat} (h : n < 2 ^ b) : sz n ≤ b := by
  by_cases h0 : n = 0
  · subst h0; rw [sz_zero]; omega
  · obtain ⟨h1, _⟩ := sz_spec h0
    have := sz_pos h0
    have : 2 ^ (sz n - 1) < 2 ^ b := by omega
    have := (Nat.pow_lt_pow_iff_right (by decide : 1 < 2)).mp this
    omega
def ltab : ByteArray := ⟨#[0, 1, 2, 2, 3, 3, 3, 3, 4, 4, 4, 4, 4, 4, 4, 4, 5, 5, 5, 5, 5, 5, 5, 5, 5, 5, 5, 5, 5, 5, 5, 5, 6, 6, 6, 6, 6, 6, 6, 6, 6, 6, 6, 6, 6, 6, 6, 6, 6, 6, 6, 6, 6, 6, 6, 6, 6, 6, 6, 6, 6, 6, 6, 6, 7, 7, 7, 7, 7, 7, 7, 7, 7, 7, 7, 7, 7, 7, 7, 7, 7, 7, 7, 7, 7, 7, 7, 7, 7, 7, 7, 7, 7, 7, 7, 7, 7, 7, 7, 7, 7, 7, 7, 7, 7, 7, 7, 7, 7, 7, 7, 7, 7, 7, 7, 7, 7, 7, 7, 7, 7, 7, 7, 7, 7, 7, 7, 7, 8, 8, 8, 8, 8, 8, 8, 8, 8, 8, 8, 8, 8, 8, 8, 8, 8, 8, 8, 8, 8, 8, 8, 8, 8, 8, 8, 8, 8, 8, 8, 8, 8, 8, 8, 8, 8, 8, 8, 8, 8, 8, 8, 8, 8, 8, 8, 8, 8, 8, 8, 8, 8, 8, 8, 8, 8, 8, 8, 8, 8, 8, 8, 8, 8, 8, 8, 8, 8, 8, 8, 8, 8, 8, 8, 8, 8, 8, 8, 8, 8, 8, 8, 8, 8, 8, 8, 8, 8, 8, 8, 8, 8, 8, 8, 8, 8, 8, 8, 8, 8, 8, 8, 8, 8, 8, 8, 8, 8, 8, 8, 8, 8, 8, 8, 8, 8, 8, 8, 8, 8, 8, 8, 8, 8, 8, 8, 8]⟩
theorem ltab_at : ∀ i : Fin 256, bt ltab (i.val : Int) = (sz i.val : Int) := by decide +kernel
theorem ltab_at' (i : Nat) (h : i < 256) : bt ltab (i : Int) = (sz i : Int) := ltab_at ⟨i, h⟩
theorem Len32_eq (a0 : Int) : bits_Len32.f a0 = (if a0 ≥ 65536 then (if (a0 / 65536) ≥ 256 then (if 0 ≤ (((a0 / 65536) / 256) % 256) then (if (((a0 / 65536) / 256) % 256) < 256 then (some (wrap64 ((16 + 8) + (wrap64 (bt ltab (((a0 / 65536) / 256) % 256)))))) else (none)) else (none)) else (if 0 ≤ ((a0 / 65536) % 256) then (if ((a0 / 65536) % 256) < 256 then (some (wrap64 (16 + (wrap64 (bt ltab ((a0 / 65536) % 256)))))) else (none)) else (none))) else (if a0 ≥ 256 then (if 0 ≤ ((a0 / 256) % 256) then (if ((a0 / 256) % 256) < 256 then (some (wrap64 ((0 + 8) + (wrap64 (bt ltab ((a0 / 256) % 256)))))) else (none)) else (none)) else (if 0 ≤ ((a0) % 256) then (if ((a0) % 256) < 256 then (some (wrap64 (0 + (wrap64 (bt ltab ((a0) % 256)))))) else (none)) else (none)))) := rfl
theorem Len32_f (n : Nat) (h : n < 4294967296) : bits_Len32.f (n : Int) = some ((sz n : Nat) : Int) := by
  rw [Len32_eq]
  have w : ∀ x : Nat, x ≤ 100 → wrap64 (x : Int) = (x : Int) := fun x hx => w64 (by omega) (by omega)
  have hb : sz n ≤ 32 := sz_le (b := 32) h
  by_cases c1 : (n : Int) ≥ 65536
  · rw [if_pos c1]
    have e1 : (n : Int) / 65536 = ((n / 65536 : Nat) : Int) := rfl
    have z1 : sz n = 16 + sz (n / 65536) := sz_div (k := 16) (by show n / 65536 ≠ 0; omega)
    rw [e1]
    by_cases c2 : ((n / 65536 : Nat) : Int) ≥ 256
    · have e2 : ((n / 65536 : Nat) : Int) / 256 % 256 = ((n / 65536 / 256 : Nat) : Int) := by omega
      have z2 : sz (n / 65536) = 8 + sz (n / 65536 / 256) := sz_div (k := 8) (by show n / 65536 / 256 ≠ 0; omega)
      have l2 : n / 65536 / 256 < 256 := by omega
      rw [if_pos c2, e2, if_pos (by omega), if_pos (by omega), ltab_at' _ l2, w _ (by omega)]
      rw [z1, z2, w64 (by omega) (by omega)]; congr 1 <;> omega
    · have e2 : ((n / 65536 : Nat) : Int) % 256 = ((n / 65536 : Nat) : Int) := by omega
      have l2 : n / 65536 < 256 := by omega
      rw [if_neg c2, e2, if_pos (by omega), if_pos (by omega), ltab_at' _ l2, w _ (by omega)]
      rw [z1, w64 (by omega) (by omega)]; congr 1 <;> omega
  · rw [if_neg c1]
    by_cases c2 : (n : Int) ≥ 256
    · have e2 : (n : Int) / 256 % 256 = ((n / 256 : Nat) : Int) := by omega
      have z2 : sz n = 8 + sz (n / 256) := sz_div (k := 8) (by show n / 256 ≠ 0; omega)
      have l2 : n / 256 < 256 := by omega
      rw [if_pos c2, e2, if_pos (by omega), if_pos (by omega), ltab_at' _ l2, w _ (by omega)]
      rw [z2, w64 (by omega) (by omega)]; congr 1 <;> omega
    · have e2 : (n : Int) % 256 = (n : Int) := by omega
      have l2 : n < 256 := by omega
      rw [if_neg c2, e2, if_pos (by omega), if_pos (by omega), ltab_at' _ l2, w _ (by omega)]
      rw [w64 (by omega) (by omega)]; congr 1 <;> omega
theorem LeadingZeros32_f (n : Nat) (h : n < 4294967296) : bits_LeadingZeros32.f (n : Int) = some ((32 - sz n : Nat) : Int) := by
  have hb : sz n ≤ 32 := sz_le (b := 32) h
  unfold bits_LeadingZeros32.f
  rw [Len32_f n h, Option.bind_some, w64 (by omega) (by omega)]; congr 1 <;> omega
theorem lz_shift {n : Nat} (h0 : n ≠ 0) (h : n < 4294967296) : 2147483648 ≤ n * 2 ^ (32 - sz n) ∧ n * 2 ^ (32 - sz n) < 4294967296 ∧ 32 - sz n ≤ 31 := by
  have hb : sz n ≤ 32 := sz_le (b := 32) h
  have h1 := sz_pos h0
  obtain ⟨h2, h3⟩ := sz_spec h0
  have e1 : (2147483648 : Nat) = 2 ^ (sz n - 1) * 2 ^ (32 - sz n) := by rw [← Nat.pow_add, show sz n - 1 + (32 - sz n) = 31 from by omega]
  have e2 : (4294967296 : Nat) = 2 ^ sz n * 2 ^ (32 - sz n) := by rw [← Nat.pow_add, show sz n + (32 - sz n) = 32 from by omega]
  refine ⟨?_, ?_, by omega⟩
  · rw [e1]; exact Nat.mul_le_mul_right _ h2
  · conv => rhs; rw [e2]
    exact Nat.mul_lt_mul_of_pos_right h3 (Nat.two_pow_pos _)
theorem mul_step {V V' Z0 p P q d bj zij c tm c' S : Nat} (h : V + p * c = Z0 + P * d * S) (hs : V' + p * zij = V + p * tm) (e : d * bj + zij + c = tm + 4294967296 * c') (hp : p = P * q) :
    V' + p * 4294967296 * c' = Z0 + P * d * (S + q * bj) := by
  have h1 : p * (d * bj + zij + c) = p * (tm + 4294967296 * c') := by rw [e]
  simp only [Nat.mul_add] at h1 ⊢
  have h2 : P * d * (q * bj) = p * (d * bj) := by rw [hp]; ac_rfl
  have h3 : p * 4294967296 * c' = p * (4294967296 * c') := by rw [Nat.mul_assoc]
  omega
def tv (d bj zij c : Nat) : Nat := d * bj + zij + c
theorem tv_lt {d bj zij c : Nat} (hd : d < 4294967296) (hb : bj < 4294967296) (hz : zij < 4294967296) (hc : c < 4294967296) : tv d bj zij c < 18446744073709551616 := by
  have := Nat.mul_le_mul (Nat.le_sub_one_of_lt hd) (Nat.le_sub_one_of_lt hb)
  unfold tv; omega
theorem inner {α : Type} {b : List Int} (hb : U b) (L i d : Nat) (hd : d < 4294967296) (hL : i + b.length < L) (F : Nat → List Int → Nat → Nat → Option α) (R : α) (v0 : Nat)
    (hstep : ∀ k z c j, j < b.length → z.length = L → U z → c < 4294967296 →
      F (k + 1) z c j = F k (z.set (i + j) ((tv d (rd b (j : Int)).toNat (rd z ((i + j : Nat) : Int)).toNat c % 4294967296 : Nat) : Int)) (tv d (rd b (j : Int)).toNat (rd z ((i + j : Nat) : Int)).toNat c / 4294967296) (j + 1))
    (hend : ∀ z c, z.length = L → U z → c < 4294967296 → valn z + pw (i + b.length) * c = v0 + pw i * d * valn b → valn (z.drop (i + b.length)) = 0 → Ev (fun k => F k z c b.length) R) (n : Nat) :
    ∀ (j : Nat) (z : List Int) (c : Nat), j + n = b.length → z.length = L → U z → c < 4294967296 → valn z + pw (i + j) * c = v0 + pw i * d * valn (b.take j) → valn (z.drop (i + b.length)) = 0 → Ev (fun k => F k z c j) R := by
  induction n with
  | zero =>
    intro j z c hj hz uz hc hv h0
    obtain rfl : j = b.length := by omega
    rw [List.take_of_length_le (Nat.le_refl _)] at hv
    exact hend z c hz uz hc hv h0
  | succ n ih =>
    intro j z c hj hz uz hc hv h0
    have b1 := U_rd hb (j : Int)
    have b2 := U_rd uz ((i + j : Nat) : Int)
    have ht := tv_lt (d := d) (bj := (rd b (j : Int)).toNat) (zij := (rd z ((i + j : Nat) : Int)).toNat) (c := c) hd (by omega) (by omega) hc
    refine Ev.step (fun k => hstep k z c j (by omega) hz uz hc) (ih (j + 1) _ _ (by omega) (by rw [List.length_set]; exact hz) (U_set uz (by omega) _) (by omega) ?_ ?_)
    · rw [valn_take_succ, ← Nat.add_assoc, pw_succ]
      have hs := valn_set z (i + j) ((tv d (rd b (j : Int)).toNat (rd z ((i + j : Nat) : Int)).toNat c % 4294967296 : Nat) : Int) (by omega)
      rw [Int.toNat_natCast] at hs
      exact mul_step hv hs (by have e : d * (rd b (j : Int)).toNat + (rd z ((i + j : Nat) : Int)).toNat + c = tv d (rd b (j : Int)).toNat (rd z ((i + j : Nat) : Int)).toNat c := rfl
                               rw [e]; omega) (pw_add i j)
    · rw [List.drop_set_of_lt (by omega)]; exact h0
theorem mulLoop {α : Type} {a b : List Int} (ha : U a) (hb : U b) (G : Nat → List Int → Nat → Option α) (F : Nat → Nat → List Int → Nat → Nat → Option α) (R : α)
    (h1 : ∀ k z i, i < a.length → z.length = a.length + b.length → G (k + 1) z i = F k i z 0 0)
    (h2 : ∀ k i z c j, i < a.length → j < b.length → z.length = a.length + b.length → U z → c < 4294967296 →
      F (k + 1) i z c j = F k i (z.set (i + j) ((tv (rd a (i : Int)).toNat (rd b (j : Int)).toNat (rd z ((i + j : Nat) : Int)).toNat c % 4294967296 : Nat) : Int)) (tv (rd a (i : Int)).toNat (rd b (j : Int)).toNat (rd z ((i + j : Nat) : Int)).toNat c / 4294967296) (j + 1))
    (h3 : ∀ k i z (c : Nat), i < a.length → z.length = a.length + b.length → c < 4294967296 → F (k + 1) i z c b.length = G k (z.set (i + b.length) (c : Int)) (i + 1))
    (h4 : ∀ z, U z → z.length = a.length + b.length → valn z = valn a * valn b → Ev (fun k => G k z a.length) R) : Ev (fun k => G k (List.replicate (a.length + b.length) 0) 0) R := by
  have go : ∀ (n i : Nat) (z : List Int), i + n = a.length → z.length = a.length + b.length → U z → valn z = valn (a.take i) * valn b → valn (z.drop (i + b.length)) = 0 → Ev (fun k => G k z i) R := by
    intro n
    induction n with
    | zero =>
      intro i z hi hz uz hv h0
      obtain rfl : i = a.length := by omega
      rw [List.take_of_length_le (Nat.le_refl _)] at hv
      exact h4 z uz hz hv
    | succ n ih =>
      intro i z hi hz uz hv h0
      have a1 := U_rd ha (i : Int)
      refine Ev.step (fun k => h1 k z i (by omega) hz) ?_
      refine inner hb (a.length + b.length) i (rd a (i : Int)).toNat (by omega) (by omega) (fun k z c j => F k i z c j) R (valn z) (fun k z c j hj hz uz hc => h2 k i z c j (by omega) hj hz uz hc) ?_ b.length 0 z 0 (by omega) hz uz (by omega) (by simp [valn_nil]) h0
      intro z' c hz' uz' hc hv' h0'
      refine Ev.step (fun k => h3 k i z' c (by omega) hz' hc) (ih (i + 1) _ (by omega) (by rw [List.length_set]; exact hz') (U_set uz' (by omega) _) ?_ ?_)
      · have hs := valn_set z' (i + b.length) (c : Int) (by omega)
        rw [Int.toNat_natCast] at hs
        have hr : (rd z' ((i + b.length : Nat) : Int)).toNat = 0 := by
          have := valn_drop_rd z' (i + b.length)
          omega
        rw [hr, Nat.mul_zero, Nat.add_zero] at hs
        rw [hs, hv', hv, valn_take_succ, Nat.add_mul]
      · rw [List.drop_set_of_lt (by omega)]
        have := valn_drop_rd z' (i + b.length)
        have e : i + 1 + b.length = i + b.length + 1 := by omega
        rw [e]; omega
  exact go a.length 0 _ (by omega) (by simp) (U_replicate _) (by simp [valn_replicate, valn_nil]) (by rw [List.drop_replicate]; exact valn_replicate _)
theorem times_f {a b : List Int} (ha : U a) (hb : U b) (hs : a.length + b.length < 35184372088832) : Ev (fun k => nat_times.f k a b) (lb (valn a * valn b)) := by
  have go := mulLoop ha hb (fun k z i => nat_times.l0 k b z a (a.length : Int) (i : Int)) (fun k i z c j => nat_times.l1 k b z (i : Int) (rd a (i : Int)) (c : Int) a (a.length : Int) (i : Int) b (b.length : Int) (j : Int)) (lb (valn a * valn b)) ?_ ?_ ?_ ?_
  · refine Ev.congr (fun k => ?_) go
    unfold nat_times.f
    have e : wrap64 ((a.length : Int) + (b.length : Int)) = ((a.length + b.length : Nat) : Int) := by rw [w64 (by omega) (by omega)]; rfl
    rw [e, if_pos (by omega), Int.toNat_natCast, if_pos (by omega)]; rfl
  · intro k z i hi hz
    simp only [nat_times.l0]
    rw [if_pos (by omega), if_pos (by omega), if_pos (by omega)]; rfl
  · intro k i z c j hi hj hz uz hc
    have a1 := U_rd ha (i : Int)
    have b1 := U_rd hb (j : Int)
    have b2 := U_rd uz ((i + j : Nat) : Int)
    have ht := tv_lt (d := (rd a (i : Int)).toNat) (bj := (rd b (j : Int)).toNat) (zij := (rd z ((i + j : Nat) : Int)).toNat) (c := c) (by omega) (by omega) (by omega) hc
    obtain ⟨A, hA⟩ : ∃ A : Nat, rd a (i : Int) = (A : Int) := ⟨(rd a (i : Int)).toNat, by omega⟩
    obtain ⟨B, hB⟩ : ∃ B : Nat, rd b (j : Int) = (B : Int) := ⟨(rd b (j : Int)).toNat, by omega⟩
    obtain ⟨Z, hZ⟩ : ∃ Z : Nat, rd z ((i + j : Nat) : Int) = (Z : Int) := ⟨(rd z ((i + j : Nat) : Int)).toNat, by omega⟩
    have eij : wrap64 ((i : Int) + (j : Int)) = ((i + j : Nat) : Int) := by rw [w64 (by omega) (by omega)]; rfl
    simp only [nat_times.l1]
    rw [if_pos (by omega), if_pos (by omega), if_pos (by omega), eij]
    clear eij
    rw [hA, hB, hZ] at ht ⊢
    simp only [Int.toNat_natCast] at ht ⊢
    have hp : A * B ≤ tv A B Z c := by unfold tv; omega
    have ht2 : A * B + Z + c < 18446744073709551616 := ht
    have e1 : IntKind.u64.wrap (A : Int) = (A : Int) := u64 (by omega) (by omega)
    have e2 : IntKind.u64.wrap (B : Int) = (B : Int) := u64 (by omega) (by omega)
    have e3 : IntKind.u64.wrap (Z : Int) = (Z : Int) := u64 (by omega) (by omega)
    have e4 : IntKind.u64.wrap ((A : Int) * (B : Int)) = ((A * B : Nat) : Int) := by rw [← Int.natCast_mul]; exact u64 (Int.natCast_nonneg _) (by omega)
    have e5 : IntKind.u64.wrap (((A * B : Nat) : Int) + (Z : Int)) = ((A * B + Z : Nat) : Int) := by
      rw [← Int.natCast_add]; exact u64 (Int.natCast_nonneg _) (by
        have : A * B + Z ≤ tv A B Z c := by unfold tv; omega
        omega)
    have e6 : IntKind.u64.wrap (((A * B + Z : Nat) : Int) + (c : Int)) = ((tv A B Z c : Nat) : Int) := by
      rw [← Int.natCast_add]; exact u64 (Int.natCast_nonneg _) (by omega)
    rw [e1, e2, e3, e4, e5, e6]
    clear e1 e2 e3 e4 e5 e6
    generalize tv A B Z c = t at ht ⊢
    have em : ((t : Nat) : Int) % 4294967296 = ((t % 4294967296 : Nat) : Int) := by omega
    have ed : ((t : Nat) : Int) / 4294967296 = ((t / 4294967296 : Nat) : Int) := by omega
    rw [if_pos (by omega), if_pos (by omega), em, ed, up j (by omega)]
  · intro k i z c hi hz hc
    have eij : wrap64 ((i : Int) + (b.length : Int)) = ((i + b.length : Nat) : Int) := by rw [w64 (by omega) (by omega)]; rfl
    have ec : ((c : Nat) : Int) % 4294967296 = (c : Int) := by omega
    simp only [nat_times.l1]
    rw [if_neg (by omega), eij, ec]
    clear eij ec
    rw [if_pos (by omega), if_pos (by omega), up i (by omega), Int.toNat_natCast]
  · intro z uz hz hv
    have h := short_f uz (by omega)
    rw [hv] at h
    refine Ev.step (f := fun k => (nat_short.f k z).bind some) (fun k => ?_) (Ev.bind h (Ev.now _))
    simp only [nat_times.l0]
    rw [if_neg (by omega)]
def prodv (ls : List (List Int)) : Nat := (ls.map valn).foldr (· * ·) 1
def lensum (ls : List (List Int)) : Nat := (ls.map List.length).sum
theorem Mul_l0 {ls : List (List Int)} (hU : ∀ l ∈ ls, U l) (hL : ls.length ≤ 9223372036854775807) (n0 : Nat) (n : Nat) : ∀ (i : Nat) (s m : Nat), i + n = ls.length → s < pw m → m + lensum (ls.drop i) ≤ n0 → n0 < 35184372088832 →
    Ev (fun k => nat_Mul.l0 k (lb s) ls (ls.length : Int) (i : Int)) (lb (s * prodv (ls.drop i))) := by
  induction n with
  | zero =>
    intro i s m hi hlt hm hn
    obtain rfl : i = ls.length := by omega
    have hlen := lb_len_le hlt
    have h := Trim_f (U_lb s) (by omega)
    rw [valn_lb] at h
    have e : s * prodv (ls.drop ls.length) = s := by simp [prodv]
    rw [e]
    refine Ev.step (f := fun k => (nat_Trim.f k (lb s)).bind some) (fun k => ?_) (Ev.bind h (Ev.now _))
    simp only [nat_Mul.l0]
    rw [if_neg (by omega)]
  | succ n ih =>
    intro i s m hi hlt hm hn
    have hmem := rdL4_mem ls i (by omega)
    have hd := rdL4_at ls i (by omega)
    rw [hd] at hm ⊢
    have hm' : m + ((rd_L4 ls (i : Int)).length + lensum (ls.drop (i + 1))) ≤ n0 := by simpa [lensum] using hm
    have hlen := lb_len_le hlt
    have hlen2 := lb_len (hU _ hmem)
    have h1 := short_f (hU _ hmem) (by omega)
    have h2 := times_f (U_lb s) (U_lb (valn (rd_L4 ls (i : Int)))) (by omega)
    rw [valn_lb, valn_lb] at h2
    have hlt2 : s * valn (rd_L4 ls (i : Int)) < pw (m + (rd_L4 ls (i : Int)).length) := by
      rw [pw_add]
      exact Nat.mul_lt_mul'' hlt (valn_lt (hU _ hmem))
    have h3 := ih (i + 1) _ _ (by omega) hlt2 (by omega) hn
    have e : s * prodv (rd_L4 ls (i : Int) :: ls.drop (i + 1)) = s * valn (rd_L4 ls (i : Int)) * prodv (ls.drop (i + 1)) := by
      simp only [prodv, List.map_cons, List.foldr_cons, Nat.mul_assoc]
    rw [e]
    refine Ev.step (f := fun k => (nat_short.f k (rd_L4 ls (i : Int))).bind fun t => (nat_times.f k (lb s) t).bind fun t' => nat_Mul.l0 k t' ls (ls.length : Int) ((i + 1 : Nat) : Int)) (fun k => ?_) (Ev.bind h1 (Ev.bind h2 h3))
    simp only [nat_Mul.l0]
    rw [if_pos (by omega), if_pos (by omega), if_pos (by omega), up i (by omega)]
theorem lb_one : lb 1 = [1] := by rw [lb_pos (by omega)]; simp [lb_zero]
theorem Mul_f {ls : List (List Int)} (hU : ∀ l ∈ ls, U l) (hs : lensum ls < 35184372088831) (hn : ls.length ≤ 9223372036854775807) : Ev (fun k => nat_Mul.f k ls) (lb (prodv ls)) := by
  have h := Mul_l0 hU hn (1 + lensum ls) ls.length 0 1 1 (by omega) (by rw [pw_succ, pw_zero]; omega) (by simp) (by omega)
  rw [lb_one] at h
  simpa [nat_Mul.f] using h
theorem Mul_two {a b : List Int} (ha : U a) (hb : U b) (hs : a.length + b.length < 30000000000000) : Ev (fun k => nat_Mul.f k [a, b]) (lb (valn a * valn b)) := by
  have h := Mul_f (ls := [a, b]) (by intro l hl; simp at hl; rcases hl with rfl | rfl <;> assumption) (by simp [lensum]; omega) (by simp)
  simpa [prodv] using h
theorem limb_f {l : List Int} (h : U l) (i : Nat) : codewrightref01_limb.f l (i : Int) = some (rd l (i : Int)) := by
  unfold codewrightref01_limb.f
  by_cases hi : i < l.length
  · have := U_rd h (i : Int)
    rw [if_pos (by omega), if_pos (by omega), u64 (by omega) (by omega)]
  · rw [if_neg (by omega), rd_ge l i (by omega)]
theorem tmod_nat (s : Nat) : Int.tmod (s : Int) 4294967296 = ((s % 4294967296 : Nat) : Int) := rfl
theorem tdiv_nat (s : Nat) : Int.tdiv (s : Int) 4294967296 = ((s / 4294967296 : Nat) : Int) := rfl
theorem radd_l0 {a b : List Int} (ha : U a) (hb : U b) (hsa : a.length < 30000000000000) (hsb : b.length < 30000000000000) (n : Nat) : ∀ (i : Nat) (z : List Int) (c : Nat), i + n = a.length + b.length + 1 → z.length = i → U z → c ≤ 1 → (max a.length b.length < i → c = 0) → i ≤ max a.length b.length + 1 →
    valn z + pw i * c = valn (a.take i) + valn (b.take i) →
    Ev (fun k => codewrightref01_Add.l0 k a b z (c : Int) (i : Int)) (lb (valn a + valn b)) := by
  induction n with
  | zero =>
    intro i z c hi hz uz hc hc0 hm hv
    have ec : c = 0 := by
      by_cases h : max a.length b.length < i
      · exact hc0 h
      · omega
    subst ec
    rw [Nat.mul_zero, Nat.add_zero, List.take_of_length_le (by omega), List.take_of_length_le (by omega)] at hv
    have h := rTrim_f uz (by omega)
    rw [hv] at h
    refine Ev.step (f := fun k => codewrightref01_Add.j1 k a b z (0 : Nat) (i : Int) false) (fun k => ?_) ?_
    · simp only [codewrightref01_Add.l0]
      rw [if_neg (by omega), if_neg (by omega)]; rfl
    · refine Ev.step (f := fun k => (codewrightref01_Trim.f k z).bind some) (fun k => ?_) (Ev.bind h (Ev.now _))
      simp only [codewrightref01_Add.j1]
      rw [if_neg (by simp)]
  | succ n ih =>
    intro i z c hi hz uz hc hc0 hm hv
    by_cases more : i < a.length ∨ i < b.length ∨ 0 < c
    · have h0 := U_rd ha (i : Int)
      have h1 := U_rd hb (i : Int)
      obtain ⟨s, hs1⟩ : ∃ s : Nat, rd a (i : Int) + rd b (i : Int) + (c : Int) = (s : Int) := ⟨(rd a (i : Int) + rd b (i : Int) + (c : Int)).toNat, by omega⟩
      have him : i ≤ max a.length b.length := by
        rcases more with h | h | h
        · omega
        · omega
        · by_cases h' : max a.length b.length < i
          · have := hc0 h'; omega
          · omega
      have step := ih (i + 1) (z ++ [((s % 4294967296 : Nat) : Int)]) (s / 4294967296) (by omega) (by simp [hz]) (U_append uz (U_cons (by omega) U_nil)) (by omega) (by
        intro hlt
        have e : i = max a.length b.length := by omega
        have r1 := rd_ge a i (by omega)
        have r2 := rd_ge b i (by omega)
        omega) (by omega) (by
        rw [valn_append, hz, valn_cons, valn_nil, valn_take_succ a, valn_take_succ b, pw_succ, Int.toNat_natCast, Nat.mul_zero, Nat.add_zero]
        exact step_val hv (by omega))
      refine Ev.step (f := fun k => codewrightref01_Add.j1 k a b z (c : Int) (i : Int) true) (fun k => ?_) (Ev.step (fun k => ?_) step)
      · simp only [codewrightref01_Add.l0]
        by_cases p1 : i < a.length
        · rw [if_pos (by omega)]
        · rw [if_neg (by omega)]
          by_cases p2 : i < b.length
          · rw [if_pos (by omega)]
          · rw [if_neg (by omega), decide_eq_true (by omega : (c : Int) > 0)]
      · simp only [codewrightref01_Add.j1]
        rw [if_pos trivial, limb_f ha, limb_f hb, Option.bind_some, Option.bind_some, if_pos (by omega), u64 (x := rd a (i : Int) + rd b (i : Int)) (by omega) (by omega), u64 (x := rd a (i : Int) + rd b (i : Int) + (c : Int)) (by omega) (by omega), hs1, tmod_nat, tdiv_nat, u64 (x := ((s / 4294967296 : Nat) : Int)) (by omega) (by omega), up i (by omega)]
        have em : (((s % 4294967296 : Nat) : Int)) % 4294967296 = ((s % 4294967296 : Nat) : Int) := by omega
        rw [em]
    · have ec : c = 0 := by omega
      subst ec
      rw [Nat.mul_zero, Nat.add_zero, List.take_of_length_le (by omega), List.take_of_length_le (by omega)] at hv
      have h := rTrim_f uz (by omega)
      rw [hv] at h
      refine Ev.step (f := fun k => codewrightref01_Add.j1 k a b z (0 : Nat) (i : Int) false) (fun k => ?_) ?_
      · simp only [codewrightref01_Add.l0]
        rw [if_neg (by omega), if_neg (by omega)]; rfl
      · refine Ev.step (f := fun k => (codewrightref01_Trim.f k z).bind some) (fun k => ?_) (Ev.bind h (Ev.now _))
        simp only [codewrightref01_Add.j1]
        rw [if_neg (by simp)]
theorem rAdd_f {a b : List Int} (ha : U a) (hb : U b) (hsa : a.length < 30000000000000) (hsb : b.length < 30000000000000) : Ev (fun k => codewrightref01_Add.f k a b) (lb (valn a + valn b)) := by
  have h := radd_l0 ha hb (by omega) (by omega) (a.length + b.length + 1) 0 [] 0 (by omega) rfl U_nil (by omega) (by omega) (by omega) (by simp [valn_nil])
  exact h
def cmpn (m n : Nat) : Int := if m < n then -1 else if n < m then 1 else 0
theorem cmpn_self (m : Nat) : cmpn m m = 0 := by simp [cmpn]
theorem cmpn_zero {m n : Nat} : cmpn m n = 0 ↔ m = n := by unfold cmpn; omega
theorem valn_split (l : List Int) (n : Nat) : valn l = valn (l.take n) + pw n * valn (l.drop n) := by
  by_cases h : n ≤ l.length
  · exact valn_take_drop l n h
  · rw [List.take_of_length_le (by omega), List.drop_eq_nil_of_le (by omega), valn_nil]; simp
theorem take_lt {l : List Int} (h : U l) (n : Nat) : valn (l.take n) < pw n :=
  Nat.lt_of_lt_of_le (valn_lt (U_take h n)) (pw_mono (by rw [List.length_take]; omega))
theorem top_lt {a b : List Int} (ha : U a) (n : Nat) (hd : valn (a.drop (n + 1)) = valn (b.drop (n + 1))) (h : (rd a (n : Int)).toNat < (rd b (n : Int)).toNat) : valn a < valn b := by
  have h1 := take_lt ha n
  have h2 := valn_split a n
  have h3 := valn_split b n
  have h4 := valn_drop_rd a n
  have h5 := valn_drop_rd b n
  have h6 : pw n * (valn (a.drop n) + 1) ≤ pw n * valn (b.drop n) := Nat.mul_le_mul_left _ (by omega)
  rw [Nat.mul_add] at h6
  omega
theorem Cmp_l0 {a b : List Int} (ha : U a) (hb : U b) (he : a.length = b.length) (hs : a.length < 9223372036854775807) : ∀ n : Nat, n ≤ a.length → valn (a.drop n) = valn (b.drop n) →
    Ev (fun k => nat_Cmp.l0 k a b ((n : Int) - 1)) (cmpn (valn a) (valn b)) := by
  intro n
  induction n with
  | zero =>
    intro hn hd
    simp only [List.drop_zero] at hd
    rw [hd, cmpn_self]
    refine Ev.step (f := fun _ => some 0) (fun k => ?_) (Ev.now _)
    simp only [nat_Cmp.l0]
    rw [if_neg (by omega)]
  | succ n ih =>
    intro hn hd
    have e1 : ((n + 1 : Nat) : Int) - 1 = (n : Int) := by omega
    have a1 := U_rd ha (n : Int)
    have b1 := U_rd hb (n : Int)
    rw [e1]
    by_cases h1 : rd a (n : Int) < rd b (n : Int)
    · have := top_lt ha n hd (by omega)
      have ec : cmpn (valn a) (valn b) = -1 := by unfold cmpn; rw [if_pos this]
      rw [ec]
      refine Ev.step (f := fun _ => some (-1)) (fun k => ?_) (Ev.now _)
      simp only [nat_Cmp.l0]
      rw [if_pos (by omega), if_pos (by omega), if_pos (by omega), if_pos (by omega), if_pos h1]
    · by_cases h2 : rd b (n : Int) < rd a (n : Int)
      · have := top_lt hb n hd.symm (by omega)
        have ec : cmpn (valn a) (valn b) = 1 := by unfold cmpn; rw [if_neg (by omega), if_pos this]
        rw [ec]
        refine Ev.step (f := fun _ => some 1) (fun k => ?_) (Ev.now _)
        simp only [nat_Cmp.l0]
        rw [if_pos (by omega), if_pos (by omega), if_pos (by omega), if_pos (by omega), if_neg h1, if_pos (by omega)]
      · refine Ev.step (f := fun k => nat_Cmp.l0 k a b ((n : Int) - 1)) (fun k => ?_) (ih (by omega) (by have := valn_drop_rd a n; have := valn_drop_rd b n; omega))
        simp only [nat_Cmp.l0]
        rw [if_pos (by omega), if_pos (by omega), if_pos (by omega), if_pos (by omega), if_neg h1, if_neg (by omega), w64 (by omega) (by omega)]
theorem Cmp_f {a b : List Int} (ha : U a) (hb : U b) (hsa : a.length < 9223372036854775807) (hsb : b.length < 9223372036854775807) : Ev (fun k => nat_Cmp.f k a b) (cmpn (valn a) (valn b)) := by
  unfold nat_Cmp.f
  refine Ev.bind (short_f ha (by omega)) (Ev.bind (short_f hb (by omega)) ?_)
  have la := lb_len ha
  have lbb := lb_len hb
  by_cases h : (lb (valn a)).length = (lb (valn b)).length
  · have go := Cmp_l0 (U_lb (valn a)) (U_lb (valn b)) h (by omega) (lb (valn a)).length (Nat.le_refl _) (by rw [List.drop_eq_nil_of_le (Nat.le_refl _), List.drop_eq_nil_of_le (by omega)])
    rw [valn_lb, valn_lb] at go
    refine Ev.congr (fun k => ?_) go
    rw [if_pos (by omega), w64 (by omega) (by omega)]
  · by_cases h2 : (lb (valn a)).length < (lb (valn b)).length
    · have ec : cmpn (valn a) (valn b) = -1 := by unfold cmpn; rw [if_pos (len_lt_of_lt h2)]
      rw [ec]
      refine Ev.congr (f := fun _ => some (-1)) (fun k => ?_) (Ev.now _)
      rw [if_neg (by omega), if_pos (by omega)]
    · have := len_lt_of_lt (m := valn b) (n := valn a) (by omega)
      have ec : cmpn (valn a) (valn b) = 1 := by unfold cmpn; rw [if_neg (by omega), if_pos this]
      rw [ec]
      refine Ev.congr (f := fun _ => some 1) (fun k => ?_) (Ev.now _)
      rw [if_neg (by omega), if_neg (by omega)]
theorem rCmp_l0 {a b : List Int} (ha : U a) (hb : U b) : ∀ n : Nat, n < 9223372036854775807 → valn (a.drop n) = valn (b.drop n) →
    Ev (fun k => codewrightref01_Cmp.l0 k a b ((n : Int) - 1)) (cmpn (valn a) (valn b)) := by
  intro n
  induction n with
  | zero =>
    intro hn hd
    simp only [List.drop_zero] at hd
    rw [hd, cmpn_self]
    refine Ev.step (f := fun _ => some 0) (fun k => ?_) (Ev.now _)
    simp only [codewrightref01_Cmp.l0]
    rw [if_neg (by omega)]
  | succ n ih =>
    intro hn hd
    have e1 : ((n + 1 : Nat) : Int) - 1 = (n : Int) := by omega
    have a1 := U_rd ha (n : Int)
    have b1 := U_rd hb (n : Int)
    rw [e1]
    by_cases h1 : rd a (n : Int) < rd b (n : Int)
    · have := top_lt ha n hd (by omega)
      have ec : cmpn (valn a) (valn b) = -1 := by unfold cmpn; rw [if_pos this]
      rw [ec]
      refine Ev.step (f := fun _ => some (-1)) (fun k => ?_) (Ev.now _)
      simp only [codewrightref01_Cmp.l0, limb_f ha, limb_f hb, Option.bind_some]
      rw [if_pos (by omega), if_pos h1]
    · by_cases h2 : rd b (n : Int) < rd a (n : Int)
      · have := top_lt hb n hd.symm (by omega)
        have ec : cmpn (valn a) (valn b) = 1 := by unfold cmpn; rw [if_neg (by omega), if_pos this]
        rw [ec]
        refine Ev.step (f := fun _ => some 1) (fun k => ?_) (Ev.now _)
        simp only [codewrightref01_Cmp.l0, limb_f ha, limb_f hb, Option.bind_some]
        rw [if_pos (by omega), if_neg h1, if_pos (by omega)]
      · refine Ev.step (f := fun k => codewrightref01_Cmp.l0 k a b ((n : Int) - 1)) (fun k => ?_) (ih (by omega) (by have := valn_drop_rd a n; have := valn_drop_rd b n; omega))
        simp only [codewrightref01_Cmp.l0, limb_f ha, limb_f hb, Option.bind_some]
        rw [if_pos (by omega), if_neg h1, if_neg (by omega), w64 (by omega) (by omega)]
theorem rCmp_f {a b : List Int} (ha : U a) (hb : U b) (hsa : a.length < 9223372036854775807) (hsb : b.length < 9223372036854775807) : Ev (fun k => codewrightref01_Cmp.f k a b) (cmpn (valn a) (valn b)) := by
  have go := rCmp_l0 ha hb (max a.length b.length) (by omega) (by rw [List.drop_eq_nil_of_le (by omega), List.drop_eq_nil_of_le (by omega)])
  refine Ev.congr (fun k => ?_) go
  unfold codewrightref01_Cmp.f mx
  have e : (if (a.length : Int) < (b.length : Int) then (b.length : Int) else (a.length : Int)) = ((max a.length b.length : Nat) : Int) := by omega
  rw [w64 (by omega) (by omega)]
  congr 1; omega
theorem Same_l0 {a b : List Int} (he : a.length = b.length) (hs : a.length < 9223372036854775807) (n : Nat) : ∀ i : Nat, i + n = a.length → a.take i = b.take i →
    Ev (fun k => codewrightref01_Same.l0 k a b (i : Int)) (decide (a = b)) := by
  induction n with
  | zero =>
    intro i hi ht
    rw [List.take_of_length_le (by omega), List.take_of_length_le (by omega)] at ht
    rw [decide_eq_true ht]
    refine Ev.step (f := fun _ => some true) (fun k => ?_) (Ev.now _)
    simp only [codewrightref01_Same.l0]
    rw [if_neg (by omega)]
  | succ n ih =>
    intro i hi ht
    by_cases e : rd a (i : Int) = rd b (i : Int)
    · refine Ev.step (fun k => ?_) (ih (i + 1) (by omega) (by rw [take_rd a i (by omega), take_rd b i (by omega), ht, e]))
      simp only [codewrightref01_Same.l0]
      rw [if_pos (by omega), if_pos (by omega), if_pos (by omega), if_pos e, up i (by omega)]
    · have hne : a ≠ b := by rintro rfl; exact e rfl
      rw [decide_eq_false hne]
      refine Ev.step (f := fun _ => some false) (fun k => ?_) (Ev.now _)
      simp only [codewrightref01_Same.l0]
      rw [if_pos (by omega), if_pos (by omega), if_pos (by omega), if_neg e]
theorem Same_f {a b : List Int} (hs : a.length < 9223372036854775807) : Ev (fun k => codewrightref01_Same.f k a b) (decide (a = b)) := by
  unfold codewrightref01_Same.f
  by_cases h : a.length = b.length
  · exact Ev.congr (fun k => if_pos (by omega)) (Same_l0 h hs a.length 0 (by omega) rfl)
  · have hne : a ≠ b := by rintro rfl; exact h rfl
    rw [decide_eq_false hne]
    exact Ev.congr (f := fun _ => some false) (fun k => if_neg (by omega)) (Ev.now _)
end Go.Proofs.Ytecfdemglbfnoaa.Num
end
section
namespace Go.Proofs.Ytecfdemglbfnoaa.PT
open Go.RowKit Go.Proofs.YtecfdemglbfnoaaW.PrintWords Go.Proofs.YtecfdemglbfnoaaW.PrintLast Go.Proofs.YtecfdemglbfnoaaW.PrintMore
attribute [local go_sem] max2_int min2_int max_two min_two max_three min_three max_four min_four   -- for this text's walks alone
set_option linter.unusedVariables false
set_option linter.unusedSimpArgs false
mutual
def nat_step.j1 : Nat → List Int → List Int → Int → Int → Option (Int × List Int)
  | 0, _, _, _, _ => none
  | k + 1, x0, x1, x5, x7 => nat_step.l1 k x0 x1 x5 x7 0 0 (x1.length : Int) 0
def nat_step.l1 : Nat → List Int → List Int → Int → Int → Int → Int → Int → Int → Option (Int × List Int)
  | 0, _, _, _, _, _, _, _, _ => none
  | k + 1, x0, x1, x5, x7, x9, x10, x85, x86 => if x86 < x85 then (if 0 ≤ x86 then (if x86 < (x1.length : Int) then (if x86 < (x0.length : Int) then (nat_step.l1 k (x0.set (x86 : Int).toNat ((IntKind.u64.wrap ((IntKind.u64.wrap ((IntKind.u64.wrap (rd x0 x86)) - ((IntKind.u64.wrap ((IntKind.u64.wrap (x7 * (IntKind.u64.wrap (rd x1 x86)))) + x10)) % 4294967296))) - x9)) % 4294967296)) x1 x5 x7 ((IntKind.u64.wrap ((IntKind.u64.wrap ((IntKind.u64.wrap (rd x0 x86)) - ((IntKind.u64.wrap ((IntKind.u64.wrap (x7 * (IntKind.u64.wrap (rd x1 x86)))) + x10)) % 4294967296))) - x9)) / 9223372036854775808) ((IntKind.u64.wrap ((IntKind.u64.wrap (x7 * (IntKind.u64.wrap (rd x1 x86)))) + x10)) / 4294967296) x85 (wrap64 (x86 + 1))) else (none)) else (none)) else (none)) else (if 0 ≤ x5 then (if x5 < (x0.length : Int) then ((some (x0.set (x5 : Int).toNat ((IntKind.u64.wrap ((IntKind.u64.wrap ((IntKind.u64.wrap (rd x0 x5)) - x10)) - x9)) % 4294967296) : List Int)).bind fun y960 => (if ((IntKind.u64.wrap ((IntKind.u64.wrap ((IntKind.u64.wrap (rd x0 x5)) - x10)) - x9)) / 9223372036854775808) = 0 then (some ((x7) % 4294967296, y960)) else (nat_step.l2 k y960 x1 x5 x7 0 (x1.length : Int) 0))) else (none)) else (none))
def nat_step.l2 : Nat → List Int → List Int → Int → Int → Int → Int → Int → Option (Int × List Int)
  | 0, _, _, _, _, _, _, _ => none
  | k + 1, x0, x1, x5, x7, x10, x139, x140 => if x140 < x139 then (if 0 ≤ x140 then (if x140 < (x0.length : Int) then (if x140 < (x1.length : Int) then (nat_step.l2 k (x0.set (x140 : Int).toNat ((IntKind.u64.wrap ((IntKind.u64.wrap ((IntKind.u64.wrap (rd x0 x140)) + (IntKind.u64.wrap (rd x1 x140)))) + x10)) % 4294967296)) x1 x5 x7 ((IntKind.u64.wrap ((IntKind.u64.wrap ((IntKind.u64.wrap (rd x0 x140)) + (IntKind.u64.wrap (rd x1 x140)))) + x10)) / 4294967296) x139 (wrap64 (x140 + 1))) else (none)) else (none)) else (none)) else (if 0 ≤ x5 then (if x5 < (x0.length : Int) then (some ((IntKind.u64.wrap (x7 - 1)) % 4294967296, (x0.set (x5 : Int).toNat (((rd x0 x5) + ((x10) % 4294967296)) % 4294967296)))) else (none)) else (none))
def nat_step.l0 : Nat → List Int → List Int → Int → Int → Int → Option (Int × List Int)
  | 0, _, _, _, _, _ => none
  | k + 1, x0, x1, x5, x7, x8 => if x8 < 4294967296 then (if x7 ≥ 4294967296 then (if 0 ≤ (wrap64 (x5 - 1)) then (if (wrap64 (x5 - 1)) < (x1.length : Int) then (nat_step.l0 k x0 x1 x5 (IntKind.u64.wrap (x7 - 1)) (IntKind.u64.wrap (x8 + (IntKind.u64.wrap (rd x1 (wrap64 (x5 - 1))))))) else (none)) else (none)) else (if 0 ≤ (wrap64 (x5 - 2)) then (if (wrap64 (x5 - 2)) < (x1.length : Int) then (if (wrap64 (x5 - 2)) < (x0.length : Int) then (if (IntKind.u64.wrap (x7 * (IntKind.u64.wrap (rd x1 (wrap64 (x5 - 2)))))) > (Go.bits .or .u64 (IntKind.u64.wrap (x8 * 4294967296)) (IntKind.u64.wrap (rd x0 (wrap64 (x5 - 2))))) then (if 0 ≤ (wrap64 (x5 - 1)) then (if (wrap64 (x5 - 1)) < (x1.length : Int) then (nat_step.l0 k x0 x1 x5 (IntKind.u64.wrap (x7 - 1)) (IntKind.u64.wrap (x8 + (IntKind.u64.wrap (rd x1 (wrap64 (x5 - 1))))))) else (none)) else (none)) else (nat_step.j1 k x0 x1 x5 x7)) else (none)) else (none)) else (none))) else (nat_step.j1 k x0 x1 x5 x7)
end
def nat_step.f (k : Nat) (l0 : List Int) (l1 : List Int) : Option (Int × List Int) := if 0 ≤ (l1.length : Int) then (if (l1.length : Int) < (l0.length : Int) then (if 0 ≤ (wrap64 ((l1.length : Int) - 1)) then (if (wrap64 ((l1.length : Int) - 1)) < (l0.length : Int) then (if (wrap64 ((l1.length : Int) - 1)) < (l1.length : Int) then (if (IntKind.u64.wrap (rd l1 (wrap64 ((l1.length : Int) - 1)))) = 0 then (none) else (nat_step.l0 k l0 l1 (l1.length : Int) (IntKind.u64.wrap (Int.tdiv (Go.bits .or .u64 (IntKind.u64.wrap ((IntKind.u64.wrap (rd l0 (l1.length : Int))) * 4294967296)) (IntKind.u64.wrap (rd l0 (wrap64 ((l1.length : Int) - 1))))) (IntKind.u64.wrap (rd l1 (wrap64 ((l1.length : Int) - 1)))))) (Int.tmod (Go.bits .or .u64 (IntKind.u64.wrap ((IntKind.u64.wrap (rd l0 (l1.length : Int))) * 4294967296)) (IntKind.u64.wrap (rd l0 (wrap64 ((l1.length : Int) - 1))))) (IntKind.u64.wrap (rd l1 (wrap64 ((l1.length : Int) - 1))))))) else (none)) else (none)) else (none)) else (none)) else (none)
end Go.Proofs.Ytecfdemglbfnoaa.PT
end
