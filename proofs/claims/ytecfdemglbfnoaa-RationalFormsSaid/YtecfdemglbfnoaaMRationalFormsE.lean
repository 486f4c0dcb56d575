/- Walks and plain facts for the law RationalForms, several texts in one: each theorem says what it shows; no condition beyond those that it names. -/
import Derived.Test.YtecfdemglbfnoaaProg
import Derived.Below
import Derived.Deep.Draws
import Derived.Deep.AppendLies
import Derived.Maps.AppendAt
import Derived.OwnWalk
import Derived.Laws.BytesArg
import Derived.Laws.MakeOwn
import Derived.Laws.OwnMore
import Derived.Deep.OwnRows
import Derived.Tactics
import Derived.Lib.ConvBytes
import Derived.Laws.Slices
import Derived.WalkKit
import Derived.KernelRfl
import Derived.RowKit3
import Derived.Deep.LoopGhost
import Derived.Deep.QuietTactic
import Derived.BigQuiet
import Derived.WideLaws
import Derived.Deep.DeepCutAuto
import Derived.Deep.CutBlock
import Derived.Deep.RegionHeld3
import Derived.Laws.Rows
import Derived.Lib.AppendStr
import Derived.ArgAppend
import Derived.Laws.IdiomCopy
import Derived.OrdersHeld
import Derived.Laws.BitsLemmas
import Derived.RowKit
import Derived.Test.YtecfdemglbfnoaaMRationalFormsD
section
namespace Go.Proofs.Ytecfdemglbfnoaa.PT
open Go.RowKit Go.Proofs.YtecfdemglbfnoaaW.PrintWords Go.Proofs.YtecfdemglbfnoaaW.PrintLast Go.Proofs.YtecfdemglbfnoaaW.PrintMore
attribute [local go_sem] max2_int min2_int max_two min_two max_three min_three max_four min_four   -- for this text's walks alone
set_option linter.unusedVariables false
set_option linter.unusedSimpArgs false
def errW : Option Int → Value
 | none => .nilIface
 | some c => .iface 0 (.int .i64 c)
theorem errW_none : errW none = .nilIface := rfl
theorem errW_some (c : Int) : errW (some c) = .iface 0 (.int .i64 c) := rfl
theorem info48 : (Try.prog.info? 48).map (fun i => (i.zero, i.size, i.bytes)) = some (some (.int .u32 0), 1, 4) := by kernel_rfl
structure S124 where
 f0 : Int
 f1 : Int
 f2 : Int
structure S67 where
 f0 : Bool
 f1 : (List Int)
 f2 : (List Int)
def z67 : S67 := ⟨false, ([] : List Int), ([] : List Int)⟩
def k67 : Kd S67 := Kd.iso (Kd.pair Kd.bool (Kd.pair (Kd.slice 48 (Kd.int .u32)) (Kd.slice 48 (Kd.int .u32)))) (fun x : S67 => (x.f0, x.f1, x.f2))
theorem k67_open {w : World} {x : S67} {cs : List Value} (h : k67.K w x cs) : ∃ A1 c1 A2 c2, cs = [.bool x.f0, .slice A1 x.f1.length c1, .slice A2 x.f2.length c2] ∧ x.f1.length ≤ c1 ∧ (Kd.int .u32).C w A1 x.f1.length x.f1 ∧ x.f2.length ≤ c2 ∧ (Kd.int .u32).C w A2 x.f2.length x.f2 := by
 obtain ⟨_, _, rfl, rfl, ⟨_, _, rfl, ⟨A1, c1, rfl, l1, g1⟩, ⟨A2, c2, rfl, l2, g2⟩⟩⟩ := h
 exact ⟨A1, c1, A2, c2, rfl, l1, g1, l2, g2⟩
theorem k67_mk (w : World) (x : S67) {A1 : Option Addr} {c1 : Nat} (l1 : x.f1.length ≤ c1) (g1 : (Kd.int .u32).C w A1 x.f1.length x.f1) {A2 : Option Addr} {c2 : Nat} (l2 : x.f2.length ≤ c2) (g2 : (Kd.int .u32).C w A2 x.f2.length x.f2) : k67.K w x [.bool x.f0, .slice A1 x.f1.length c1, .slice A2 x.f2.length c2] := ⟨[.bool x.f0], [.slice A1 x.f1.length c1, .slice A2 x.f2.length c2], rfl, rfl, ⟨[.slice A1 x.f1.length c1], [.slice A2 x.f2.length c2], rfl, ⟨A1, c1, rfl, l1, g1⟩, ⟨A2, c2, rfl, l2, g2⟩⟩⟩
theorem k67_mkF (W : World) (ok : Nat → Prop) (x : S67) {A1 : Option Addr} {c1 : Nat} (l1 : x.f1.length ≤ c1) (g1 : Kd.F (Kd.int .u32) W ok A1 x.f1.length x.f1) {A2 : Option Addr} {c2 : Nat} (l2 : x.f2.length ≤ c2) (g2 : Kd.F (Kd.int .u32) W ok A2 x.f2.length x.f2) : Kd.FK k67 W ok x [.bool x.f0, .slice A1 x.f1.length c1, .slice A2 x.f2.length c2] := fun W2 hW => k67_mk W2 x l1 (g1 W2 hW) l2 (g2 W2 hW)
def rd_T67 (xs : List S67) (i : Int) : S67 := xs.getD i.toNat z67
theorem at_T67 {w : World} {A : Option Addr} {n : Nat} {xs : List S67} (h : Kd.C k67 w A n xs) (i : Int) (h0 : 0 ≤ i) (h1 : i < n) : ∃ ad A1 c1 A2 c2, A = some ad ∧ w.cell? (ad.add (i.toNat * 3)) = some (.bool (rd_T67 xs i).f0) ∧ w.cell? ⟨(ad.add (i.toNat * 3)).block, (ad.add (i.toNat * 3)).off + 1, none⟩ = some (.slice A1 (rd_T67 xs i).f1.length c1) ∧ w.cell? ⟨(ad.add (i.toNat * 3)).block, (ad.add (i.toNat * 3)).off + 2, none⟩ = some (.slice A2 (rd_T67 xs i).f2.length c2) ∧ (rd_T67 xs i).f1.length ≤ c1 ∧ (Kd.int .u32).C w A1 (rd_T67 xs i).f1.length (rd_T67 xs i).f1 ∧ (rd_T67 xs i).f2.length ≤ c2 ∧ (Kd.int .u32).C w A2 (rd_T67 xs i).f2.length (rd_T67 xs i).f2 := by
 obtain ⟨ad, c, e, _, hK, hc0⟩ := Kd.C_get h z67 i h0 h1
 have hc : ∀ j u, c[j]? = some u → w.cell? (ad.add (i.toNat * 3 + j)) = some u := hc0
 obtain ⟨A1, c1, A2, c2, rfl, l1, g1, l2, g2⟩ := k67_open hK
 exact ⟨ad, A1, c1, A2, c2, e, hc 0 _ rfl, by rw [← add_field _ _ 1 (by omega)]; exact hc 1 _ rfl, by rw [← add_field _ _ 2 (by omega)]; exact hc 2 _ rfl, l1, g1, l2, g2⟩
structure S53 where
 f0 : Int
 f1 : (List Int)
end Go.Proofs.Ytecfdemglbfnoaa.PT
end
section
namespace Go.Proofs.Ytecfdemglbfnoaa.PT
open Go.RowKit Go.Proofs.YtecfdemglbfnoaaW.PrintWords Go.Proofs.YtecfdemglbfnoaaW.PrintLast Go.Proofs.YtecfdemglbfnoaaW.PrintMore
attribute [local go_sem] max2_int min2_int max_two min_two max_three min_three max_four min_four   -- for this text's walks alone
set_option linter.unusedVariables false
set_option linter.unusedSimpArgs false
def codewrightref01_Trim.l0 : Nat → List Int → Int → Option (List Int)
 | 0, _, _ => none
 | k + 1, x0, x3 => if x3 > 0 then (if 0 ≤ (wrap64 (x3 - 1)) then (if (wrap64 (x3 - 1)) < (x0.length : Int) then (if (rd x0 (wrap64 (x3 - 1))) = 0 then (codewrightref01_Trim.l0 k x0 (wrap64 (x3 - 1))) else ((some (([] : List Int) : List Int)).bind fun y313 => (if 0 ≤ x3 then (if x3 ≤ (x0.length : Int) then (if y313.length + (x0.take (x3 : Int).toNat).length < 35184372088832 then (some (y313 ++ (x0.take (x3 : Int).toNat))) else (none)) else (none)) else (none)))) else (none)) else (none)) else ((some (([] : List Int) : List Int)).bind fun y320 => (if 0 ≤ x3 then (if x3 ≤ (x0.length : Int) then (if y320.length + (x0.take (x3 : Int).toNat).length < 35184372088832 then (some (y320 ++ (x0.take (x3 : Int).toNat))) else (none)) else (none)) else (none)))
def codewrightref01_Trim.f (k : Nat) (l0 : List Int) : Option (List Int) := codewrightref01_Trim.l0 k l0 (l0.length : Int)
set_option maxHeartbeats 8000000 in
set_option maxRecDepth 100000 in
theorem codewrightref01_Trim.calls (k : Nat) (A0 : Option Addr) (c0 : Nat) (l0 : List Int) (r : List Int) (w : World) (hr0 : Kd.C (Kd.int .u32) w A0 l0.length l0) (hc0 : l0.length ≤ c0) (h : codewrightref01_Trim.f k l0 = some r) :
 Calls Try.prog 144 #[.slice A0 l0.length c0] w fun e w' => ∃ v0_ : Value, e = .returned (v0_) ∧ Kd.R (Kd.int .u32) 48 w' w.heap.size (fun _ => True) v0_ r ∧ Below w.heap.size w w' := by
 have HR0 := Aside0.mk hr0
 have HC0 := Aside0.mk hc0
 clear hr0 hc0
 have HB := Aside0.mk (Below.refl w.heap.size w)
 have H : (codewrightref01_Trim.l0 k l0 (l0.length : Int)) = some r := h
 clear h
 have H' := Aside0.mk H
 clear H
 go_enter Try.func144, Try.ntmps144
 go_wp2
 go_loopg [3] k (fun kq v3 w' => ∃ (x3_1 : Int), v3 = .int .i64 x3_1 ∧ Aside0 (codewrightref01_Trim.l0 kq l0 x3_1 = some r) ∧ Aside0 (kq ≤ k) ∧ Aside0 (Below w.heap.size w w'))
 case atStart => exact ⟨((l0.length : Int)), (by first | rfl | (simp; done) | (simp [*]; done)), H', ⟨Nat.le_refl _⟩, ⟨by repeat (first | (with_reducible first | exact HB.out | apply below_alloc | apply pw_below_drewN | apply below_drew1) | exact HB.out)⟩⟩
 case round =>
  clear H'
  try clear c1
  obtain ⟨x3_1, rfl, HA, HK1, HB⟩ := hrel
  cases gk with
  | zero => exact absurd HA.out (by simp [codewrightref01_Trim.l0])
  | succ k1 =>
   have H := HA.out
   clear HA
   simp only [codewrightref01_Trim.l0] at H
   by_cases c2 : x3_1 > 0
   ·
    rw [if_pos c2] at H
    have c2b0 : decide (0 < x3_1) = true := decide_eq_true c2
    clear c2
    obtain ⟨ji3, hji3⟩ : ∃ j_ : Int, (wrap64 (x3_1 - 1)) = j_ := ⟨_, rfl⟩
    replace H : (if 0 ≤ (ji3) then (if (ji3) < (l0.length : Int) then (if (rd l0 (ji3)) = 0 then (codewrightref01_Trim.l0 k1 l0 ji3) else ((some (([] : List Int) : List Int)).bind fun y313 => (if 0 ≤ x3_1 then (if x3_1 ≤ (l0.length : Int) then (if y313.length + (l0.take (x3_1 : Int).toNat).length < 35184372088832 then (some (y313 ++ (l0.take (x3_1 : Int).toNat))) else (none)) else (none)) else (none)))) else (none)) else (none)) = some r := by first | (rw [hji3] at H; exact H) | (simp only [hji3] at H ⊢; exact H)
    have hji3w : (IntKind.i64.wrap (x3_1 - 1)) = ji3 := (i64_w _).trans hji3
    by_cases c4 : 0 ≤ (ji3)
    ·
     rw [if_pos c4] at H
     have c4b0 : decide (0 ≤ (ji3)) = true := decide_eq_true c4
     clear c4
     by_cases c5 : (ji3) < (l0.length : Int)
     ·
      rw [if_pos c5] at H
      have c5b0 : decide ((ji3) < (l0.length : Int)) = true := decide_eq_true c5
      clear c5
      by_cases c6 : (rd l0 (ji3)) = 0
      ·
       rw [if_pos c6] at H
       have c6b0 : ((rd l0 (ji3)) == 0) = true := beq_iff_eq.mpr c6
       have c6b1 : ((rd l0 (ji3)) != 0) = false := bne_eq_false_iff_eq.mpr c6
       clear c6
       have H' := Aside0.mk H
       clear H
       have p312 : 0 ≤ ((ji3) : Int) := of_decide_eq_true (by first | (with_reducible assumption) | assumption)
       have q312 : (ji3) < (l0.length : Int) := of_decide_eq_true (by first | (with_reducible assumption) | assumption)
       obtain ⟨ad312, e312, hx312_0⟩ := Kd.at_int HR0.out (ji3) p312 q312
       cases e312
       replace hx312_0 := (HB.out.cell (World.block_lt_of_cell? w _ hx312_0)).trans hx312_0
       replace p312 := eq_true p312
       replace q312 := eq_true q312
       go_wp2
       go_roundg k1
       case measure => have := HK1.out; omega
       case rel => exact ⟨(ji3), (by first | rfl | (simp; done) | (simp only [← hji3] <;> (first | rfl | simp)) | (simp [*]; done)), H', ⟨by have := HK1.out; omega⟩, ⟨by repeat (first | (with_reducible first | exact HB.out | apply below_alloc | apply pw_below_drewN | apply below_drew1) | exact HB.out)⟩⟩
      ·
       rw [if_neg c6] at H
       have c6b0 : ((rd l0 (ji3)) == 0) = false := beq_eq_false_iff_ne.mpr c6
       have c6b1 : ((rd l0 (ji3)) != 0) = true := bne_iff_ne.mpr c6
       obtain ⟨y313, hy313⟩ : ∃ y_ : List Int, y_ = (([] : List Int)) := ⟨_, rfl⟩
       replace H : (if 0 ≤ x3_1 then (if x3_1 ≤ (l0.length : Int) then (if y313.length + (l0.take (x3_1 : Int).toNat).length < 35184372088832 then (some (y313 ++ (l0.take (x3_1 : Int).toNat))) else (none)) else (none)) else (none)) = some r := by first | (rw [hy313]; with_reducible exact H) | (have H2_ := (Option.bind_some _ _).symm.trans H; rw [hy313]; with_reducible exact H2_) | (have H2_ := (Option.bind_some _ _).symm.trans H; with_reducible exact H2_) | with_reducible exact H | (rw [hy313]; exact H) | exact H
       have Ny313 := Aside0.mk hy313
       clear hy313
       by_cases c7 : 0 ≤ x3_1
       ·
        rw [if_pos c7] at H
        have c7b0 := eq_true c7
        have c7b1 : decide (0 ≤ x3_1) = true := decide_eq_true c7
        clear c7
        by_cases c8 : x3_1 ≤ (l0.length : Int)
        ·
         rw [if_pos c8] at H
         have c8b0 := eq_true c8
         have c8b1 : decide (x3_1 ≤ (l0.length : Int)) = true := decide_eq_true c8
         clear c8
         by_cases c9 : y313.length + (l0.take (x3_1 : Int).toNat).length < 35184372088832
         ·
          rw [if_pos c9] at H
          have LMc9 := Aside0.mk c9
          clear c9
          obtain ⟨y317, hy317⟩ : ∃ y_ : List Int, y_ = (y313 ++ (l0.take (x3_1 : Int).toNat)) := ⟨_, rfl⟩
          replace H : (some y317) = some r := by first | (rw [hy317]; with_reducible exact H) | (have H2_ := (Option.bind_some _ _).symm.trans H; rw [hy317]; with_reducible exact H2_) | (have H2_ := (Option.bind_some _ _).symm.trans H; with_reducible exact H2_) | with_reducible exact H | (rw [hy317]; exact H) | exact H
          have Ny317 := Aside0.mk hy317
          clear hy317
          obtain rfl := Option.some.inj H
          have p312 : 0 ≤ ((ji3) : Int) := of_decide_eq_true (by first | (with_reducible assumption) | assumption)
          have q312 : (ji3) < (l0.length : Int) := of_decide_eq_true (by first | (with_reducible assumption) | assumption)
          obtain ⟨ad312, e312, hx312_0⟩ := Kd.at_int HR0.out (ji3) p312 q312
          cases e312
          replace hx312_0 := (HB.out.cell (World.block_lt_of_cell? w _ hx312_0)).trans hx312_0
          replace p312 := eq_true p312
          replace q312 := eq_true q312
          go_wp2_with (first | ((with_reducible refine gate_dst (N := 18) rfl ?_); refine Kd.R_lit (Kd.int .u32) _ 48 ?hg (N := 18) ?hd (xs := ([] : List Int)) (inner := []) (ok := fun _ => True) (okp := fun _ => True) ?hr ?hp (fun _ hk => hk) trivial (Below.refl _ _) (Nat.le_refl _) (by simp) ?_; (case hd => rfl); (case hg => rfl); (case hr => first | (go_simp; done) | (go_simp; rfl)); (case hp => exact (Reps.none _ _)); intro v314 w10 ho11 hb hg_ hnew_; clear hg_ hnew_; (first | rw [← Ny313.out] at ho11 | (simp only [Int.reduceToNat] at ho11; rw [← Ny313.out] at ho11)); have HO315 := Aside0.mk (Kd.R_lower ho11 (below_size (bu HB.out))); replace HB := Aside0.mk (below_step (bu HB.out) hb); clear hb ho11; obtain ⟨i012, hi012, _, hsz12, _⟩ := info_parts info48; obtain ⟨hcut12, hA12, hC12⟩ := print_take_of (P := Try.prog) (Value.int .u32) 0 42 48 .i64 Try.underlying42 hi012 hsz12 (some ad312) c0 l0 x3_1 (of_decide_eq_true (by first | (with_reducible assumption) | assumption)) (of_decide_eq_true (by first | (with_reducible assumption) | assumption)) HC0.out; have HR316 := Aside0.mk (Kd.C_of_reads (h1 := fun _ => rfl) (hA12 _ (Kd.reads_of_C HR0.out))); have HC316 := Aside0.mk hC12; clear hA12 hC12 hi012 hsz12) | ((with_reducible refine gate_builtin (b := .append) (xs := #[.tmp 18, .tmp 21]) rfl ?_); at_builtin; refine Kd.R_append_rows (Kd.int .u32) (w0 := w) w.heap.size rfl (.tmp 18) (.tmp 21) 42 48 (.int .u32 0) 4 rfl Try.underlying42 info48 rfl (by decide) (by omega) v314 y313 (l0.take (x3_1 : Int).toNat) _ _ _ (fun _ => True) (fun _ => False) rfl rfl ?aO ?aR (fun _ _ h => h) (fun _ h => h.elim) ?aF ?aB ?aS ?aL ?_; (case aR => first | (refine reads_len (show (l0.take (x3_1 : Int).toNat).length = x3_1.toNat from (by rw [List.length_take]; have h_ : (x3_1 : Int) ≤ (l0.length : Int) := of_decide_eq_true (by first | (with_reducible assumption) | assumption); omega)) ?_; repeat (first | exact (Kd.C_below HR316.out HB.out) | (with_reducible refine Kd.C_alloc ?_ _) | (with_reducible refine Kd.C_drewN ?_ _) | (with_reducible refine Kd.C_drew ?_))) | (repeat (first | exact (Kd.C_below HR316.out HB.out) | (with_reducible refine Kd.C_alloc ?_ _) | (with_reducible refine Kd.C_drewN ?_ _) | (with_reducible refine Kd.C_drew ?_)))); (case aB => exact (bu HB.out)); (case aF => exact (fun _ _ => trivial)); (case aO => exact (by (with_reducible repeat (first | apply Kd.R_alloc | apply Kd.R_drewN | apply Kd.R_drew)); exact HO315.out)); (case aS => exact (below_size (bu HB.out))); (case aL => have := LMc9.out; have hlx_ := (show (l0.take (x3_1 : Int).toNat).length = x3_1.toNat from (by rw [List.length_take]; have h_ : (x3_1 : Int) ≤ (l0.length : Int) := of_decide_eq_true (by first | (with_reducible assumption) | assumption); omega)); omega); intro v318 w13 ho hb hg hat; rw [← Ny317.out] at ho; replace HB := Aside0.mk (hb); have HO319 := Aside0.mk (ho); clear HO315 ho hb hg hat))
          go_ret
          exact ⟨_, by first | rfl | (simp [errW_none, errW_some] <;> rfl) | (simp only [← hji3]; first | rfl | (simp [errW_none, errW_some] <;> rfl)) | (simp [*, errW_none, errW_some] <;> rfl), by (with_reducible repeat (first | apply Kd.R_alloc | apply Kd.R_drewN | apply Kd.R_drew)); exact HO319.out, by repeat (first | (with_reducible first | exact HB.out | apply below_alloc | apply pw_below_drewN | apply below_drew1) | exact HB.out)⟩
         ·
          rw [if_neg c9] at H
          exact absurd H (by simp)
        ·
         rw [if_neg c8] at H
         exact absurd H (by simp)
       ·
        rw [if_neg c7] at H
        exact absurd H (by simp)
     ·
      rw [if_neg c5] at H
      exact absurd H (by simp)
    ·
     rw [if_neg c4] at H
     exact absurd H (by simp)
   ·
    rw [if_neg c2] at H
    have c2b0 : decide (0 < x3_1) = false := decide_eq_false c2
    clear c2
    obtain ⟨y320, hy320⟩ : ∃ y_ : List Int, y_ = (([] : List Int)) := ⟨_, rfl⟩
    replace H : (if 0 ≤ x3_1 then (if x3_1 ≤ (l0.length : Int) then (if y320.length + (l0.take (x3_1 : Int).toNat).length < 35184372088832 then (some (y320 ++ (l0.take (x3_1 : Int).toNat))) else (none)) else (none)) else (none)) = some r := by first | (rw [hy320]; with_reducible exact H) | (have H2_ := (Option.bind_some _ _).symm.trans H; rw [hy320]; with_reducible exact H2_) | (have H2_ := (Option.bind_some _ _).symm.trans H; with_reducible exact H2_) | with_reducible exact H | (rw [hy320]; exact H) | exact H
    have Ny320 := Aside0.mk hy320
    clear hy320
    by_cases c14 : 0 ≤ x3_1
    ·
     rw [if_pos c14] at H
     have c14b0 := eq_true c14
     have c14b1 : decide (0 ≤ x3_1) = true := decide_eq_true c14
     clear c14
     by_cases c15 : x3_1 ≤ (l0.length : Int)
     ·
      rw [if_pos c15] at H
      have c15b0 := eq_true c15
      have c15b1 : decide (x3_1 ≤ (l0.length : Int)) = true := decide_eq_true c15
      clear c15
      by_cases c16 : y320.length + (l0.take (x3_1 : Int).toNat).length < 35184372088832
      ·
       rw [if_pos c16] at H
       have LMc16 := Aside0.mk c16
       clear c16
       obtain ⟨y324, hy324⟩ : ∃ y_ : List Int, y_ = (y320 ++ (l0.take (x3_1 : Int).toNat)) := ⟨_, rfl⟩
       replace H : (some y324) = some r := by first | (rw [hy324]; with_reducible exact H) | (have H2_ := (Option.bind_some _ _).symm.trans H; rw [hy324]; with_reducible exact H2_) | (have H2_ := (Option.bind_some _ _).symm.trans H; with_reducible exact H2_) | with_reducible exact H | (rw [hy324]; exact H) | exact H
       have Ny324 := Aside0.mk hy324
       clear hy324
       obtain rfl := Option.some.inj H
       go_wp2_with (first | ((with_reducible refine gate_dst (N := 18) rfl ?_); refine Kd.R_lit (Kd.int .u32) _ 48 ?hg (N := 18) ?hd (xs := ([] : List Int)) (inner := []) (ok := fun _ => True) (okp := fun _ => True) ?hr ?hp (fun _ hk => hk) trivial (Below.refl _ _) (Nat.le_refl _) (by simp) ?_; (case hd => rfl); (case hg => rfl); (case hr => first | (go_simp; done) | (go_simp; rfl)); (case hp => exact (Reps.none _ _)); intro v321 w17 ho18 hb hg_ hnew_; clear hg_ hnew_; (first | rw [← Ny320.out] at ho18 | (simp only [Int.reduceToNat] at ho18; rw [← Ny320.out] at ho18)); have HO322 := Aside0.mk (Kd.R_lower ho18 (below_size (bu HB.out))); replace HB := Aside0.mk (below_step (bu HB.out) hb); clear hb ho18; obtain ⟨i019, hi019, _, hsz19, _⟩ := info_parts info48; obtain ⟨hcut19, hA19, hC19⟩ := print_take_of (P := Try.prog) (Value.int .u32) 0 42 48 .i64 Try.underlying42 hi019 hsz19 A0 c0 l0 x3_1 (of_decide_eq_true (by first | (with_reducible assumption) | assumption)) (of_decide_eq_true (by first | (with_reducible assumption) | assumption)) HC0.out; have HR323 := Aside0.mk (Kd.C_of_reads (h1 := fun _ => rfl) (hA19 _ (Kd.reads_of_C HR0.out))); have HC323 := Aside0.mk hC19; clear hA19 hC19 hi019 hsz19) | ((with_reducible refine gate_builtin (b := .append) (xs := #[.tmp 18, .tmp 21]) rfl ?_); at_builtin; refine Kd.R_append_rows (Kd.int .u32) (w0 := w) w.heap.size rfl (.tmp 18) (.tmp 21) 42 48 (.int .u32 0) 4 rfl Try.underlying42 info48 rfl (by decide) (by omega) v321 y320 (l0.take (x3_1 : Int).toNat) _ _ _ (fun _ => True) (fun _ => False) rfl rfl ?aO ?aR (fun _ _ h => h) (fun _ h => h.elim) ?aF ?aB ?aS ?aL ?_; (case aR => first | (refine reads_len (show (l0.take (x3_1 : Int).toNat).length = x3_1.toNat from (by rw [List.length_take]; have h_ : (x3_1 : Int) ≤ (l0.length : Int) := of_decide_eq_true (by first | (with_reducible assumption) | assumption); omega)) ?_; repeat (first | exact (Kd.C_below HR323.out HB.out) | (with_reducible refine Kd.C_alloc ?_ _) | (with_reducible refine Kd.C_drewN ?_ _) | (with_reducible refine Kd.C_drew ?_))) | (repeat (first | exact (Kd.C_below HR323.out HB.out) | (with_reducible refine Kd.C_alloc ?_ _) | (with_reducible refine Kd.C_drewN ?_ _) | (with_reducible refine Kd.C_drew ?_)))); (case aB => exact (bu HB.out)); (case aF => exact (fun _ _ => trivial)); (case aO => exact (by (with_reducible repeat (first | apply Kd.R_alloc | apply Kd.R_drewN | apply Kd.R_drew)); exact HO322.out)); (case aS => exact (below_size (bu HB.out))); (case aL => have := LMc16.out; have hlx_ := (show (l0.take (x3_1 : Int).toNat).length = x3_1.toNat from (by rw [List.length_take]; have h_ : (x3_1 : Int) ≤ (l0.length : Int) := of_decide_eq_true (by first | (with_reducible assumption) | assumption); omega)); omega); intro v325 w20 ho hb hg hat; rw [← Ny324.out] at ho; replace HB := Aside0.mk (hb); have HO326 := Aside0.mk (ho); clear HO322 ho hb hg hat))
       go_ret
       exact ⟨_, by first | rfl | (simp [errW_none, errW_some] <;> rfl) | (simp [*, errW_none, errW_some] <;> rfl), by (with_reducible repeat (first | apply Kd.R_alloc | apply Kd.R_drewN | apply Kd.R_drew)); exact HO326.out, by repeat (first | (with_reducible first | exact HB.out | apply below_alloc | apply pw_below_drewN | apply below_drew1) | exact HB.out)⟩
      ·
       rw [if_neg c16] at H
       exact absurd H (by simp)
     ·
      rw [if_neg c15] at H
      exact absurd H (by simp)
    ·
     rw [if_neg c14] at H
     exact absurd H (by simp)
end Go.Proofs.Ytecfdemglbfnoaa.PT
end
section
namespace Go.Proofs.Ytecfdemglbfnoaa.PT
open Go.RowKit Go.Proofs.YtecfdemglbfnoaaW.PrintWords Go.Proofs.YtecfdemglbfnoaaW.PrintLast Go.Proofs.YtecfdemglbfnoaaW.PrintMore
attribute [local go_sem] max2_int min2_int max_two min_two max_three min_three max_four min_four   -- for this text's walks alone
set_option linter.unusedVariables false
set_option linter.unusedSimpArgs false
def codewrightref01_Zero.f (k : Nat) (l0 : List Int) : Option (Bool) := (codewrightref01_Trim.f k l0).bind fun t538 => (some ((t538.length : Int) == 0))
set_option maxHeartbeats 8000000 in
set_option maxRecDepth 100000 in
theorem codewrightref01_Zero.calls (k : Nat) (A0 : Option Addr) (c0 : Nat) (l0 : List Int) (r : Bool) (w : World) (hr0 : Kd.C (Kd.int .u32) w A0 l0.length l0) (hc0 : l0.length ≤ c0) (h : codewrightref01_Zero.f k l0 = some r) :
 Calls Try.prog 150 #[.slice A0 l0.length c0] w fun e w' => e = .returned (.bool r) ∧ Below w.heap.size w w' := by
 have HR0 := Aside0.mk hr0
 have HC0 := Aside0.mk hc0
 clear hr0 hc0
 have HB := Aside0.mk (Below.refl w.heap.size w)
 have H : ((codewrightref01_Trim.f k l0).bind fun t538 => (some ((t538.length : Int) == 0))) = some r := h
 clear h
 replace H := Option.bind_eq_some_iff.mp H
 obtain ⟨t538, A20, H⟩ := H
 replace H : (some ((t538.length : Int) == 0)) = some r := H
 have A2 := Aside0.mk A20
 clear A20
 obtain rfl := Option.some.inj H
 go_enter Try.func150, Try.ntmps150
 go_wp2_with (first | ((with_reducible refine gate_callee (f := 144) rfl ?_); refine goesL_ (some 4) rfl rfl Try.func144 (by kernel_rfl) rfl #[.slice A0 l0.length c0] rfl lu ?_; (with_reducible refine (codewrightref01_Trim.calls k _ _ l0 t538 _ ?side1 ?side2 A2.out).mono ?_); (case side1 => repeat (first | exact HR0.out | (with_reducible refine Kd.C_alloc ?_ _) | (with_reducible refine Kd.C_drewN ?_ _) | (with_reducible refine Kd.C_drew ?_))); (case side2 => exact HC0.out); rintro e w3 ⟨v539, rfl, ho0, hb⟩; refine ⟨_, rfl, ?_⟩; have HO540 := Aside0.mk (Kd.R_lower ho0 (below_size (bu HB.out))); replace HB := Aside0.mk (below_step (bu HB.out) hb); (try clear hb); (try clear hb2); (try clear hk); (try clear hi); (try clear ho0); obtain ⟨Ao4, co4, eo4⟩ := Kd.R_slice HO540.out; subst eo4))
 go_ret
 exact ⟨by first | rfl | (simp [errW_none, errW_some] <;> rfl) | (simp [*, errW_none, errW_some] <;> rfl), by repeat (first | (with_reducible first | exact HB.out | apply below_alloc | apply pw_below_drewN | apply below_drew1) | exact HB.out)⟩
end Go.Proofs.Ytecfdemglbfnoaa.PT
end
section
namespace Go.Proofs.Ytecfdemglbfnoaa.PT
open Go.RowKit Go.Proofs.YtecfdemglbfnoaaW.PrintWords Go.Proofs.YtecfdemglbfnoaaW.PrintLast Go.Proofs.YtecfdemglbfnoaaW.PrintMore
attribute [local go_sem] max2_int min2_int max_two min_two max_three min_three max_four min_four   -- for this text's walks alone
set_option linter.unusedVariables false
set_option linter.unusedSimpArgs false
def codewrightref01_limb.f (l0 : List Int) (a1 : Int) : Option (Int) := if a1 < (l0.length : Int) then (if 0 ≤ a1 then (some (IntKind.u64.wrap (rd l0 a1))) else (none)) else (some 0)
set_option maxHeartbeats 8000000 in
set_option maxRecDepth 100000 in
theorem codewrightref01_limb.calls (A0 : Option Addr) (c0 : Nat) (l0 : List Int) (a1 : Int) (r : Int) (w : World) (hr0 : Kd.C (Kd.int .u32) w A0 l0.length l0) (hc0 : l0.length ≤ c0) (h : codewrightref01_limb.f l0 a1 = some r) :
 Calls Try.prog 143 #[.slice A0 l0.length c0, .int .i64 a1] w fun e w' => e = .returned (.int .u64 r) ∧ Drawn0 w w' := by
 have HR0 := Aside0.mk hr0
 have HC0 := Aside0.mk hc0
 clear hr0 hc0
 have H : (if a1 < (l0.length : Int) then (if 0 ≤ a1 then (some (IntKind.u64.wrap (rd l0 a1))) else (none)) else (some 0)) = some r := h
 clear h
 by_cases c3 : a1 < (l0.length : Int)
 ·
  rw [if_pos c3] at H
  have c3b0 : decide (a1 < (l0.length : Int)) = true := decide_eq_true c3
  clear c3
  by_cases c4 : 0 ≤ a1
  ·
   rw [if_pos c4] at H
   have c4b0 : decide (0 ≤ a1) = true := decide_eq_true c4
   clear c4
   obtain rfl := Option.some.inj H
   have p311 : 0 ≤ (a1 : Int) := of_decide_eq_true (by first | (with_reducible assumption) | assumption)
   have q311 : a1 < (l0.length : Int) := of_decide_eq_true (by first | (with_reducible assumption) | assumption)
   obtain ⟨ad311, e311, hx311_0⟩ := Kd.at_int HR0.out a1 p311 q311
   cases e311
   replace p311 := eq_true p311
   replace q311 := eq_true q311
   go_enter Try.func143, Try.ntmps143
   go_wp2
   go_ret
   exact ⟨by first | rfl | (simp; done) | (simp [*]; done), by repeat (first | exact Drawn0.refl _ | apply Drawn0.step)⟩
  ·
   rw [if_neg c4] at H
   exact absurd H (by simp)
 ·
  rw [if_neg c3] at H
  have c3b0 : decide (a1 < (l0.length : Int)) = false := decide_eq_false c3
  clear c3
  obtain rfl := Option.some.inj H
  go_enter Try.func143, Try.ntmps143
  go_wp2
  go_ret
  exact ⟨by first | rfl | (simp; done) | (simp [*]; done), by repeat (first | exact Drawn0.refl _ | apply Drawn0.step)⟩
end Go.Proofs.Ytecfdemglbfnoaa.PT
end
section
namespace Go.Proofs.Ytecfdemglbfnoaa.PT
open Go.RowKit Go.Proofs.YtecfdemglbfnoaaW.PrintWords Go.Proofs.YtecfdemglbfnoaaW.PrintLast Go.Proofs.YtecfdemglbfnoaaW.PrintMore
attribute [local go_sem] max2_int min2_int max_two min_two max_three min_three max_four min_four   -- for this text's walks alone
set_option linter.unusedVariables false
set_option linter.unusedSimpArgs false
mutual
def codewrightref01_Add.l0 : Nat → List Int → List Int → List Int → Int → Int → Option (List Int)
 | 0, _, _, _, _, _ => none
 | k + 1, x0, x1, x5, x6, x7 => if x7 < (x0.length : Int) then (codewrightref01_Add.j1 k x0 x1 x5 x6 x7 true) else (if x7 < (x1.length : Int) then (codewrightref01_Add.j1 k x0 x1 x5 x6 x7 true) else (codewrightref01_Add.j1 k x0 x1 x5 x6 x7 (decide (x6 > 0))))
def codewrightref01_Add.j1 : Nat → List Int → List Int → List Int → Int → Int → Bool → Option (List Int)
 | 0, _, _, _, _, _, _ => none
 | k + 1, x0, x1, x5, x6, x7, x22 => if x22 = true then ((codewrightref01_limb.f x0 x7).bind fun t327 => ((codewrightref01_limb.f x1 x7).bind fun t328 => (if x5.length < 35184372088832 then (codewrightref01_Add.l0 k x0 x1 (x5 ++ [(Int.tmod (IntKind.u64.wrap ((IntKind.u64.wrap (t327 + t328)) + x6)) 4294967296) % 4294967296]) (IntKind.u64.wrap (Int.tdiv (IntKind.u64.wrap ((IntKind.u64.wrap (t327 + t328)) + x6)) 4294967296)) (wrap64 (x7 + 1))) else (none)))) else ((codewrightref01_Trim.f k x5).bind fun t332 => (some t332))
end
def codewrightref01_Add.f (k : Nat) (l0 : List Int) (l1 : List Int) : Option (List Int) := codewrightref01_Add.l0 k l0 l1 ([] : List Int) 0 0
set_option maxHeartbeats 8000000 in
set_option maxRecDepth 100000 in
theorem codewrightref01_Add.calls (k : Nat) (A0 : Option Addr) (c0 : Nat) (l0 : List Int) (A1 : Option Addr) (c1 : Nat) (l1 : List Int) (r : List Int) (w : World) (hr0 : Kd.C (Kd.int .u32) w A0 l0.length l0) (hc0 : l0.length ≤ c0) (hr1 : Kd.C (Kd.int .u32) w A1 l1.length l1) (hc1 : l1.length ≤ c1) (h : codewrightref01_Add.f k l0 l1 = some r) :
 Calls Try.prog 55 #[.slice A0 l0.length c0, .slice A1 l1.length c1] w fun e w' => ∃ v0_ : Value, e = .returned (v0_) ∧ Kd.R (Kd.int .u32) 48 w' w.heap.size (fun _ => True) v0_ r ∧ Below w.heap.size w w' := by
 have HR0 := Aside0.mk hr0
 have HC0 := Aside0.mk hc0
 clear hr0 hc0
 have HR1 := Aside0.mk hr1
 have HC1 := Aside0.mk hc1
 clear hr1 hc1
 have HB := Aside0.mk (Below.refl w.heap.size w)
 have H : (codewrightref01_Add.l0 k l0 l1 ([] : List Int) 0 0) = some r := h
 clear h
 have H' := Aside0.mk H
 clear H
 go_enter Try.func55, Try.ntmps55
 go_wp2
 go_loopg [5, 6, 7] k (fun kq v5 v6 v7 w' => ∃ (x5_1 : List Int) (x6_1 : Int) (x7_1 : Int), v6 = .int .u64 x6_1 ∧ v7 = .int .i64 x7_1 ∧ Aside0 (codewrightref01_Add.l0 kq l0 l1 x5_1 x6_1 x7_1 = some r) ∧ Aside0 (kq ≤ k) ∧ Aside0 (Kd.R (Kd.int .u32) 48 w' w.heap.size (fun _ => True) v5 x5_1) ∧ Aside0 (Below w.heap.size w w'))
 case atStart => exact ⟨(([] : List Int)), (0), (0), (by first | rfl | (simp; done) | (simp [*]; done)), (by first | rfl | (simp; done) | (simp [*]; done)), H', ⟨Nat.le_refl _⟩, ⟨by first | exact Kd.R_nil _ _ _ _ _ | exact Kd.N_nil _ _ _ _ _ | exact Kd.V_nil _ _ _ _ _ | exact Kd.Q_nil _ _ _ _ _ | exact Kd.S_nil _ _ _ _ _⟩, ⟨by repeat (first | (with_reducible first | exact HB.out | apply below_alloc | apply pw_below_drewN | apply below_drew1) | exact HB.out)⟩⟩
 case round =>
  clear H'
  try clear c1
  try clear p2
  obtain ⟨x5_1, x6_1, x7_1, rfl, rfl, HA, HK1, HO_5, HB⟩ := hrel
  cases gk with
  | zero => exact absurd HA.out (by simp [codewrightref01_Add.l0])
  | succ k1 =>
   have H := HA.out
   clear HA
   simp only [codewrightref01_Add.l0] at H
   have HC3 := Aside0.mk H
   clear H
   go_upto_region 4 with (fail)
   go_cut [22] (fun v22 wc => ∃ (kq : Nat) (x22_2 : Bool), v22 = .bool x22_2 ∧ Aside0 (codewrightref01_Add.j1 kq l0 l1 x5_1 x6_1 x7_1 x22_2 = some r) ∧ Aside0 (kq ≤ k1) ∧ Aside0 (Kd.R (Kd.int .u32) 48 wc w.heap.size (fun _ => True) u5 x5_1) ∧ Aside0 (Below w.heap.size w wc))
   case first =>
    have H := HC3.out
    clear HC3
    by_cases c4 : x7_1 < (l0.length : Int)
    ·
     rw [if_pos c4] at H
     have c4b0 : decide (x7_1 < (l0.length : Int)) = true := decide_eq_true c4
     clear c4
     (first | rw [c4b0] | rw [c4b1] | (simp only [i64_w, i32_w]; rw [c4b0]) | skip)
     have H' := Aside0.mk H
     clear H
     go_wp2
     go_meet
     case rel => exact ⟨_, (true), (by first | rfl | (simp; done) | (simp [*]; done)), H', ⟨by have := HK1.out; first | omega | exact Nat.le_refl _⟩, ⟨by (with_reducible repeat (first | apply Kd.R_alloc | apply Kd.R_drewN | apply Kd.R_drew)); exact HO_5.out⟩, ⟨by repeat (first | (with_reducible first | exact HB.out | apply below_alloc | apply pw_below_drewN | apply below_drew1) | exact HB.out)⟩⟩
    ·
     rw [if_neg c4] at H
     have c4b0 : decide (x7_1 < (l0.length : Int)) = false := decide_eq_false c4
     clear c4
     (first | rw [c4b0] | rw [c4b1] | (simp only [i64_w, i32_w]; rw [c4b0]) | skip)
     by_cases c5 : x7_1 < (l1.length : Int)
     ·
      rw [if_pos c5] at H
      have c5b0 : decide (x7_1 < (l1.length : Int)) = true := decide_eq_true c5
      clear c5
      have H' := Aside0.mk H
      clear H
      go_wp2
      go_meet
      case rel => exact ⟨_, (true), (by first | rfl | (simp; done) | (simp [*]; done)), H', ⟨by have := HK1.out; first | omega | exact Nat.le_refl _⟩, ⟨by (with_reducible repeat (first | apply Kd.R_alloc | apply Kd.R_drewN | apply Kd.R_drew)); exact HO_5.out⟩, ⟨by repeat (first | (with_reducible first | exact HB.out | apply below_alloc | apply pw_below_drewN | apply below_drew1) | exact HB.out)⟩⟩
     ·
      rw [if_neg c5] at H
      have c5b0 : decide (x7_1 < (l1.length : Int)) = false := decide_eq_false c5
      clear c5
      have H' := Aside0.mk H
      clear H
      go_wp2
      go_meet
      case rel => exact ⟨_, (decide (x6_1 > 0)), (by first | rfl | (simp; done) | (simp [*]; done)), H', ⟨by have := HK1.out; first | omega | exact Nat.le_refl _⟩, ⟨by (with_reducible repeat (first | apply Kd.R_alloc | apply Kd.R_drewN | apply Kd.R_drew)); exact HO_5.out⟩, ⟨by repeat (first | (with_reducible first | exact HB.out | apply below_alloc | apply pw_below_drewN | apply below_drew1) | exact HB.out)⟩⟩
   case rest =>
    clear HC3
    try clear c1
    try clear p2
    try clear c4
    try clear c4b0
    try clear c4b1
    try clear c5
    try clear c5b0
    try clear p2
    obtain ⟨kq, x22_2, rfl, HA, HJ2, HO_5, HB⟩ := hcut
    cases kq with
    | zero => exact absurd HA.out (by simp [codewrightref01_Add.j1])
    | succ kj2 =>
     have H := HA.out
     clear HA
     simp only [codewrightref01_Add.j1] at H
     by_cases c6 : x22_2 = true
     ·
      subst c6
      have H1 : ((codewrightref01_limb.f l0 x7_1).bind fun t327 => ((codewrightref01_limb.f l1 x7_1).bind fun t328 => (if x5_1.length < 35184372088832 then (codewrightref01_Add.l0 kj2 l0 l1 (x5_1 ++ [(Int.tmod (IntKind.u64.wrap ((IntKind.u64.wrap (t327 + t328)) + x6_1)) 4294967296) % 4294967296]) (IntKind.u64.wrap (Int.tdiv (IntKind.u64.wrap ((IntKind.u64.wrap (t327 + t328)) + x6_1)) 4294967296)) (wrap64 (x7_1 + 1))) else (none)))) = some r := by rw [if_pos rfl] at H; exact H
      clear H
      have H := H1
      clear H1
      replace H := Option.bind_eq_some_iff.mp H
      obtain ⟨t327, A70, H⟩ := H
      replace H : ((codewrightref01_limb.f l1 x7_1).bind fun t328 => (if x5_1.length < 35184372088832 then (codewrightref01_Add.l0 kj2 l0 l1 (x5_1 ++ [(Int.tmod (IntKind.u64.wrap ((IntKind.u64.wrap (t327 + t328)) + x6_1)) 4294967296) % 4294967296]) (IntKind.u64.wrap (Int.tdiv (IntKind.u64.wrap ((IntKind.u64.wrap (t327 + t328)) + x6_1)) 4294967296)) (wrap64 (x7_1 + 1))) else (none))) = some r := H
      have A7 := Aside0.mk A70
      clear A70
      replace H := Option.bind_eq_some_iff.mp H
      obtain ⟨t328, A80, H⟩ := H
      replace H : (if x5_1.length < 35184372088832 then (codewrightref01_Add.l0 kj2 l0 l1 (x5_1 ++ [(Int.tmod (IntKind.u64.wrap ((IntKind.u64.wrap (t327 + t328)) + x6_1)) 4294967296) % 4294967296]) (IntKind.u64.wrap (Int.tdiv (IntKind.u64.wrap ((IntKind.u64.wrap (t327 + t328)) + x6_1)) 4294967296)) (wrap64 (x7_1 + 1))) else (none)) = some r := H
      have A8 := Aside0.mk A80
      clear A80
      by_cases c9 : x5_1.length < 35184372088832
      ·
       rw [if_pos c9] at H
       have LMc9 := Aside0.mk c9
       clear c9
       obtain ⟨y329, hy329⟩ : ∃ y_ : List Int, y_ = (x5_1 ++ [(Int.tmod (IntKind.u64.wrap ((IntKind.u64.wrap (t327 + t328)) + x6_1)) 4294967296) % 4294967296]) := ⟨_, rfl⟩
       replace H : (codewrightref01_Add.l0 kj2 l0 l1 y329 (IntKind.u64.wrap (Int.tdiv (IntKind.u64.wrap ((IntKind.u64.wrap (t327 + t328)) + x6_1)) 4294967296)) (wrap64 (x7_1 + 1))) = some r := by first | (rw [hy329]; with_reducible exact H) | (have H2_ := (Option.bind_some _ _).symm.trans H; rw [hy329]; with_reducible exact H2_) | (have H2_ := (Option.bind_some _ _).symm.trans H; with_reducible exact H2_) | with_reducible exact H | (rw [hy329]; exact H) | exact H
       have Ny329 := Aside0.mk hy329
       clear hy329
       have H' := Aside0.mk H
       clear H
       go_wp2_with (first | ((with_reducible refine gate_callee (f := 143) rfl ?_); refine goesL_ (some 27) rfl rfl Try.func143 (by kernel_rfl) rfl #[.slice A0 l0.length c0, .int .i64 x7_1] rfl lu ?_; (with_reducible refine (codewrightref01_limb.calls _ _ l0 x7_1 t327 _ ?side1 ?side2 A7.out).mono ?_); (case side1 => repeat (first | exact (Kd.C_below HR0.out HB.out) | (with_reducible refine Kd.C_alloc ?_ _) | (with_reducible refine Kd.C_drewN ?_ _) | (with_reducible refine Kd.C_drew ?_))); (case side2 => exact HC0.out); rintro e w' ⟨rfl, ⟨nd, rfl⟩⟩; refine ⟨_, rfl, ?_⟩) | ((with_reducible refine gate_callee (f := 143) rfl ?_); refine goesL_ (some 30) rfl rfl Try.func143 (by kernel_rfl) rfl #[.slice A1 l1.length c1, .int .i64 x7_1] rfl lu ?_; (with_reducible refine (codewrightref01_limb.calls _ _ l1 x7_1 t328 _ ?side1 ?side2 A8.out).mono ?_); (case side1 => repeat (first | exact (Kd.C_below HR1.out (bu HB.out)) | (with_reducible refine Kd.C_alloc ?_ _) | (with_reducible refine Kd.C_drewN ?_ _) | (with_reducible refine Kd.C_drew ?_))); (case side2 => exact HC1.out); rintro e w' ⟨rfl, ⟨nd, rfl⟩⟩; refine ⟨_, rfl, ?_⟩) | ((with_reducible refine gate_builtin (b := .append) (xs := #[.tmp 34, .tmp 38]) rfl ?_); (try (refine gate_guard (by rfl) ?_; dsimp only)); at_builtin; refine Kd.R_append (Kd.int .u32) (w0 := w) w.heap.size rfl (.tmp 34) (.tmp 38) 42 48 (.int .u32 0) 4 rfl Try.underlying42 info48 rfl (by decide) (by omega) u5 x5_1 ((Int.tmod (IntKind.u64.wrap ((IntKind.u64.wrap (t327 + t328)) + x6_1)) 4294967296) % 4294967296) [.int .u32 ((Int.tmod (IntKind.u64.wrap ((IntKind.u64.wrap (t327 + t328)) + x6_1)) 4294967296) % 4294967296)] (fun _ => True) (fun _ => False) rfl rfl ?aP (fun _ hk => hk.elim) ?aF ?aO ?aB ?aS ?aL ?_; (case aP => exact rfl); (case aB => exact (bu HB.out)); (case aF => exact (fun _ _ => trivial)); (case aO => exact (by (with_reducible repeat (first | apply Kd.R_alloc | apply Kd.R_drewN | apply Kd.R_drew)); exact HO_5.out)); (case aS => exact (below_size (bu HB.out))); (case aL => have := LMc9.out; omega); intro v330 w10 ho hb hg hat; rw [← Ny329.out] at ho; replace HB := Aside0.mk (hb); have HO331 := Aside0.mk (ho); clear HO_5 ho hb hg hat))
       go_roundg kj2
       case measure => have := HK1.out; have := HJ2.out; omega
       case rel => exact ⟨(y329), (IntKind.u64.wrap (Int.tdiv (IntKind.u64.wrap ((IntKind.u64.wrap (t327 + t328)) + x6_1)) 4294967296)), (wrap64 (x7_1 + 1)), (by first | rfl | (simp; done) | (simp [*]; done)), (by first | rfl | (simp; done) | (simp [*]; done)), H', ⟨by have := HK1.out; have := HJ2.out; omega⟩, ⟨by (with_reducible repeat (first | apply Kd.R_alloc | apply Kd.R_drewN | apply Kd.R_drew)); exact HO331.out⟩, ⟨by repeat (first | (with_reducible first | exact HB.out | apply below_alloc | apply pw_below_drewN | apply below_drew1) | exact HB.out)⟩⟩
      ·
       rw [if_neg c9] at H
       exact absurd H (by simp)
     ·
      replace c6 := Bool.eq_false_iff.mpr c6
      subst c6
      have H1 : ((codewrightref01_Trim.f kj2 x5_1).bind fun t332 => (some t332)) = some r := by rw [if_neg (show ¬ (false = true) by decide)] at H; exact H
      clear H
      have H := H1
      clear H1
      replace H := Option.bind_eq_some_iff.mp H
      obtain ⟨t332, A110, H⟩ := H
      replace H : (some t332) = some r := H
      have A11 := Aside0.mk A110
      clear A110
      obtain rfl := Option.some.inj H
      obtain ⟨Ao12, co12, eo12⟩ := Kd.R_slice HO_5.out
      subst eo12
      go_wp2_with (first | ((with_reducible refine gate_callee (f := 144) rfl ?_); refine goesL_ (some 43) rfl rfl Try.func144 (by kernel_rfl) rfl #[.slice Ao12 x5_1.length co12] rfl lu ?_; (with_reducible refine (codewrightref01_Trim.calls kj2 _ _ x5_1 t332 _ ?side1 ?side2 A11.out).mono ?_); (case side1 => repeat (first | exact (Kd.R_reads' HO_5.out).2.2 | (with_reducible refine Kd.C_alloc ?_ _) | (with_reducible refine Kd.C_drewN ?_ _) | (with_reducible refine Kd.C_drew ?_))); (case side2 => exact (Kd.R_reads' HO_5.out).2.1); rintro e w13 ⟨v333, rfl, ho0, hb⟩; refine ⟨_, rfl, ?_⟩; have HO334 := Aside0.mk (Kd.R_lower (Kd.R_new' ho0 (Kd.R_lt (by (with_reducible repeat (first | apply Kd.R_alloc | apply Kd.R_drewN | apply Kd.R_drew)); exact HO_5.out))) (below_size (bu HB.out))); replace HO_5 := Aside0.mk (Kd.R_elder' (by (with_reducible repeat (first | apply Kd.R_alloc | apply Kd.R_drewN | apply Kd.R_drew)); exact HO_5.out) (Kd.R_base ho0) hb); replace HB := Aside0.mk (below_step (bu HB.out) hb); (try clear hb); (try clear hb2); (try clear hk); (try clear hi); (try clear ho0)))
      go_ret
      exact ⟨_, by first | rfl | (simp [errW_none, errW_some] <;> rfl) | (simp [*, errW_none, errW_some] <;> rfl), by (with_reducible repeat (first | apply Kd.R_alloc | apply Kd.R_drewN | apply Kd.R_drew)); exact Kd.R_mono HO334.out (fun _ hk => trivial), by repeat (first | (with_reducible first | exact HB.out | apply below_alloc | apply pw_below_drewN | apply below_drew1) | exact HB.out)⟩
end Go.Proofs.Ytecfdemglbfnoaa.PT
end
section
namespace Go.Proofs.Ytecfdemglbfnoaa.PT
open Go.RowKit Go.Proofs.YtecfdemglbfnoaaW.PrintWords Go.Proofs.YtecfdemglbfnoaaW.PrintLast Go.Proofs.YtecfdemglbfnoaaW.PrintMore
attribute [local go_sem] max2_int min2_int max_two min_two max_three min_three max_four min_four   -- for this text's walks alone
set_option linter.unusedVariables false
set_option linter.unusedSimpArgs false
def codewrightref01_Cmp.l0 : Nat → List Int → List Int → Int → Option (Int)
 | 0, _, _, _ => none
 | k + 1, x0, x1, x5 => if x5 ≥ 0 then ((codewrightref01_limb.f x0 x5).bind fun t389 => ((codewrightref01_limb.f x1 x5).bind fun t390 => (if t389 < t390 then (some (-1)) else ((codewrightref01_limb.f x0 x5).bind fun t391 => ((codewrightref01_limb.f x1 x5).bind fun t392 => (if t391 > t392 then (some 1) else (codewrightref01_Cmp.l0 k x0 x1 (wrap64 (x5 - 1))))))))) else (some 0)
def codewrightref01_Cmp.f (k : Nat) (l0 : List Int) (l1 : List Int) : Option (Int) := codewrightref01_Cmp.l0 k l0 l1 (wrap64 ((mx (l0.length : Int) (l1.length : Int)) - 1))
set_option maxHeartbeats 8000000 in
set_option maxRecDepth 100000 in
theorem codewrightref01_Cmp.calls (k : Nat) (A0 : Option Addr) (c0 : Nat) (l0 : List Int) (A1 : Option Addr) (c1 : Nat) (l1 : List Int) (r : Int) (w : World) (hr0 : Kd.C (Kd.int .u32) w A0 l0.length l0) (hc0 : l0.length ≤ c0) (hr1 : Kd.C (Kd.int .u32) w A1 l1.length l1) (hc1 : l1.length ≤ c1) (h : codewrightref01_Cmp.f k l0 l1 = some r) :
 Calls Try.prog 59 #[.slice A0 l0.length c0, .slice A1 l1.length c1] w fun e w' => e = .returned (.int .i64 r) ∧ Below w.heap.size w w' := by
 have HR0 := Aside0.mk hr0
 have HC0 := Aside0.mk hc0
 clear hr0 hc0
 have HR1 := Aside0.mk hr1
 have HC1 := Aside0.mk hc1
 clear hr1 hc1
 have HB := Aside0.mk (Below.refl w.heap.size w)
 have H : (codewrightref01_Cmp.l0 k l0 l1 (wrap64 ((mx (l0.length : Int) (l1.length : Int)) - 1))) = some r := h
 clear h
 obtain ⟨ji3, hji3⟩ : ∃ j_ : Int, (mx (l0.length : Int) (l1.length : Int)) = j_ := ⟨_, rfl⟩
 replace H : (codewrightref01_Cmp.l0 k l0 l1 (wrap64 ((ji3) - 1))) = some r := by first | (rw [hji3] at H; exact H) | (simp only [hji3] at H ⊢; exact H)
 (try (have hji3l : 0 ≤ ji3 := by (rw [← hji3]; unfold mx; (repeat' split) <;> omega)))
 (try (have hji3m : 0 ≤ ji3 := by omega))
 have hji3n : (if l0.length < l1.length then (l1.length : Int) else (l0.length : Int)) = ji3 := by (rw [← hji3]; unfold mx; (repeat' split) <;> omega)
 have hji3_ : (if (l0.length : Int) < (l1.length : Int) then (l1.length : Int) else (l0.length : Int)) = ji3 := hji3
 have H' := Aside0.mk H
 clear H
 go_enter Try.func59, Try.ntmps59
 go_wp2
 go_loopg [5] k (fun kq v5 w' => ∃ (x5_1 : Int), v5 = .int .i64 x5_1 ∧ Aside0 (codewrightref01_Cmp.l0 kq l0 l1 x5_1 = some r) ∧ Aside0 (kq ≤ k) ∧ Aside0 (Below w.heap.size w w'))
 case atStart => exact ⟨(wrap64 ((ji3) - 1)), (by first | rfl | (simp; done) | (simp only [← hji3] <;> (first | rfl | simp)) | (simp [*]; done)), H', ⟨Nat.le_refl _⟩, ⟨by repeat (first | (with_reducible first | exact HB.out | apply below_alloc | apply pw_below_drewN | apply below_drew1) | exact HB.out)⟩⟩
 case round =>
  clear H'
  try clear c1
  try clear p2
  obtain ⟨x5_1, rfl, HA, HK1, HB⟩ := hrel
  cases gk with
  | zero => exact absurd HA.out (by simp [codewrightref01_Cmp.l0])
  | succ k1 =>
   have H := HA.out
   clear HA
   simp only [codewrightref01_Cmp.l0] at H
   by_cases c4 : x5_1 ≥ 0
   ·
    rw [if_pos c4] at H
    have c4b0 : decide (0 ≤ x5_1) = true := decide_eq_true c4
    clear c4
    replace H := Option.bind_eq_some_iff.mp H
    obtain ⟨t389, A50, H⟩ := H
    replace H : ((codewrightref01_limb.f l1 x5_1).bind fun t390 => (if t389 < t390 then (some (-1)) else ((codewrightref01_limb.f l0 x5_1).bind fun t391 => ((codewrightref01_limb.f l1 x5_1).bind fun t392 => (if t391 > t392 then (some 1) else (codewrightref01_Cmp.l0 k1 l0 l1 (wrap64 (x5_1 - 1)))))))) = some r := H
    have A5 := Aside0.mk A50
    clear A50
    replace H := Option.bind_eq_some_iff.mp H
    obtain ⟨t390, A60, H⟩ := H
    replace H : (if t389 < t390 then (some (-1)) else ((codewrightref01_limb.f l0 x5_1).bind fun t391 => ((codewrightref01_limb.f l1 x5_1).bind fun t392 => (if t391 > t392 then (some 1) else (codewrightref01_Cmp.l0 k1 l0 l1 (wrap64 (x5_1 - 1))))))) = some r := H
    have A6 := Aside0.mk A60
    clear A60
    by_cases c7 : t389 < t390
    ·
     rw [if_pos c7] at H
     have c7b0 : decide (t389 < t390) = true := decide_eq_true c7
     clear c7
     obtain rfl := Option.some.inj H
     go_wp2_with (first | ((with_reducible refine gate_callee (f := 143) rfl ?_); refine goesL_ (some 18) rfl rfl Try.func143 (by kernel_rfl) rfl #[.slice A0 l0.length c0, .int .i64 x5_1] rfl lu ?_; (with_reducible refine (codewrightref01_limb.calls _ _ l0 x5_1 t389 _ ?side1 ?side2 A5.out).mono ?_); (case side1 => repeat (first | exact (Kd.C_below HR0.out HB.out) | (with_reducible refine Kd.C_alloc ?_ _) | (with_reducible refine Kd.C_drewN ?_ _) | (with_reducible refine Kd.C_drew ?_))); (case side2 => exact HC0.out); rintro e w' ⟨rfl, ⟨nd, rfl⟩⟩; refine ⟨_, rfl, ?_⟩) | ((with_reducible refine gate_callee (f := 143) rfl ?_); refine goesL_ (some 21) rfl rfl Try.func143 (by kernel_rfl) rfl #[.slice A1 l1.length c1, .int .i64 x5_1] rfl lu ?_; (with_reducible refine (codewrightref01_limb.calls _ _ l1 x5_1 t390 _ ?side1 ?side2 A6.out).mono ?_); (case side1 => repeat (first | exact (Kd.C_below HR1.out (bu HB.out)) | (with_reducible refine Kd.C_alloc ?_ _) | (with_reducible refine Kd.C_drewN ?_ _) | (with_reducible refine Kd.C_drew ?_))); (case side2 => exact HC1.out); rintro e w' ⟨rfl, ⟨nd, rfl⟩⟩; refine ⟨_, rfl, ?_⟩))
     go_ret
     exact ⟨by first | rfl | (simp [errW_none, errW_some] <;> rfl) | (simp only [← hji3]; first | rfl | (simp [errW_none, errW_some] <;> rfl)) | (simp [*, errW_none, errW_some] <;> rfl), by repeat (first | (with_reducible first | exact HB.out | apply below_alloc | apply pw_below_drewN | apply below_drew1) | exact HB.out)⟩
    ·
     rw [if_neg c7] at H
     have c7b0 : decide (t389 < t390) = false := decide_eq_false c7
     clear c7
     replace H := Option.bind_eq_some_iff.mp H
     obtain ⟨t391, A80, H⟩ := H
     replace H : ((codewrightref01_limb.f l1 x5_1).bind fun t392 => (if t391 > t392 then (some 1) else (codewrightref01_Cmp.l0 k1 l0 l1 (wrap64 (x5_1 - 1))))) = some r := H
     have A8 := Aside0.mk A80
     clear A80
     replace H := Option.bind_eq_some_iff.mp H
     obtain ⟨t392, A90, H⟩ := H
     replace H : (if t391 > t392 then (some 1) else (codewrightref01_Cmp.l0 k1 l0 l1 (wrap64 (x5_1 - 1)))) = some r := H
     have A9 := Aside0.mk A90
     clear A90
     by_cases c10 : t391 > t392
     ·
      rw [if_pos c10] at H
      have c10b0 : decide (t392 < t391) = true := decide_eq_true c10
      clear c10
      obtain rfl := Option.some.inj H
      go_wp2_with (first | ((with_reducible refine gate_callee (f := 143) rfl ?_); refine goesL_ (some 18) rfl rfl Try.func143 (by kernel_rfl) rfl #[.slice A0 l0.length c0, .int .i64 x5_1] rfl lu ?_; (with_reducible refine (codewrightref01_limb.calls _ _ l0 x5_1 t389 _ ?side1 ?side2 A5.out).mono ?_); (case side1 => repeat (first | exact (Kd.C_below HR0.out HB.out) | (with_reducible refine Kd.C_alloc ?_ _) | (with_reducible refine Kd.C_drewN ?_ _) | (with_reducible refine Kd.C_drew ?_))); (case side2 => exact HC0.out); rintro e w' ⟨rfl, ⟨nd, rfl⟩⟩; refine ⟨_, rfl, ?_⟩) | ((with_reducible refine gate_callee (f := 143) rfl ?_); refine goesL_ (some 21) rfl rfl Try.func143 (by kernel_rfl) rfl #[.slice A1 l1.length c1, .int .i64 x5_1] rfl lu ?_; (with_reducible refine (codewrightref01_limb.calls _ _ l1 x5_1 t390 _ ?side1 ?side2 A6.out).mono ?_); (case side1 => repeat (first | exact (Kd.C_below HR1.out (bu HB.out)) | (with_reducible refine Kd.C_alloc ?_ _) | (with_reducible refine Kd.C_drewN ?_ _) | (with_reducible refine Kd.C_drew ?_))); (case side2 => exact HC1.out); rintro e w' ⟨rfl, ⟨nd, rfl⟩⟩; refine ⟨_, rfl, ?_⟩) | ((with_reducible refine gate_callee (f := 143) rfl ?_); refine goesL_ (some 25) rfl rfl Try.func143 (by kernel_rfl) rfl #[.slice A0 l0.length c0, .int .i64 x5_1] rfl lu ?_; (with_reducible refine (codewrightref01_limb.calls _ _ l0 x5_1 t391 _ ?side1 ?side2 A8.out).mono ?_); (case side1 => repeat (first | exact (Kd.C_below HR0.out (bu HB.out)) | (with_reducible refine Kd.C_alloc ?_ _) | (with_reducible refine Kd.C_drewN ?_ _) | (with_reducible refine Kd.C_drew ?_))); (case side2 => exact HC0.out); rintro e w' ⟨rfl, ⟨nd, rfl⟩⟩; refine ⟨_, rfl, ?_⟩) | ((with_reducible refine gate_callee (f := 143) rfl ?_); refine goesL_ (some 28) rfl rfl Try.func143 (by kernel_rfl) rfl #[.slice A1 l1.length c1, .int .i64 x5_1] rfl lu ?_; (with_reducible refine (codewrightref01_limb.calls _ _ l1 x5_1 t392 _ ?side1 ?side2 A9.out).mono ?_); (case side1 => repeat (first | exact (Kd.C_below HR1.out (bu HB.out)) | (with_reducible refine Kd.C_alloc ?_ _) | (with_reducible refine Kd.C_drewN ?_ _) | (with_reducible refine Kd.C_drew ?_))); (case side2 => exact HC1.out); rintro e w' ⟨rfl, ⟨nd, rfl⟩⟩; refine ⟨_, rfl, ?_⟩))
      go_ret
      exact ⟨by first | rfl | (simp [errW_none, errW_some] <;> rfl) | (simp only [← hji3]; first | rfl | (simp [errW_none, errW_some] <;> rfl)) | (simp [*, errW_none, errW_some] <;> rfl), by repeat (first | (with_reducible first | exact HB.out | apply below_alloc | apply pw_below_drewN | apply below_drew1) | exact HB.out)⟩
     ·
      rw [if_neg c10] at H
      have c10b0 : decide (t392 < t391) = false := decide_eq_false c10
      clear c10
      have H' := Aside0.mk H
      clear H
      go_wp2_with (first | ((with_reducible refine gate_callee (f := 143) rfl ?_); refine goesL_ (some 18) rfl rfl Try.func143 (by kernel_rfl) rfl #[.slice A0 l0.length c0, .int .i64 x5_1] rfl lu ?_; (with_reducible refine (codewrightref01_limb.calls _ _ l0 x5_1 t389 _ ?side1 ?side2 A5.out).mono ?_); (case side1 => repeat (first | exact (Kd.C_below HR0.out HB.out) | (with_reducible refine Kd.C_alloc ?_ _) | (with_reducible refine Kd.C_drewN ?_ _) | (with_reducible refine Kd.C_drew ?_))); (case side2 => exact HC0.out); rintro e w' ⟨rfl, ⟨nd, rfl⟩⟩; refine ⟨_, rfl, ?_⟩) | ((with_reducible refine gate_callee (f := 143) rfl ?_); refine goesL_ (some 21) rfl rfl Try.func143 (by kernel_rfl) rfl #[.slice A1 l1.length c1, .int .i64 x5_1] rfl lu ?_; (with_reducible refine (codewrightref01_limb.calls _ _ l1 x5_1 t390 _ ?side1 ?side2 A6.out).mono ?_); (case side1 => repeat (first | exact (Kd.C_below HR1.out (bu HB.out)) | (with_reducible refine Kd.C_alloc ?_ _) | (with_reducible refine Kd.C_drewN ?_ _) | (with_reducible refine Kd.C_drew ?_))); (case side2 => exact HC1.out); rintro e w' ⟨rfl, ⟨nd, rfl⟩⟩; refine ⟨_, rfl, ?_⟩) | ((with_reducible refine gate_callee (f := 143) rfl ?_); refine goesL_ (some 25) rfl rfl Try.func143 (by kernel_rfl) rfl #[.slice A0 l0.length c0, .int .i64 x5_1] rfl lu ?_; (with_reducible refine (codewrightref01_limb.calls _ _ l0 x5_1 t391 _ ?side1 ?side2 A8.out).mono ?_); (case side1 => repeat (first | exact (Kd.C_below HR0.out (bu HB.out)) | (with_reducible refine Kd.C_alloc ?_ _) | (with_reducible refine Kd.C_drewN ?_ _) | (with_reducible refine Kd.C_drew ?_))); (case side2 => exact HC0.out); rintro e w' ⟨rfl, ⟨nd, rfl⟩⟩; refine ⟨_, rfl, ?_⟩) | ((with_reducible refine gate_callee (f := 143) rfl ?_); refine goesL_ (some 28) rfl rfl Try.func143 (by kernel_rfl) rfl #[.slice A1 l1.length c1, .int .i64 x5_1] rfl lu ?_; (with_reducible refine (codewrightref01_limb.calls _ _ l1 x5_1 t392 _ ?side1 ?side2 A9.out).mono ?_); (case side1 => repeat (first | exact (Kd.C_below HR1.out (bu HB.out)) | (with_reducible refine Kd.C_alloc ?_ _) | (with_reducible refine Kd.C_drewN ?_ _) | (with_reducible refine Kd.C_drew ?_))); (case side2 => exact HC1.out); rintro e w' ⟨rfl, ⟨nd, rfl⟩⟩; refine ⟨_, rfl, ?_⟩))
      go_roundg k1
      case measure => have := HK1.out; omega
      case rel => exact ⟨(wrap64 (x5_1 - 1)), (by first | rfl | (simp; done) | (simp [*]; done)), H', ⟨by have := HK1.out; omega⟩, ⟨by repeat (first | (with_reducible first | exact HB.out | apply below_alloc | apply pw_below_drewN | apply below_drew1) | exact HB.out)⟩⟩
   ·
    rw [if_neg c4] at H
    have c4b0 : decide (0 ≤ x5_1) = false := decide_eq_false c4
    clear c4
    obtain rfl := Option.some.inj H
    go_wp2
    go_ret
    exact ⟨by first | rfl | (simp [errW_none, errW_some] <;> rfl) | (simp only [← hji3]; first | rfl | (simp [errW_none, errW_some] <;> rfl)) | (simp [*, errW_none, errW_some] <;> rfl), by repeat (first | (with_reducible first | exact HB.out | apply below_alloc | apply pw_below_drewN | apply below_drew1) | exact HB.out)⟩
end Go.Proofs.Ytecfdemglbfnoaa.PT
end
section
namespace Go.Proofs.Ytecfdemglbfnoaa.PT
open Go.RowKit Go.Proofs.YtecfdemglbfnoaaW.PrintWords Go.Proofs.YtecfdemglbfnoaaW.PrintLast Go.Proofs.YtecfdemglbfnoaaW.PrintMore
attribute [local go_sem] max2_int min2_int max_two min_two max_three min_three max_four min_four   -- for this text's walks alone
set_option linter.unusedVariables false
set_option linter.unusedSimpArgs false
def codewrightref01_Sub.l0 : Nat → List Int → List Int → List Int → Int → Int → Option (List Int)
 | 0, _, _, _, _, _ => none
 | k + 1, x0, x1, x5, x6, x7 => if x7 < (x0.length : Int) then ((codewrightref01_limb.f x0 x7).bind fun t1044 => ((codewrightref01_limb.f x1 x7).bind fun t1045 => (if x5.length < 35184372088832 then (codewrightref01_Sub.l0 k x0 x1 (x5 ++ [(Int.tmod (IntKind.u64.wrap ((IntKind.u64.wrap ((IntKind.u64.wrap (t1044 + 4294967296)) - t1045)) - x6)) 4294967296) % 4294967296]) (IntKind.u64.wrap (1 - (IntKind.u64.wrap (Int.tdiv (IntKind.u64.wrap ((IntKind.u64.wrap ((IntKind.u64.wrap (t1044 + 4294967296)) - t1045)) - x6)) 4294967296)))) (wrap64 (x7 + 1))) else (none)))) else ((codewrightref01_Trim.f k x5).bind fun t1049 => (some t1049))
def codewrightref01_Sub.f (k : Nat) (l0 : List Int) (l1 : List Int) : Option (List Int) := codewrightref01_Sub.l0 k l0 l1 ([] : List Int) 0 0
set_option maxHeartbeats 8000000 in
set_option maxRecDepth 100000 in
theorem codewrightref01_Sub.calls (k : Nat) (A0 : Option Addr) (c0 : Nat) (l0 : List Int) (A1 : Option Addr) (c1 : Nat) (l1 : List Int) (r : List Int) (w : World) (hr0 : Kd.C (Kd.int .u32) w A0 l0.length l0) (hc0 : l0.length ≤ c0) (hr1 : Kd.C (Kd.int .u32) w A1 l1.length l1) (hc1 : l1.length ≤ c1) (h : codewrightref01_Sub.f k l0 l1 = some r) :
 Calls Try.prog 166 #[.slice A0 l0.length c0, .slice A1 l1.length c1] w fun e w' => ∃ v0_ : Value, e = .returned (v0_) ∧ Kd.R (Kd.int .u32) 48 w' w.heap.size (fun _ => True) v0_ r ∧ Below w.heap.size w w' := by
 have HR0 := Aside0.mk hr0
 have HC0 := Aside0.mk hc0
 clear hr0 hc0
 have HR1 := Aside0.mk hr1
 have HC1 := Aside0.mk hc1
 clear hr1 hc1
 have HB := Aside0.mk (Below.refl w.heap.size w)
 have H : (codewrightref01_Sub.l0 k l0 l1 ([] : List Int) 0 0) = some r := h
 clear h
 have H' := Aside0.mk H
 clear H
 go_enter Try.func166, Try.ntmps166
 go_wp2
 go_loopg [5, 6, 7] k (fun kq v5 v6 v7 w' => ∃ (x5_1 : List Int) (x6_1 : Int) (x7_1 : Int), v6 = .int .u64 x6_1 ∧ v7 = .int .i64 x7_1 ∧ Aside0 (codewrightref01_Sub.l0 kq l0 l1 x5_1 x6_1 x7_1 = some r) ∧ Aside0 (kq ≤ k) ∧ Aside0 (Kd.R (Kd.int .u32) 48 w' w.heap.size (fun _ => True) v5 x5_1) ∧ Aside0 (Below w.heap.size w w'))
 case atStart => exact ⟨(([] : List Int)), (0), (0), (by first | rfl | (simp; done) | (simp [*]; done)), (by first | rfl | (simp; done) | (simp [*]; done)), H', ⟨Nat.le_refl _⟩, ⟨by first | exact Kd.R_nil _ _ _ _ _ | exact Kd.N_nil _ _ _ _ _ | exact Kd.V_nil _ _ _ _ _ | exact Kd.Q_nil _ _ _ _ _ | exact Kd.S_nil _ _ _ _ _⟩, ⟨by repeat (first | (with_reducible first | exact HB.out | apply below_alloc | apply pw_below_drewN | apply below_drew1) | exact HB.out)⟩⟩
 case round =>
  clear H'
  try clear c1
  try clear p2
  obtain ⟨x5_1, x6_1, x7_1, rfl, rfl, HA, HK1, HO_5, HB⟩ := hrel
  cases gk with
  | zero => exact absurd HA.out (by simp [codewrightref01_Sub.l0])
  | succ k1 =>
   have H := HA.out
   clear HA
   simp only [codewrightref01_Sub.l0] at H
   by_cases c3 : x7_1 < (l0.length : Int)
   ·
    rw [if_pos c3] at H
    have c3b0 : decide (x7_1 < (l0.length : Int)) = true := decide_eq_true c3
    clear c3
    replace H := Option.bind_eq_some_iff.mp H
    obtain ⟨t1044, A40, H⟩ := H
    replace H : ((codewrightref01_limb.f l1 x7_1).bind fun t1045 => (if x5_1.length < 35184372088832 then (codewrightref01_Sub.l0 k1 l0 l1 (x5_1 ++ [(Int.tmod (IntKind.u64.wrap ((IntKind.u64.wrap ((IntKind.u64.wrap (t1044 + 4294967296)) - t1045)) - x6_1)) 4294967296) % 4294967296]) (IntKind.u64.wrap (1 - (IntKind.u64.wrap (Int.tdiv (IntKind.u64.wrap ((IntKind.u64.wrap ((IntKind.u64.wrap (t1044 + 4294967296)) - t1045)) - x6_1)) 4294967296)))) (wrap64 (x7_1 + 1))) else (none))) = some r := H
    have A4 := Aside0.mk A40
    clear A40
    replace H := Option.bind_eq_some_iff.mp H
    obtain ⟨t1045, A50, H⟩ := H
    replace H : (if x5_1.length < 35184372088832 then (codewrightref01_Sub.l0 k1 l0 l1 (x5_1 ++ [(Int.tmod (IntKind.u64.wrap ((IntKind.u64.wrap ((IntKind.u64.wrap (t1044 + 4294967296)) - t1045)) - x6_1)) 4294967296) % 4294967296]) (IntKind.u64.wrap (1 - (IntKind.u64.wrap (Int.tdiv (IntKind.u64.wrap ((IntKind.u64.wrap ((IntKind.u64.wrap (t1044 + 4294967296)) - t1045)) - x6_1)) 4294967296)))) (wrap64 (x7_1 + 1))) else (none)) = some r := H
    have A5 := Aside0.mk A50
    clear A50
    by_cases c6 : x5_1.length < 35184372088832
    ·
     rw [if_pos c6] at H
     have LMc6 := Aside0.mk c6
     clear c6
     obtain ⟨y1046, hy1046⟩ : ∃ y_ : List Int, y_ = (x5_1 ++ [(Int.tmod (IntKind.u64.wrap ((IntKind.u64.wrap ((IntKind.u64.wrap (t1044 + 4294967296)) - t1045)) - x6_1)) 4294967296) % 4294967296]) := ⟨_, rfl⟩
     replace H : (codewrightref01_Sub.l0 k1 l0 l1 y1046 (IntKind.u64.wrap (1 - (IntKind.u64.wrap (Int.tdiv (IntKind.u64.wrap ((IntKind.u64.wrap ((IntKind.u64.wrap (t1044 + 4294967296)) - t1045)) - x6_1)) 4294967296)))) (wrap64 (x7_1 + 1))) = some r := by first | (rw [hy1046]; with_reducible exact H) | (have H2_ := (Option.bind_some _ _).symm.trans H; rw [hy1046]; with_reducible exact H2_) | (have H2_ := (Option.bind_some _ _).symm.trans H; with_reducible exact H2_) | with_reducible exact H | (rw [hy1046]; exact H) | exact H
     have Ny1046 := Aside0.mk hy1046
     clear hy1046
     have H' := Aside0.mk H
     clear H
     go_wp2_with (first | ((with_reducible refine gate_callee (f := 143) rfl ?_); refine goesL_ (some 17) rfl rfl Try.func143 (by kernel_rfl) rfl #[.slice A0 l0.length c0, .int .i64 x7_1] rfl lu ?_; (with_reducible refine (codewrightref01_limb.calls _ _ l0 x7_1 t1044 _ ?side1 ?side2 A4.out).mono ?_); (case side1 => repeat (first | exact (Kd.C_below HR0.out HB.out) | (with_reducible refine Kd.C_alloc ?_ _) | (with_reducible refine Kd.C_drewN ?_ _) | (with_reducible refine Kd.C_drew ?_))); (case side2 => exact HC0.out); rintro e w' ⟨rfl, ⟨nd, rfl⟩⟩; refine ⟨_, rfl, ?_⟩) | ((with_reducible refine gate_callee (f := 143) rfl ?_); refine goesL_ (some 21) rfl rfl Try.func143 (by kernel_rfl) rfl #[.slice A1 l1.length c1, .int .i64 x7_1] rfl lu ?_; (with_reducible refine (codewrightref01_limb.calls _ _ l1 x7_1 t1045 _ ?side1 ?side2 A5.out).mono ?_); (case side1 => repeat (first | exact (Kd.C_below HR1.out (bu HB.out)) | (with_reducible refine Kd.C_alloc ?_ _) | (with_reducible refine Kd.C_drewN ?_ _) | (with_reducible refine Kd.C_drew ?_))); (case side2 => exact HC1.out); rintro e w' ⟨rfl, ⟨nd, rfl⟩⟩; refine ⟨_, rfl, ?_⟩) | ((with_reducible refine gate_builtin (b := .append) (xs := #[.tmp 25, .tmp 29]) rfl ?_); at_builtin; refine Kd.R_append (Kd.int .u32) (w0 := w) w.heap.size rfl (.tmp 25) (.tmp 29) 42 48 (.int .u32 0) 4 rfl Try.underlying42 info48 rfl (by decide) (by omega) u5 x5_1 ((Int.tmod (IntKind.u64.wrap ((IntKind.u64.wrap ((IntKind.u64.wrap (t1044 + 4294967296)) - t1045)) - x6_1)) 4294967296) % 4294967296) [.int .u32 ((Int.tmod (IntKind.u64.wrap ((IntKind.u64.wrap ((IntKind.u64.wrap (t1044 + 4294967296)) - t1045)) - x6_1)) 4294967296) % 4294967296)] (fun _ => True) (fun _ => False) rfl rfl ?aP (fun _ hk => hk.elim) ?aF ?aO ?aB ?aS ?aL ?_; (case aP => exact rfl); (case aB => exact (bu HB.out)); (case aF => exact (fun _ _ => trivial)); (case aO => exact (by (with_reducible repeat (first | apply Kd.R_alloc | apply Kd.R_drewN | apply Kd.R_drew)); exact HO_5.out)); (case aS => exact (below_size (bu HB.out))); (case aL => have := LMc6.out; omega); intro v1047 w7 ho hb hg hat; rw [← Ny1046.out] at ho; replace HB := Aside0.mk (hb); have HO1048 := Aside0.mk (ho); clear HO_5 ho hb hg hat))
     go_roundg k1
     case measure => have := HK1.out; omega
     case rel => exact ⟨(y1046), (IntKind.u64.wrap (1 - (IntKind.u64.wrap (Int.tdiv (IntKind.u64.wrap ((IntKind.u64.wrap ((IntKind.u64.wrap (t1044 + 4294967296)) - t1045)) - x6_1)) 4294967296)))), (wrap64 (x7_1 + 1)), (by first | rfl | (simp; done) | (simp [*]; done)), (by first | rfl | (simp; done) | (simp [*]; done)), H', ⟨by have := HK1.out; omega⟩, ⟨by (with_reducible repeat (first | apply Kd.R_alloc | apply Kd.R_drewN | apply Kd.R_drew)); exact HO1048.out⟩, ⟨by repeat (first | (with_reducible first | exact HB.out | apply below_alloc | apply pw_below_drewN | apply below_drew1) | exact HB.out)⟩⟩
    ·
     rw [if_neg c6] at H
     exact absurd H (by simp)
   ·
    rw [if_neg c3] at H
    have c3b0 : decide (x7_1 < (l0.length : Int)) = false := decide_eq_false c3
    clear c3
    replace H := Option.bind_eq_some_iff.mp H
    obtain ⟨t1049, A80, H⟩ := H
    replace H : (some t1049) = some r := H
    have A8 := Aside0.mk A80
    clear A80
    obtain rfl := Option.some.inj H
    obtain ⟨Ao9, co9, eo9⟩ := Kd.R_slice HO_5.out
    subst eo9
    go_wp2_with (first | ((with_reducible refine gate_callee (f := 144) rfl ?_); refine goesL_ (some 35) rfl rfl Try.func144 (by kernel_rfl) rfl #[.slice Ao9 x5_1.length co9] rfl lu ?_; (with_reducible refine (codewrightref01_Trim.calls k1 _ _ x5_1 t1049 _ ?side1 ?side2 A8.out).mono ?_); (case side1 => repeat (first | exact (Kd.R_reads' HO_5.out).2.2 | (with_reducible refine Kd.C_alloc ?_ _) | (with_reducible refine Kd.C_drewN ?_ _) | (with_reducible refine Kd.C_drew ?_))); (case side2 => exact (Kd.R_reads' HO_5.out).2.1); rintro e w10 ⟨v1050, rfl, ho0, hb⟩; refine ⟨_, rfl, ?_⟩; have HO1051 := Aside0.mk (Kd.R_lower (Kd.R_new' ho0 (Kd.R_lt (by (with_reducible repeat (first | apply Kd.R_alloc | apply Kd.R_drewN | apply Kd.R_drew)); exact HO_5.out))) (below_size (bu HB.out))); replace HO_5 := Aside0.mk (Kd.R_elder' (by (with_reducible repeat (first | apply Kd.R_alloc | apply Kd.R_drewN | apply Kd.R_drew)); exact HO_5.out) (Kd.R_base ho0) hb); replace HB := Aside0.mk (below_step (bu HB.out) hb); (try clear hb); (try clear hb2); (try clear hk); (try clear hi); (try clear ho0)))
    go_ret
    exact ⟨_, by first | rfl | (simp [errW_none, errW_some] <;> rfl) | (simp [*, errW_none, errW_some] <;> rfl), by (with_reducible repeat (first | apply Kd.R_alloc | apply Kd.R_drewN | apply Kd.R_drew)); exact Kd.R_mono HO1051.out (fun _ hk => trivial), by repeat (first | (with_reducible first | exact HB.out | apply below_alloc | apply pw_below_drewN | apply below_drew1) | exact HB.out)⟩
end Go.Proofs.Ytecfdemglbfnoaa.PT
end
section
namespace Go.Proofs.Ytecfdemglbfnoaa.PT
open Go.RowKit Go.Proofs.YtecfdemglbfnoaaW.PrintWords Go.Proofs.YtecfdemglbfnoaaW.PrintLast Go.Proofs.YtecfdemglbfnoaaW.PrintMore
attribute [local go_sem] max2_int min2_int max_two min_two max_three min_three max_four min_four   -- for this text's walks alone
set_option linter.unusedVariables false
set_option linter.unusedSimpArgs false
def codewrightref01_Bits.l0 : Nat → Int → Int → Option (Int)
 | 0, _, _ => none
 | k + 1, x3, x4 => if x4 > 0 then (codewrightref01_Bits.l0 k (wrap64 (x3 + 1)) ((Int.tdiv x4 2) % 4294967296)) else (some x3)
def codewrightref01_Bits.f (k : Nat) (l0 : List Int) : Option (Int) := (codewrightref01_Trim.f k l0).bind fun t1052 => (if (t1052.length : Int) = 0 then (some 0) else (if 0 ≤ (wrap64 ((t1052.length : Int) - 1)) then (if (wrap64 ((t1052.length : Int) - 1)) < (t1052.length : Int) then (codewrightref01_Bits.l0 k (wrap64 (32 * (wrap64 ((t1052.length : Int) - 1)))) (rd t1052 (wrap64 ((t1052.length : Int) - 1)))) else (none)) else (none)))
set_option maxHeartbeats 8000000 in
set_option maxRecDepth 100000 in
theorem codewrightref01_Bits.calls (k : Nat) (A0 : Option Addr) (c0 : Nat) (l0 : List Int) (r : Int) (w : World) (hr0 : Kd.C (Kd.int .u32) w A0 l0.length l0) (hc0 : l0.length ≤ c0) (h : codewrightref01_Bits.f k l0 = some r) :
 Calls Try.prog 183 #[.slice A0 l0.length c0] w fun e w' => e = .returned (.int .i64 r) ∧ Below w.heap.size w w' := by
 have HR0 := Aside0.mk hr0
 have HC0 := Aside0.mk hc0
 clear hr0 hc0
 have HB := Aside0.mk (Below.refl w.heap.size w)
 have H : ((codewrightref01_Trim.f k l0).bind fun t1052 => (if (t1052.length : Int) = 0 then (some 0) else (if 0 ≤ (wrap64 ((t1052.length : Int) - 1)) then (if (wrap64 ((t1052.length : Int) - 1)) < (t1052.length : Int) then (codewrightref01_Bits.l0 k (wrap64 (32 * (wrap64 ((t1052.length : Int) - 1)))) (rd t1052 (wrap64 ((t1052.length : Int) - 1)))) else (none)) else (none)))) = some r := h
 clear h
 replace H := Option.bind_eq_some_iff.mp H
 obtain ⟨t1052, A20, H⟩ := H
 replace H : (if (t1052.length : Int) = 0 then (some 0) else (if 0 ≤ (wrap64 ((t1052.length : Int) - 1)) then (if (wrap64 ((t1052.length : Int) - 1)) < (t1052.length : Int) then (codewrightref01_Bits.l0 k (wrap64 (32 * (wrap64 ((t1052.length : Int) - 1)))) (rd t1052 (wrap64 ((t1052.length : Int) - 1)))) else (none)) else (none))) = some r := H
 have A2 := Aside0.mk A20
 clear A20
 by_cases c3 : (t1052.length : Int) = 0
 ·
  rw [if_pos c3] at H
  have c3b0 : ((t1052.length : Int) == 0) = true := beq_iff_eq.mpr c3
  have c3b1 : ((t1052.length : Int) != 0) = false := bne_eq_false_iff_eq.mpr c3
  clear c3
  obtain rfl := Option.some.inj H
  go_enter Try.func183, Try.ntmps183
  go_wp2_with (first | ((with_reducible refine gate_callee (f := 144) rfl ?_); refine goesL_ (some 6) rfl rfl Try.func144 (by kernel_rfl) rfl #[.slice A0 l0.length c0] rfl lu ?_; (with_reducible refine (codewrightref01_Trim.calls k _ _ l0 t1052 _ ?side1 ?side2 A2.out).mono ?_); (case side1 => repeat (first | exact HR0.out | (with_reducible refine Kd.C_alloc ?_ _) | (with_reducible refine Kd.C_drewN ?_ _) | (with_reducible refine Kd.C_drew ?_))); (case side2 => exact HC0.out); rintro e w4 ⟨v1053, rfl, ho0, hb⟩; refine ⟨_, rfl, ?_⟩; have HO1054 := Aside0.mk (Kd.R_lower ho0 (below_size (bu HB.out))); replace HB := Aside0.mk (below_step (bu HB.out) hb); (try clear hb); (try clear hb2); (try clear hk); (try clear hi); (try clear ho0); obtain ⟨Ao5, co5, eo5⟩ := Kd.R_slice HO1054.out; subst eo5))
  go_ret
  exact ⟨by first | rfl | (simp [errW_none, errW_some] <;> rfl) | (simp [*, errW_none, errW_some] <;> rfl), by repeat (first | (with_reducible first | exact HB.out | apply below_alloc | apply pw_below_drewN | apply below_drew1) | exact HB.out)⟩
 ·
  rw [if_neg c3] at H
  have c3b0 : ((t1052.length : Int) == 0) = false := beq_eq_false_iff_ne.mpr c3
  have c3b1 : ((t1052.length : Int) != 0) = true := bne_iff_ne.mpr c3
  have c3b2 : ¬ (t1052 = []) := fun h_ => c3 (by rw [h_]; rfl)
  obtain ⟨ji6, hji6⟩ : ∃ j_ : Int, (wrap64 ((t1052.length : Int) - 1)) = j_ := ⟨_, rfl⟩
  replace H : (if 0 ≤ (ji6) then (if (ji6) < (t1052.length : Int) then (codewrightref01_Bits.l0 k (wrap64 (32 * (ji6))) (rd t1052 (ji6))) else (none)) else (none)) = some r := by first | (rw [hji6] at H; exact H) | (simp only [hji6] at H ⊢; exact H)
  (try rw [hji6] at A2)
  have hji6w : (IntKind.i64.wrap ((t1052.length : Int) - 1)) = ji6 := (i64_w _).trans hji6
  by_cases c7 : 0 ≤ (ji6)
  ·
   rw [if_pos c7] at H
   have c7b0 : decide (0 ≤ (ji6)) = true := decide_eq_true c7
   clear c7
   by_cases c8 : (ji6) < (t1052.length : Int)
   ·
    rw [if_pos c8] at H
    have c8b0 : decide ((ji6) < (t1052.length : Int)) = true := decide_eq_true c8
    clear c8
    have H' := Aside0.mk H
    clear H
    go_enter Try.func183, Try.ntmps183
    go_wp2_with (first | ((with_reducible refine gate_callee (f := 144) rfl ?_); refine goesL_ (some 6) rfl rfl Try.func144 (by kernel_rfl) rfl #[.slice A0 l0.length c0] rfl lu ?_; (with_reducible refine (codewrightref01_Trim.calls k _ _ l0 t1052 _ ?side1 ?side2 A2.out).mono ?_); (case side1 => repeat (first | exact HR0.out | (with_reducible refine Kd.C_alloc ?_ _) | (with_reducible refine Kd.C_drewN ?_ _) | (with_reducible refine Kd.C_drew ?_))); (case side2 => exact HC0.out); rintro e w9 ⟨v1053, rfl, ho0, hb⟩; refine ⟨_, rfl, ?_⟩; have HO1054 := Aside0.mk (Kd.R_lower ho0 (below_size (bu HB.out))); replace HB := Aside0.mk (below_step (bu HB.out) hb); (try clear hb); (try clear hb2); (try clear hk); (try clear hi); (try clear ho0); obtain ⟨Ao10, co10, eo10⟩ := Kd.R_slice HO1054.out; subst eo10; have p1055 : 0 ≤ ((ji6) : Int) := of_decide_eq_true (by first | (with_reducible assumption) | assumption); have q1055 : (ji6) < (t1052.length : Int) := of_decide_eq_true (by first | (with_reducible assumption) | assumption); obtain ⟨ad1055, e1055, hx1055_0⟩ := Kd.at_int (Kd.R_reads' HO1054.out).2.2 (ji6) p1055 q1055; cases e1055; replace p1055 := eq_true p1055; replace q1055 := eq_true q1055))
    go_loopg [3, 4] k (fun kq v3 v4 w' => ∃ (x3_1 : Int) (x4_1 : Int), v3 = .int .i64 x3_1 ∧ v4 = .int .u32 x4_1 ∧ Aside0 (codewrightref01_Bits.l0 kq x3_1 x4_1 = some r) ∧ Aside0 (kq ≤ k) ∧ Aside0 (Below w.heap.size w w'))
    case atStart => exact ⟨(wrap64 (32 * (ji6))), (rd t1052 (ji6)), (by first | rfl | (simp; done) | (simp only [← hji6] <;> (first | rfl | simp)) | (simp [*]; done)), (by first | rfl | (simp; done) | (simp only [← hji6] <;> (first | rfl | simp)) | (simp [*]; done)), H', ⟨Nat.le_refl _⟩, ⟨by repeat (first | (with_reducible first | exact HB.out | apply below_alloc | apply pw_below_drewN | apply below_drew1) | exact HB.out)⟩⟩
    case round =>
     clear H'
     try clear c1
     try clear p1
     try clear q1
     try clear hx1
     try clear p2
     try clear c3
     try clear c3b0
     try clear c3b1
     try clear c3b2
     try clear p6
     try clear c7
     try clear c7b0
     try clear c8
     try clear c8b0
     try clear p10
     try clear q10
     try clear hx10
     try clear hx1055_0
     try clear p1055
     try clear q1055
     obtain ⟨x3_1, x4_1, rfl, rfl, HA, HK1, HB⟩ := hrel
     cases gk with
     | zero => exact absurd HA.out (by simp [codewrightref01_Bits.l0])
     | succ k1 =>
      have H := HA.out
      clear HA
      simp only [codewrightref01_Bits.l0] at H
      by_cases c11 : x4_1 > 0
      ·
       rw [if_pos c11] at H
       have c11b0 : decide (0 < x4_1) = true := decide_eq_true c11
       clear c11
       have H' := Aside0.mk H
       clear H
       go_wp2
       go_roundg k1
       case measure => have := HK1.out; omega
       case rel => exact ⟨(wrap64 (x3_1 + 1)), ((Int.tdiv x4_1 2) % 4294967296), (by first | rfl | (simp; done) | (simp [*]; done)), (by first | rfl | (simp; done) | (simp [*]; done)), H', ⟨by have := HK1.out; omega⟩, ⟨by repeat (first | (with_reducible first | exact HB.out | apply below_alloc | apply pw_below_drewN | apply below_drew1) | exact HB.out)⟩⟩
      ·
       rw [if_neg c11] at H
       have c11b0 : decide (0 < x4_1) = false := decide_eq_false c11
       clear c11
       obtain rfl := Option.some.inj H
       go_wp2
       go_ret
       exact ⟨by first | rfl | (simp [errW_none, errW_some] <;> rfl) | (simp only [← hji6]; first | rfl | (simp [errW_none, errW_some] <;> rfl)) | (simp [*, errW_none, errW_some] <;> rfl), by repeat (first | (with_reducible first | exact HB.out | apply below_alloc | apply pw_below_drewN | apply below_drew1) | exact HB.out)⟩
   ·
    rw [if_neg c8] at H
    exact absurd H (by simp)
  ·
   rw [if_neg c7] at H
   exact absurd H (by simp)
end Go.Proofs.Ytecfdemglbfnoaa.PT
end
section
namespace Go.Proofs.Ytecfdemglbfnoaa.PT
open Go.RowKit Go.Proofs.YtecfdemglbfnoaaW.PrintWords Go.Proofs.YtecfdemglbfnoaaW.PrintLast Go.Proofs.YtecfdemglbfnoaaW.PrintMore
attribute [local go_sem] max2_int min2_int max_two min_two max_three min_three max_four min_four   -- for this text's walks alone
set_option linter.unusedVariables false
set_option linter.unusedSimpArgs false
def codewrightref01_shift.l0 : Nat → List Int → Int → List Int → Int → Int → Option (List Int)
 | 0, _, _, _, _, _ => none
 | k + 1, x0, x1, x5, x6, x7 => if x7 < (x0.length : Int) then (if 0 ≤ x7 then (if 0 ≤ (Int.tmod x1 32) then (if x5.length < 35184372088832 then (codewrightref01_shift.l0 k x0 x1 (x5 ++ [(Int.tmod (IntKind.u64.wrap ((shl .u64 (IntKind.u64.wrap (rd x0 x7)) (Int.tmod x1 32)) + x6)) 4294967296) % 4294967296]) (IntKind.u64.wrap (Int.tdiv (IntKind.u64.wrap ((shl .u64 (IntKind.u64.wrap (rd x0 x7)) (Int.tmod x1 32)) + x6)) 4294967296)) (wrap64 (x7 + 1))) else (none)) else (none)) else (none)) else (if x5.length < 35184372088832 then ((codewrightref01_Trim.f k (x5 ++ [(x6) % 4294967296])).bind fun t1066 => (some t1066)) else (none))
def codewrightref01_shift.f (k : Nat) (l0 : List Int) (a1 : Int) : Option (List Int) := if 0 ≤ (wrap64 (Int.tdiv a1 32)) then (if (wrap64 (Int.tdiv a1 32) : Int).toNat ≤ 70368744177664 then (codewrightref01_shift.l0 k l0 a1 (List.replicate (wrap64 (Int.tdiv a1 32) : Int).toNat 0) 0 0) else (none)) else (none)
set_option maxHeartbeats 8000000 in
set_option maxRecDepth 100000 in
theorem codewrightref01_shift.calls (k : Nat) (A0 : Option Addr) (c0 : Nat) (l0 : List Int) (a1 : Int) (r : List Int) (w : World) (hr0 : Kd.C (Kd.int .u32) w A0 l0.length l0) (hc0 : l0.length ≤ c0) (h : codewrightref01_shift.f k l0 a1 = some r) :
 Calls Try.prog 184 #[.slice A0 l0.length c0, .int .i64 a1] w fun e w' => ∃ v0_ : Value, e = .returned (v0_) ∧ Kd.R (Kd.int .u32) 48 w' w.heap.size (fun _ => True) v0_ r ∧ Below w.heap.size w w' := by
 have HR0 := Aside0.mk hr0
 have HC0 := Aside0.mk hc0
 clear hr0 hc0
 have HB := Aside0.mk (Below.refl w.heap.size w)
 have H : (if 0 ≤ (wrap64 (Int.tdiv a1 32)) then (if (wrap64 (Int.tdiv a1 32) : Int).toNat ≤ 70368744177664 then (codewrightref01_shift.l0 k l0 a1 (List.replicate (wrap64 (Int.tdiv a1 32) : Int).toNat 0) 0 0) else (none)) else (none)) = some r := h
 clear h
 obtain ⟨ji3, hji3⟩ : ∃ j_ : Int, (wrap64 (Int.tdiv a1 32)) = j_ := ⟨_, rfl⟩
 replace H : (if 0 ≤ (ji3) then (if (ji3 : Int).toNat ≤ 70368744177664 then (codewrightref01_shift.l0 k l0 a1 (List.replicate (ji3 : Int).toNat 0) 0 0) else (none)) else (none)) = some r := by first | (rw [hji3] at H; exact H) | (simp only [hji3] at H ⊢; exact H)
 have hji3w : (IntKind.i64.wrap (Int.tdiv a1 32)) = ji3 := (i64_w _).trans hji3
 by_cases c4 : 0 ≤ (ji3)
 ·
  rw [if_pos c4] at H
  have c4b0 := eq_true c4
  have c4b1 : decide (0 ≤ (ji3)) = true := decide_eq_true c4
  clear c4
  by_cases c5 : (ji3 : Int).toNat ≤ 70368744177664
  ·
   rw [if_pos c5] at H
   have c5b0 := eq_true c5
   have c5b1 : decide ((ji3 : Int).toNat ≤ 70368744177664) = true := decide_eq_true c5
   clear c5
   obtain ⟨y1056, hy1056⟩ : ∃ y_ : List Int, y_ = (List.replicate (ji3 : Int).toNat 0) := ⟨_, rfl⟩
   replace H : (codewrightref01_shift.l0 k l0 a1 y1056 0 0) = some r := by first | (rw [hy1056]; with_reducible exact H) | (have H2_ := (Option.bind_some _ _).symm.trans H; rw [hy1056]; with_reducible exact H2_) | (have H2_ := (Option.bind_some _ _).symm.trans H; with_reducible exact H2_) | with_reducible exact H | (rw [hy1056]; exact H) | exact H
   have Ny1056 := Aside0.mk hy1056
   clear hy1056
   have H' := Aside0.mk H
   clear H
   go_enter Try.func184, Try.ntmps184
   go_wp2_with (first | ((with_reducible refine gate_dst (N := 11) rfl ?_); refine Kd.R_make (Kd.int .u32) _ 48 rfl (N := 11) rfl 42 _ _ rfl ji3 rfl rfl Try.underlying42 (.int .u32 0) 4 info48 rfl (by decide) (by omega) 0 (ok := fun _ => True) (okp := fun _ => True) rfl (fun _ hk => hk) trivial (of_decide_eq_true (by first | (with_reducible assumption) | assumption)) (Nat.le_trans (Nat.mul_le_mul_right _ (of_decide_eq_true (by first | (with_reducible assumption) | assumption) : ji3.toNat ≤ 70368744177664)) (by omega)) (Below.refl _ _) (Nat.le_refl _) ?_; intro v1057 w6 ho7 hb hg_ hnew_; clear hg_ hnew_; (first | rw [← Ny1056.out] at ho7 | (simp only [Int.reduceToNat] at ho7; rw [← Ny1056.out] at ho7)); have HO1058 := Aside0.mk (Kd.R_lower ho7 (below_size (bu HB.out))); replace HB := Aside0.mk (below_step (bu HB.out) hb); clear hb ho7))
   go_loopg [5, 6, 7] k (fun kq v5 v6 v7 w' => ∃ (x5_1 : List Int) (x6_1 : Int) (x7_1 : Int), v6 = .int .u64 x6_1 ∧ v7 = .int .i64 x7_1 ∧ Aside0 (codewrightref01_shift.l0 kq l0 a1 x5_1 x6_1 x7_1 = some r) ∧ Aside0 (kq ≤ k) ∧ Aside0 (Kd.R (Kd.int .u32) 48 w' w.heap.size (fun _ => True) v5 x5_1) ∧ Aside0 (Below w.heap.size w w'))
   case atStart => exact ⟨(y1056), (0), (0), (by first | rfl | (simp; done) | (simp [*]; done)), (by first | rfl | (simp; done) | (simp [*]; done)), H', ⟨Nat.le_refl _⟩, ⟨by (with_reducible repeat (first | apply Kd.R_alloc | apply Kd.R_drewN | apply Kd.R_drew)); exact HO1058.out⟩, ⟨by repeat (first | (with_reducible first | exact HB.out | apply below_alloc | apply pw_below_drewN | apply below_drew1) | exact HB.out)⟩⟩
   case round =>
    clear H'
    try clear c1
    try clear p2
    try clear c4
    try clear c4b0
    try clear c4b1
    try clear c5
    try clear c5b0
    try clear c5b1
    try clear p6
    obtain ⟨x5_1, x6_1, x7_1, rfl, rfl, HA, HK1, HO_5, HB⟩ := hrel
    cases gk with
    | zero => exact absurd HA.out (by simp [codewrightref01_shift.l0])
    | succ k1 =>
     have H := HA.out
     clear HA
     simp only [codewrightref01_shift.l0] at H
     by_cases c8 : x7_1 < (l0.length : Int)
     ·
      rw [if_pos c8] at H
      have c8b0 : decide (x7_1 < (l0.length : Int)) = true := decide_eq_true c8
      clear c8
      by_cases c9 : 0 ≤ x7_1
      ·
       rw [if_pos c9] at H
       have c9b0 : decide (0 ≤ x7_1) = true := decide_eq_true c9
       clear c9
       obtain ⟨ji10, hji10⟩ : ∃ j_ : Int, (Int.tmod a1 32) = j_ := ⟨_, rfl⟩
       replace H : (if 0 ≤ (ji10) then (if x5_1.length < 35184372088832 then (codewrightref01_shift.l0 k1 l0 a1 (x5_1 ++ [(Int.tmod (IntKind.u64.wrap ((shl .u64 (IntKind.u64.wrap (rd l0 x7_1)) (ji10)) + x6_1)) 4294967296) % 4294967296]) (IntKind.u64.wrap (Int.tdiv (IntKind.u64.wrap ((shl .u64 (IntKind.u64.wrap (rd l0 x7_1)) (ji10)) + x6_1)) 4294967296)) (wrap64 (x7_1 + 1))) else (none)) else (none)) = some r := by first | (rw [hji10] at H; exact H) | (simp only [hji10] at H ⊢; exact H)
       by_cases c11 : 0 ≤ (ji10)
       ·
        rw [if_pos c11] at H
        have c11b0 := eq_true c11
        have c11b1 : decide (0 ≤ (ji10)) = true := decide_eq_true c11
        clear c11
        obtain ⟨ji12, hji12⟩ : ∃ j_ : Int, (shl .u64 (IntKind.u64.wrap (rd l0 x7_1)) (ji10)) = j_ := ⟨_, rfl⟩
        replace H : (if x5_1.length < 35184372088832 then (codewrightref01_shift.l0 k1 l0 a1 (x5_1 ++ [(Int.tmod (IntKind.u64.wrap ((ji12) + x6_1)) 4294967296) % 4294967296]) (IntKind.u64.wrap (Int.tdiv (IntKind.u64.wrap ((ji12) + x6_1)) 4294967296)) (wrap64 (x7_1 + 1))) else (none)) = some r := by first | (rw [hji12] at H; exact H) | (simp only [hji12] at H ⊢; exact H)
        have hji12_ : (IntKind.u64.wrap ((IntKind.u64.wrap (rd l0 x7_1)) * 2 ^ min (ji10).toNat 64)) = ji12 := hji12
        have hji12z : (ji10) ≤ 64 → (IntKind.u64.wrap ((IntKind.u64.wrap (rd l0 x7_1)) * 2 ^ (ji10).toNat)) = ji12 := shl_small hji12
        by_cases c13 : x5_1.length < 35184372088832
        ·
         rw [if_pos c13] at H
         have LMc13 := Aside0.mk c13
         clear c13
         obtain ⟨y1060, hy1060⟩ : ∃ y_ : List Int, y_ = (x5_1 ++ [(Int.tmod (IntKind.u64.wrap ((ji12) + x6_1)) 4294967296) % 4294967296]) := ⟨_, rfl⟩
         replace H : (codewrightref01_shift.l0 k1 l0 a1 y1060 (IntKind.u64.wrap (Int.tdiv (IntKind.u64.wrap ((ji12) + x6_1)) 4294967296)) (wrap64 (x7_1 + 1))) = some r := by first | (rw [hy1060]; with_reducible exact H) | (have H2_ := (Option.bind_some _ _).symm.trans H; rw [hy1060]; with_reducible exact H2_) | (have H2_ := (Option.bind_some _ _).symm.trans H; with_reducible exact H2_) | with_reducible exact H | (rw [hy1060]; exact H) | exact H
         have Ny1060 := Aside0.mk hy1060
         clear hy1060
         have H' := Aside0.mk H
         clear H
         have p1059 : 0 ≤ (x7_1 : Int) := of_decide_eq_true (by first | (with_reducible assumption) | assumption)
         have q1059 : x7_1 < (l0.length : Int) := of_decide_eq_true (by first | (with_reducible assumption) | assumption)
         obtain ⟨ad1059, e1059, hx1059_0⟩ := Kd.at_int HR0.out x7_1 p1059 q1059
         cases e1059
         replace hx1059_0 := (HB.out.cell (World.block_lt_of_cell? w _ hx1059_0)).trans hx1059_0
         replace p1059 := eq_true p1059
         replace q1059 := eq_true q1059
         go_wp2_with (first | ((with_reducible refine gate_builtin (b := .append) (xs := #[.tmp 28, .tmp 32]) rfl ?_); at_builtin; refine Kd.R_append (Kd.int .u32) (w0 := w) w.heap.size rfl (.tmp 28) (.tmp 32) 42 48 (.int .u32 0) 4 rfl Try.underlying42 info48 rfl (by decide) (by omega) u5 x5_1 ((Int.tmod (IntKind.u64.wrap ((ji12) + x6_1)) 4294967296) % 4294967296) [.int .u32 ((Int.tmod (IntKind.u64.wrap ((ji12) + x6_1)) 4294967296) % 4294967296)] (fun _ => True) (fun _ => False) rfl rfl ?aP (fun _ hk => hk.elim) ?aF ?aO ?aB ?aS ?aL ?_; (case aP => exact rfl); (case aB => exact (bu HB.out)); (case aF => exact (fun _ _ => trivial)); (case aO => exact (by (with_reducible repeat (first | apply Kd.R_alloc | apply Kd.R_drewN | apply Kd.R_drew)); exact HO_5.out)); (case aS => exact (below_size (bu HB.out))); (case aL => have := LMc13.out; omega); intro v1061 w14 ho hb hg hat; rw [← Ny1060.out] at ho; replace HB := Aside0.mk (hb); have HO1062 := Aside0.mk (ho); clear HO_5 ho hb hg hat))
         go_roundg k1
         case measure => have := HK1.out; omega
         case rel => exact ⟨(y1060), (IntKind.u64.wrap (Int.tdiv (IntKind.u64.wrap ((ji12) + x6_1)) 4294967296)), (wrap64 (x7_1 + 1)), (by first | rfl | (simp; done) | (simp only [← hji12] <;> (first | rfl | simp)) | (simp [*]; done)), (by first | rfl | (simp; done) | (simp [*]; done)), H', ⟨by have := HK1.out; omega⟩, ⟨by (with_reducible repeat (first | apply Kd.R_alloc | apply Kd.R_drewN | apply Kd.R_drew)); exact HO1062.out⟩, ⟨by repeat (first | (with_reducible first | exact HB.out | apply below_alloc | apply pw_below_drewN | apply below_drew1) | exact HB.out)⟩⟩
        ·
         rw [if_neg c13] at H
         exact absurd H (by simp)
       ·
        rw [if_neg c11] at H
        exact absurd H (by simp)
      ·
       rw [if_neg c9] at H
       exact absurd H (by simp)
     ·
      rw [if_neg c8] at H
      have c8b0 : decide (x7_1 < (l0.length : Int)) = false := decide_eq_false c8
      clear c8
      by_cases c15 : x5_1.length < 35184372088832
      ·
       rw [if_pos c15] at H
       have LMc15 := Aside0.mk c15
       clear c15
       obtain ⟨y1063, hy1063⟩ : ∃ y_ : List Int, y_ = (x5_1 ++ [(x6_1) % 4294967296]) := ⟨_, rfl⟩
       replace H : ((codewrightref01_Trim.f k1 y1063).bind fun t1066 => (some t1066)) = some r := by first | (rw [hy1063]; with_reducible exact H) | (have H2_ := (Option.bind_some _ _).symm.trans H; rw [hy1063]; with_reducible exact H2_) | (have H2_ := (Option.bind_some _ _).symm.trans H; with_reducible exact H2_) | with_reducible exact H | (rw [hy1063]; exact H) | exact H
       have Ny1063 := Aside0.mk hy1063
       clear hy1063
       replace H := Option.bind_eq_some_iff.mp H
       obtain ⟨t1066, A160, H⟩ := H
       replace H : (some t1066) = some r := H
       have A16 := Aside0.mk A160
       clear A160
       obtain rfl := Option.some.inj H
       go_wp2_with (first | ((with_reducible refine gate_builtin (b := .append) (xs := #[.tmp 36, .tmp 39]) rfl ?_); at_builtin; refine Kd.R_append (Kd.int .u32) (w0 := w) w.heap.size rfl (.tmp 36) (.tmp 39) 42 48 (.int .u32 0) 4 rfl Try.underlying42 info48 rfl (by decide) (by omega) u5 x5_1 ((x6_1) % 4294967296) [.int .u32 ((x6_1) % 4294967296)] (fun _ => True) (fun _ => False) rfl rfl ?aP (fun _ hk => hk.elim) ?aF ?aO ?aB ?aS ?aL ?_; (case aP => exact rfl); (case aB => exact (bu HB.out)); (case aF => exact (fun _ _ => trivial)); (case aO => exact (by (with_reducible repeat (first | apply Kd.R_alloc | apply Kd.R_drewN | apply Kd.R_drew)); exact HO_5.out)); (case aS => exact (below_size (bu HB.out))); (case aL => have := LMc15.out; omega); intro v1064 w17 ho hb hg hat; rw [← Ny1063.out] at ho; replace HB := Aside0.mk (hb); have HO1065 := Aside0.mk (ho); clear HO_5 ho hb hg hat; obtain ⟨Ao18, co18, eo18⟩ := Kd.R_slice HO1065.out; subst eo18) | ((with_reducible refine gate_callee (f := 144) rfl ?_); refine goesL_ (some 41) rfl rfl Try.func144 (by kernel_rfl) rfl #[.slice Ao18 y1063.length co18] rfl lu ?_; (with_reducible refine (codewrightref01_Trim.calls k1 _ _ y1063 t1066 _ ?side1 ?side2 A16.out).mono ?_); (case side1 => repeat (first | exact (Kd.R_reads' HO1065.out).2.2 | (with_reducible refine Kd.C_alloc ?_ _) | (with_reducible refine Kd.C_drewN ?_ _) | (with_reducible refine Kd.C_drew ?_))); (case side2 => exact (Kd.R_reads' HO1065.out).2.1); rintro e w19 ⟨v1067, rfl, ho0, hb⟩; refine ⟨_, rfl, ?_⟩; have HO1068 := Aside0.mk (Kd.R_lower (Kd.R_new' ho0 (Kd.R_lt (by (with_reducible repeat (first | apply Kd.R_alloc | apply Kd.R_drewN | apply Kd.R_drew)); exact HO1065.out))) (below_size (bu HB.out))); replace HO1065 := Aside0.mk (Kd.R_elder' (by (with_reducible repeat (first | apply Kd.R_alloc | apply Kd.R_drewN | apply Kd.R_drew)); exact HO1065.out) (Kd.R_base ho0) hb); replace HB := Aside0.mk (below_step (bu HB.out) hb); (try clear hb); (try clear hb2); (try clear hk); (try clear hi); (try clear ho0)))
       go_ret
       exact ⟨_, by first | rfl | (simp [errW_none, errW_some] <;> rfl) | (simp only [← hji3]; first | rfl | (simp [errW_none, errW_some] <;> rfl)) | (simp [*, errW_none, errW_some] <;> rfl), by (with_reducible repeat (first | apply Kd.R_alloc | apply Kd.R_drewN | apply Kd.R_drew)); exact Kd.R_mono HO1068.out (fun _ hk => trivial), by repeat (first | (with_reducible first | exact HB.out | apply below_alloc | apply pw_below_drewN | apply below_drew1) | exact HB.out)⟩
      ·
       rw [if_neg c15] at H
       exact absurd H (by simp)
  ·
   rw [if_neg c5] at H
   exact absurd H (by simp)
 ·
  rw [if_neg c4] at H
  exact absurd H (by simp)
end Go.Proofs.Ytecfdemglbfnoaa.PT
end
section
namespace Go.Proofs.Ytecfdemglbfnoaa.PT
open Go.RowKit Go.Proofs.YtecfdemglbfnoaaW.PrintWords Go.Proofs.YtecfdemglbfnoaaW.PrintLast Go.Proofs.YtecfdemglbfnoaaW.PrintMore
attribute [local go_sem] max2_int min2_int max_two min_two max_three min_three max_four min_four   -- for this text's walks alone
set_option linter.unusedVariables false
set_option linter.unusedSimpArgs false
def codewrightref01_DivMod.l0 : Nat → List Int → List Int → List Int → Int → Option (List Int × List Int)
 | 0, _, _, _, _ => none
 | k + 1, x1, x4, x5, x7 => if x7 ≥ 0 then ((codewrightref01_shift.f k x1 x7).bind fun t1077 => ((codewrightref01_Cmp.f k x5 t1077).bind fun t1080 => (if t1080 ≥ 0 then ((codewrightref01_Sub.f k x5 t1077).bind fun t1081 => ((codewrightref01_shift.f k (([1] : List Int)) x7).bind fun t1087 => ((codewrightref01_Add.f k x4 t1087).bind fun t1090 => (codewrightref01_DivMod.l0 k x1 t1090 t1081 (wrap64 (x7 - 1)))))) else (codewrightref01_DivMod.l0 k x1 x4 x5 (wrap64 (x7 - 1)))))) else ((codewrightref01_Trim.f k x4).bind fun t1074 => (some (t1074, x5)))
def codewrightref01_DivMod.f (k : Nat) (l0 : List Int) (l1 : List Int) : Option (List Int × List Int) := (codewrightref01_Trim.f k l0).bind fun t1069 => ((codewrightref01_Bits.f k l0).bind fun t1072 => ((codewrightref01_Bits.f k l1).bind fun t1073 => (codewrightref01_DivMod.l0 k l1 ([] : List Int) t1069 (wrap64 (t1072 - t1073)))))
set_option maxHeartbeats 8000000 in
set_option maxRecDepth 100000 in
theorem codewrightref01_DivMod.calls (k : Nat) (A0 : Option Addr) (c0 : Nat) (l0 : List Int) (A1 : Option Addr) (c1 : Nat) (l1 : List Int) (r1 : List Int) (r2 : List Int) (w : World) (hr0 : Kd.C (Kd.int .u32) w A0 l0.length l0) (hc0 : l0.length ≤ c0) (hr1 : Kd.C (Kd.int .u32) w A1 l1.length l1) (hc1 : l1.length ≤ c1) (h : codewrightref01_DivMod.f k l0 l1 = some (r1, r2)) :
 Calls Try.prog 157 #[.slice A0 l0.length c0, .slice A1 l1.length c1] w fun e w' => ∃ v0_ v1_ : Value, e = .returned (.tuple #[v0_, v1_]) ∧ Kd.R (Kd.int .u32) 48 w' w.heap.size (fun k_ => some k_ ≠ (v1_ : Value).ownBlock) v0_ r1 ∧ Kd.R (Kd.int .u32) 48 w' w.heap.size (fun k_ => some k_ ≠ (v0_ : Value).ownBlock) v1_ r2 ∧ Below w.heap.size w w' := by
 have HR0 := Aside0.mk hr0
 have HC0 := Aside0.mk hc0
 clear hr0 hc0
 have HR1 := Aside0.mk hr1
 have HC1 := Aside0.mk hc1
 clear hr1 hc1
 have HB := Aside0.mk (Below.refl w.heap.size w)
 have H : ((codewrightref01_Trim.f k l0).bind fun t1069 => ((codewrightref01_Bits.f k l0).bind fun t1072 => ((codewrightref01_Bits.f k l1).bind fun t1073 => (codewrightref01_DivMod.l0 k l1 ([] : List Int) t1069 (wrap64 (t1072 - t1073)))))) = some (r1, r2) := h
 clear h
 replace H := Option.bind_eq_some_iff.mp H
 obtain ⟨t1069, A30, H⟩ := H
 replace H : ((codewrightref01_Bits.f k l0).bind fun t1072 => ((codewrightref01_Bits.f k l1).bind fun t1073 => (codewrightref01_DivMod.l0 k l1 ([] : List Int) t1069 (wrap64 (t1072 - t1073))))) = some (r1, r2) := H
 have A3 := Aside0.mk A30
 clear A30
 replace H := Option.bind_eq_some_iff.mp H
 obtain ⟨t1072, A40, H⟩ := H
 replace H : ((codewrightref01_Bits.f k l1).bind fun t1073 => (codewrightref01_DivMod.l0 k l1 ([] : List Int) t1069 (wrap64 (t1072 - t1073)))) = some (r1, r2) := H
 have A4 := Aside0.mk A40
 clear A40
 replace H := Option.bind_eq_some_iff.mp H
 obtain ⟨t1073, A50, H⟩ := H
 replace H : (codewrightref01_DivMod.l0 k l1 ([] : List Int) t1069 (wrap64 (t1072 - t1073))) = some (r1, r2) := H
 have A5 := Aside0.mk A50
 clear A50
 have H' := Aside0.mk H
 clear H
 go_enter Try.func157, Try.ntmps157
 go_wp2_with (first | ((with_reducible refine gate_callee (f := 144) rfl ?_); refine goesL_ (some 10) rfl rfl Try.func144 (by kernel_rfl) rfl #[.slice A0 l0.length c0] rfl lu ?_; (with_reducible refine (codewrightref01_Trim.calls k _ _ l0 t1069 _ ?side1 ?side2 A3.out).mono ?_); (case side1 => repeat (first | exact HR0.out | (with_reducible refine Kd.C_alloc ?_ _) | (with_reducible refine Kd.C_drewN ?_ _) | (with_reducible refine Kd.C_drew ?_))); (case side2 => exact HC0.out); rintro e w6 ⟨v1070, rfl, ho0, hb⟩; refine ⟨_, rfl, ?_⟩; have HO1071 := Aside0.mk (Kd.R_lower ho0 (below_size (bu HB.out))); replace HB := Aside0.mk (below_step (bu HB.out) hb); (try clear hb); (try clear hb2); (try clear hk); (try clear hi); (try clear ho0)) | ((with_reducible refine gate_callee (f := 183) rfl ?_); refine goesL_ (some 12) rfl rfl Try.func183 (by kernel_rfl) rfl #[.slice A0 l0.length c0] rfl lu ?_; (with_reducible refine (codewrightref01_Bits.calls k _ _ l0 t1072 _ ?side1 ?side2 A4.out).mono ?_); (case side1 => repeat (first | exact (Kd.C_below HR0.out HB.out) | (with_reducible refine Kd.C_alloc ?_ _) | (with_reducible refine Kd.C_drewN ?_ _) | (with_reducible refine Kd.C_drew ?_))); (case side2 => exact HC0.out); rintro e w7 ⟨rfl, hb⟩; refine ⟨_, rfl, ?_⟩; replace HO1071 := Aside0.mk (Kd.R_below (by (with_reducible repeat (first | apply Kd.R_alloc | apply Kd.R_drewN | apply Kd.R_drew)); exact HO1071.out) hb); replace HB := Aside0.mk (below_step (bu HB.out) hb); (try clear hb); (try clear hb2); (try clear hk); (try clear hi)) | ((with_reducible refine gate_callee (f := 183) rfl ?_); refine goesL_ (some 14) rfl rfl Try.func183 (by kernel_rfl) rfl #[.slice A1 l1.length c1] rfl lu ?_; (with_reducible refine (codewrightref01_Bits.calls k _ _ l1 t1073 _ ?side1 ?side2 A5.out).mono ?_); (case side1 => repeat (first | exact (Kd.C_below HR1.out HB.out) | (with_reducible refine Kd.C_alloc ?_ _) | (with_reducible refine Kd.C_drewN ?_ _) | (with_reducible refine Kd.C_drew ?_))); (case side2 => exact HC1.out); rintro e w8 ⟨rfl, hb⟩; refine ⟨_, rfl, ?_⟩; replace HO1071 := Aside0.mk (Kd.R_below (by (with_reducible repeat (first | apply Kd.R_alloc | apply Kd.R_drewN | apply Kd.R_drew)); exact HO1071.out) hb); replace HB := Aside0.mk (below_step (bu HB.out) hb); (try clear hb); (try clear hb2); (try clear hk); (try clear hi)))
 go_loopg [4, 5, 7] k (fun kq v4 v5 v7 w' => ∃ (x4_1 : List Int) (x5_1 : List Int) (x7_1 : Int), v7 = .int .i64 x7_1 ∧ Aside0 (codewrightref01_DivMod.l0 kq l1 x4_1 x5_1 x7_1 = some (r1, r2)) ∧ Aside0 (kq ≤ k) ∧ Aside0 (Kd.R (Kd.int .u32) 48 w' w.heap.size (fun k_ => some k_ ≠ (v5 : Value).ownBlock) v4 x4_1) ∧ Aside0 (Kd.R (Kd.int .u32) 48 w' w.heap.size (fun k_ => some k_ ≠ (v4 : Value).ownBlock) v5 x5_1) ∧ Aside0 (Below w.heap.size w w'))
 case atStart => exact ⟨(([] : List Int)), (t1069), (wrap64 (t1072 - t1073)), (by first | rfl | (simp; done) | (simp [*]; done)), H', ⟨Nat.le_refl _⟩, ⟨by first | exact Kd.R_nil _ _ _ _ _ | exact Kd.N_nil _ _ _ _ _ | exact Kd.V_nil _ _ _ _ _ | exact Kd.Q_nil _ _ _ _ _ | exact Kd.S_nil _ _ _ _ _⟩, ⟨by (with_reducible repeat (first | apply Kd.R_alloc | apply Kd.R_drewN | apply Kd.R_drew)); exact Kd.R_mono HO1071.out (fun _ hk => (by simp [Value.ownBlock]))⟩, ⟨by repeat (first | (with_reducible first | exact HB.out | apply below_alloc | apply pw_below_drewN | apply below_drew1) | exact HB.out)⟩⟩
 case round =>
  clear H'
  try clear c1
  try clear p2
  try clear p6
  obtain ⟨x4_1, x5_1, x7_1, rfl, HA, HK1, HO_4, HO_5, HB⟩ := hrel
  cases gk with
  | zero => exact absurd HA.out (by simp [codewrightref01_DivMod.l0])
  | succ k1 =>
   have H := HA.out
   clear HA
   simp only [codewrightref01_DivMod.l0] at H
   by_cases c9 : x7_1 ≥ 0
   ·
    rw [if_pos c9] at H
    have c9b0 : decide (0 ≤ x7_1) = true := decide_eq_true c9
    clear c9
    replace H := Option.bind_eq_some_iff.mp H
    obtain ⟨t1077, A100, H⟩ := H
    replace H : ((codewrightref01_Cmp.f k1 x5_1 t1077).bind fun t1080 => (if t1080 ≥ 0 then ((codewrightref01_Sub.f k1 x5_1 t1077).bind fun t1081 => ((codewrightref01_shift.f k1 (([1] : List Int)) x7_1).bind fun t1087 => ((codewrightref01_Add.f k1 x4_1 t1087).bind fun t1090 => (codewrightref01_DivMod.l0 k1 l1 t1090 t1081 (wrap64 (x7_1 - 1)))))) else (codewrightref01_DivMod.l0 k1 l1 x4_1 x5_1 (wrap64 (x7_1 - 1))))) = some (r1, r2) := H
    have A10 := Aside0.mk A100
    clear A100
    replace H := Option.bind_eq_some_iff.mp H
    obtain ⟨t1080, A110, H⟩ := H
    replace H : (if t1080 ≥ 0 then ((codewrightref01_Sub.f k1 x5_1 t1077).bind fun t1081 => ((codewrightref01_shift.f k1 (([1] : List Int)) x7_1).bind fun t1087 => ((codewrightref01_Add.f k1 x4_1 t1087).bind fun t1090 => (codewrightref01_DivMod.l0 k1 l1 t1090 t1081 (wrap64 (x7_1 - 1)))))) else (codewrightref01_DivMod.l0 k1 l1 x4_1 x5_1 (wrap64 (x7_1 - 1)))) = some (r1, r2) := H
    have A11 := Aside0.mk A110
    clear A110
    by_cases c12 : t1080 ≥ 0
    ·
     rw [if_pos c12] at H
     have c12b0 : decide (0 ≤ t1080) = true := decide_eq_true c12
     clear c12
     replace H := Option.bind_eq_some_iff.mp H
     obtain ⟨t1081, A130, H⟩ := H
     replace H : ((codewrightref01_shift.f k1 (([1] : List Int)) x7_1).bind fun t1087 => ((codewrightref01_Add.f k1 x4_1 t1087).bind fun t1090 => (codewrightref01_DivMod.l0 k1 l1 t1090 t1081 (wrap64 (x7_1 - 1))))) = some (r1, r2) := H
     have A13 := Aside0.mk A130
     clear A130
     obtain ⟨y1084, hy1084⟩ : ∃ y_ : List Int, y_ = (([1] : List Int)) := ⟨_, rfl⟩
     replace H : ((codewrightref01_shift.f k1 y1084 x7_1).bind fun t1087 => ((codewrightref01_Add.f k1 x4_1 t1087).bind fun t1090 => (codewrightref01_DivMod.l0 k1 l1 t1090 t1081 (wrap64 (x7_1 - 1))))) = some (r1, r2) := by first | (rw [hy1084]; with_reducible exact H) | (have H2_ := (Option.bind_some _ _).symm.trans H; rw [hy1084]; with_reducible exact H2_) | (have H2_ := (Option.bind_some _ _).symm.trans H; with_reducible exact H2_) | with_reducible exact H | (rw [hy1084]; exact H) | exact H
     have Ny1084 := Aside0.mk hy1084
     clear hy1084
     replace H := Option.bind_eq_some_iff.mp H
     obtain ⟨t1087, A140, H⟩ := H
     replace H : ((codewrightref01_Add.f k1 x4_1 t1087).bind fun t1090 => (codewrightref01_DivMod.l0 k1 l1 t1090 t1081 (wrap64 (x7_1 - 1)))) = some (r1, r2) := H
     have A14 := Aside0.mk A140
     clear A140
     replace H := Option.bind_eq_some_iff.mp H
     obtain ⟨t1090, A150, H⟩ := H
     replace H : (codewrightref01_DivMod.l0 k1 l1 t1090 t1081 (wrap64 (x7_1 - 1))) = some (r1, r2) := H
     have A15 := Aside0.mk A150
     clear A150
     have H' := Aside0.mk H
     clear H
     go_wp2_with (first | ((with_reducible refine gate_callee (f := 184) rfl ?_); refine goesL_ (some 23) rfl rfl Try.func184 (by kernel_rfl) rfl #[.slice A1 l1.length c1, .int .i64 x7_1] rfl lu ?_; (with_reducible refine (codewrightref01_shift.calls k1 _ _ l1 x7_1 t1077 _ ?side1 ?side2 A10.out).mono ?_); (case side1 => repeat (first | exact (Kd.C_below HR1.out HB.out) | (with_reducible refine Kd.C_alloc ?_ _) | (with_reducible refine Kd.C_drewN ?_ _) | (with_reducible refine Kd.C_drew ?_))); (case side2 => exact HC1.out); rintro e w16 ⟨v1078, rfl, ho0, hb⟩; refine ⟨_, rfl, ?_⟩; have HO1079 := Aside0.mk (Kd.R_lower (Kd.R_new' (Kd.R_new' ho0 (Kd.R_lt (by (with_reducible repeat (first | apply Kd.R_alloc | apply Kd.R_drewN | apply Kd.R_drew)); exact HO_4.out))) (Kd.R_lt (by (with_reducible repeat (first | apply Kd.R_alloc | apply Kd.R_drewN | apply Kd.R_drew)); exact HO_5.out))) (below_size (bu HB.out))); replace HO_4 := Aside0.mk (Kd.R_elder' (by (with_reducible repeat (first | apply Kd.R_alloc | apply Kd.R_drewN | apply Kd.R_drew)); exact HO_4.out) (Kd.R_base ho0) hb); replace HO_5 := Aside0.mk (Kd.R_elder' (by (with_reducible repeat (first | apply Kd.R_alloc | apply Kd.R_drewN | apply Kd.R_drew)); exact HO_5.out) (Kd.R_base ho0) hb); replace HB := Aside0.mk (below_step (bu HB.out) hb); (try clear hb); (try clear hb2); (try clear hk); (try clear hi); (try clear ho0); obtain ⟨Ao17, co17, eo17⟩ := Kd.R_slice HO_5.out; subst eo17; obtain ⟨Ao18, co18, eo18⟩ := Kd.R_slice HO1079.out; subst eo18) | ((with_reducible refine gate_callee (f := 59) rfl ?_); refine goesL_ (some 26) rfl rfl Try.func59 (by kernel_rfl) rfl #[.slice Ao17 x5_1.length co17, .slice Ao18 t1077.length co18] rfl lu ?_; (with_reducible refine (codewrightref01_Cmp.calls k1 _ _ x5_1 _ _ t1077 t1080 _ ?side1 ?side2 ?side3 ?side4 A11.out).mono ?_); (case side1 => repeat (first | exact (Kd.R_reads' HO_5.out).2.2 | (with_reducible refine Kd.C_alloc ?_ _) | (with_reducible refine Kd.C_drewN ?_ _) | (with_reducible refine Kd.C_drew ?_))); (case side2 => exact (Kd.R_reads' HO_5.out).2.1); (case side3 => repeat (first | exact (Kd.R_reads' HO1079.out).2.2 | (with_reducible refine Kd.C_alloc ?_ _) | (with_reducible refine Kd.C_drewN ?_ _) | (with_reducible refine Kd.C_drew ?_))); (case side4 => exact (Kd.R_reads' HO1079.out).2.1); rintro e w19 ⟨rfl, hb⟩; refine ⟨_, rfl, ?_⟩; replace HO_4 := Aside0.mk (Kd.R_below (by (with_reducible repeat (first | apply Kd.R_alloc | apply Kd.R_drewN | apply Kd.R_drew)); exact HO_4.out) hb); replace HO_5 := Aside0.mk (Kd.R_below (by (with_reducible repeat (first | apply Kd.R_alloc | apply Kd.R_drewN | apply Kd.R_drew)); exact HO_5.out) hb); replace HO1079 := Aside0.mk (Kd.R_below (by (with_reducible repeat (first | apply Kd.R_alloc | apply Kd.R_drewN | apply Kd.R_drew)); exact HO1079.out) hb); replace HB := Aside0.mk (below_step (bu HB.out) hb); (try clear hb); (try clear hb2); (try clear hk); (try clear hi)) | ((with_reducible refine gate_callee (f := 166) rfl ?_); refine goesL_ (some 30) rfl rfl Try.func166 (by kernel_rfl) rfl #[.slice Ao17 x5_1.length co17, .slice Ao18 t1077.length co18] rfl lu ?_; (with_reducible refine (codewrightref01_Sub.calls k1 _ _ x5_1 _ _ t1077 t1081 _ ?side1 ?side2 ?side3 ?side4 A13.out).mono ?_); (case side1 => repeat (first | exact (Kd.R_reads' HO_5.out).2.2 | (with_reducible refine Kd.C_alloc ?_ _) | (with_reducible refine Kd.C_drewN ?_ _) | (with_reducible refine Kd.C_drew ?_))); (case side2 => exact (Kd.R_reads' HO_5.out).2.1); (case side3 => repeat (first | exact (Kd.R_reads' HO1079.out).2.2 | (with_reducible refine Kd.C_alloc ?_ _) | (with_reducible refine Kd.C_drewN ?_ _) | (with_reducible refine Kd.C_drew ?_))); (case side4 => exact (Kd.R_reads' HO1079.out).2.1); rintro e w20 ⟨v1082, rfl, ho0, hb⟩; refine ⟨_, rfl, ?_⟩; have HO1083 := Aside0.mk (Kd.R_lower (Kd.R_new' (Kd.R_new' (Kd.R_new' ho0 (Kd.R_lt (by (with_reducible repeat (first | apply Kd.R_alloc | apply Kd.R_drewN | apply Kd.R_drew)); exact HO_4.out))) (Kd.R_lt (by (with_reducible repeat (first | apply Kd.R_alloc | apply Kd.R_drewN | apply Kd.R_drew)); exact HO_5.out))) (Kd.R_lt (by (with_reducible repeat (first | apply Kd.R_alloc | apply Kd.R_drewN | apply Kd.R_drew)); exact HO1079.out))) (below_size (bu HB.out))); replace HO_4 := Aside0.mk (Kd.R_elder' (by (with_reducible repeat (first | apply Kd.R_alloc | apply Kd.R_drewN | apply Kd.R_drew)); exact HO_4.out) (Kd.R_base ho0) hb); replace HO_5 := Aside0.mk (Kd.R_elder' (by (with_reducible repeat (first | apply Kd.R_alloc | apply Kd.R_drewN | apply Kd.R_drew)); exact HO_5.out) (Kd.R_base ho0) hb); replace HO1079 := Aside0.mk (Kd.R_elder' (by (with_reducible repeat (first | apply Kd.R_alloc | apply Kd.R_drewN | apply Kd.R_drew)); exact HO1079.out) (Kd.R_base ho0) hb); replace HB := Aside0.mk (below_step (bu HB.out) hb); (try clear hb); (try clear hb2); (try clear hk); (try clear hi); (try clear ho0)) | ((with_reducible refine gate_dst (N := 32) rfl ?_); refine Kd.R_lit (Kd.int .u32) _ 48 ?hg (N := 32) ?hd (xs := ([1] : List Int)) (inner := [.int .u32 1]) (ok := fun _ => True) (okp := fun _ => True) ?hr ?hp (fun _ hk => hk) trivial (Below.refl _ _) (Nat.le_refl _) (by simp) ?_; (case hd => rfl); (case hg => rfl); (case hr => first | (go_simp; done) | (go_simp; rfl)); (case hp => exact (Reps.one (show Kd.M (Kd.int .u32) _ _ _ 1 [.int .u32 1] from rfl) (Reps.none _ _))); intro v1085 w21 ho22 hb hg_ hnew_; clear hg_ hnew_; (first | rw [← Ny1084.out] at ho22 | (simp only [Int.reduceToNat] at ho22; rw [← Ny1084.out] at ho22)); have HO1086 := Aside0.mk (Kd.R_lower (Kd.R_new' (Kd.R_new' (Kd.R_new' (Kd.R_new' ho22 (Kd.R_lt (by (with_reducible repeat (first | apply Kd.R_alloc | apply Kd.R_drewN | apply Kd.R_drew)); exact HO_4.out))) (Kd.R_lt (by (with_reducible repeat (first | apply Kd.R_alloc | apply Kd.R_drewN | apply Kd.R_drew)); exact HO_5.out))) (Kd.R_lt (by (with_reducible repeat (first | apply Kd.R_alloc | apply Kd.R_drewN | apply Kd.R_drew)); exact HO1079.out))) (Kd.R_lt (by (with_reducible repeat (first | apply Kd.R_alloc | apply Kd.R_drewN | apply Kd.R_drew)); exact HO1083.out))) (below_size (bu HB.out))); replace HO_4 := Aside0.mk (Kd.R_elder' (by (with_reducible repeat (first | apply Kd.R_alloc | apply Kd.R_drewN | apply Kd.R_drew)); exact HO_4.out) (Kd.R_base ho22) hb); replace HO_5 := Aside0.mk (Kd.R_elder' (by (with_reducible repeat (first | apply Kd.R_alloc | apply Kd.R_drewN | apply Kd.R_drew)); exact HO_5.out) (Kd.R_base ho22) hb); replace HO1079 := Aside0.mk (Kd.R_elder' (by (with_reducible repeat (first | apply Kd.R_alloc | apply Kd.R_drewN | apply Kd.R_drew)); exact HO1079.out) (Kd.R_base ho22) hb); replace HO1083 := Aside0.mk (Kd.R_elder' (by (with_reducible repeat (first | apply Kd.R_alloc | apply Kd.R_drewN | apply Kd.R_drew)); exact HO1083.out) (Kd.R_base ho22) hb); replace HB := Aside0.mk (below_step (bu HB.out) hb); clear hb ho22; obtain ⟨Ao23, co23, eo23⟩ := Kd.R_slice HO1086.out; subst eo23) | ((with_reducible refine gate_callee (f := 184) rfl ?_); refine goesL_ (some 34) rfl rfl Try.func184 (by kernel_rfl) rfl #[.slice Ao23 y1084.length co23, .int .i64 x7_1] rfl lu ?_; (with_reducible refine (codewrightref01_shift.calls k1 _ _ y1084 x7_1 t1087 _ ?side1 ?side2 A14.out).mono ?_); (case side1 => repeat (first | exact (Kd.R_reads' HO1086.out).2.2 | (with_reducible refine Kd.C_alloc ?_ _) | (with_reducible refine Kd.C_drewN ?_ _) | (with_reducible refine Kd.C_drew ?_))); (case side2 => exact (Kd.R_reads' HO1086.out).2.1); rintro e w24 ⟨v1088, rfl, ho0, hb⟩; refine ⟨_, rfl, ?_⟩; have HO1089 := Aside0.mk (Kd.R_lower (Kd.R_new' (Kd.R_new' (Kd.R_new' (Kd.R_new' (Kd.R_new' ho0 (Kd.R_lt (by (with_reducible repeat (first | apply Kd.R_alloc | apply Kd.R_drewN | apply Kd.R_drew)); exact HO_4.out))) (Kd.R_lt (by (with_reducible repeat (first | apply Kd.R_alloc | apply Kd.R_drewN | apply Kd.R_drew)); exact HO_5.out))) (Kd.R_lt (by (with_reducible repeat (first | apply Kd.R_alloc | apply Kd.R_drewN | apply Kd.R_drew)); exact HO1079.out))) (Kd.R_lt (by (with_reducible repeat (first | apply Kd.R_alloc | apply Kd.R_drewN | apply Kd.R_drew)); exact HO1083.out))) (Kd.R_lt (by (with_reducible repeat (first | apply Kd.R_alloc | apply Kd.R_drewN | apply Kd.R_drew)); exact HO1086.out))) (below_size (bu HB.out))); replace HO_4 := Aside0.mk (Kd.R_elder' (by (with_reducible repeat (first | apply Kd.R_alloc | apply Kd.R_drewN | apply Kd.R_drew)); exact HO_4.out) (Kd.R_base ho0) hb); replace HO_5 := Aside0.mk (Kd.R_elder' (by (with_reducible repeat (first | apply Kd.R_alloc | apply Kd.R_drewN | apply Kd.R_drew)); exact HO_5.out) (Kd.R_base ho0) hb); replace HO1079 := Aside0.mk (Kd.R_elder' (by (with_reducible repeat (first | apply Kd.R_alloc | apply Kd.R_drewN | apply Kd.R_drew)); exact HO1079.out) (Kd.R_base ho0) hb); replace HO1083 := Aside0.mk (Kd.R_elder' (by (with_reducible repeat (first | apply Kd.R_alloc | apply Kd.R_drewN | apply Kd.R_drew)); exact HO1083.out) (Kd.R_base ho0) hb); replace HO1086 := Aside0.mk (Kd.R_elder' (by (with_reducible repeat (first | apply Kd.R_alloc | apply Kd.R_drewN | apply Kd.R_drew)); exact HO1086.out) (Kd.R_base ho0) hb); replace HB := Aside0.mk (below_step (bu HB.out) hb); (try clear hb); (try clear hb2); (try clear hk); (try clear hi); (try clear ho0); obtain ⟨Ao25, co25, eo25⟩ := Kd.R_slice HO_4.out; subst eo25; obtain ⟨Ao26, co26, eo26⟩ := Kd.R_slice HO1089.out; subst eo26) | ((with_reducible refine gate_callee (f := 55) rfl ?_); refine goesL_ (some 35) rfl rfl Try.func55 (by kernel_rfl) rfl #[.slice Ao25 x4_1.length co25, .slice Ao26 t1087.length co26] rfl lu ?_; (with_reducible refine (codewrightref01_Add.calls k1 _ _ x4_1 _ _ t1087 t1090 _ ?side1 ?side2 ?side3 ?side4 A15.out).mono ?_); (case side1 => repeat (first | exact (Kd.R_reads' HO_4.out).2.2 | (with_reducible refine Kd.C_alloc ?_ _) | (with_reducible refine Kd.C_drewN ?_ _) | (with_reducible refine Kd.C_drew ?_))); (case side2 => exact (Kd.R_reads' HO_4.out).2.1); (case side3 => repeat (first | exact (Kd.R_reads' HO1089.out).2.2 | (with_reducible refine Kd.C_alloc ?_ _) | (with_reducible refine Kd.C_drewN ?_ _) | (with_reducible refine Kd.C_drew ?_))); (case side4 => exact (Kd.R_reads' HO1089.out).2.1); rintro e w27 ⟨v1091, rfl, ho0, hb⟩; refine ⟨_, rfl, ?_⟩; have HO1092 := Aside0.mk (Kd.R_lower (Kd.R_new' (Kd.R_new' (Kd.R_new' (Kd.R_new' (Kd.R_new' (Kd.R_new' ho0 (Kd.R_lt (by (with_reducible repeat (first | apply Kd.R_alloc | apply Kd.R_drewN | apply Kd.R_drew)); exact HO_4.out))) (Kd.R_lt (by (with_reducible repeat (first | apply Kd.R_alloc | apply Kd.R_drewN | apply Kd.R_drew)); exact HO_5.out))) (Kd.R_lt (by (with_reducible repeat (first | apply Kd.R_alloc | apply Kd.R_drewN | apply Kd.R_drew)); exact HO1079.out))) (Kd.R_lt (by (with_reducible repeat (first | apply Kd.R_alloc | apply Kd.R_drewN | apply Kd.R_drew)); exact HO1083.out))) (Kd.R_lt (by (with_reducible repeat (first | apply Kd.R_alloc | apply Kd.R_drewN | apply Kd.R_drew)); exact HO1086.out))) (Kd.R_lt (by (with_reducible repeat (first | apply Kd.R_alloc | apply Kd.R_drewN | apply Kd.R_drew)); exact HO1089.out))) (below_size (bu HB.out))); replace HO_4 := Aside0.mk (Kd.R_elder' (by (with_reducible repeat (first | apply Kd.R_alloc | apply Kd.R_drewN | apply Kd.R_drew)); exact HO_4.out) (Kd.R_base ho0) hb); replace HO_5 := Aside0.mk (Kd.R_elder' (by (with_reducible repeat (first | apply Kd.R_alloc | apply Kd.R_drewN | apply Kd.R_drew)); exact HO_5.out) (Kd.R_base ho0) hb); replace HO1079 := Aside0.mk (Kd.R_elder' (by (with_reducible repeat (first | apply Kd.R_alloc | apply Kd.R_drewN | apply Kd.R_drew)); exact HO1079.out) (Kd.R_base ho0) hb); replace HO1083 := Aside0.mk (Kd.R_elder' (by (with_reducible repeat (first | apply Kd.R_alloc | apply Kd.R_drewN | apply Kd.R_drew)); exact HO1083.out) (Kd.R_base ho0) hb); replace HO1086 := Aside0.mk (Kd.R_elder' (by (with_reducible repeat (first | apply Kd.R_alloc | apply Kd.R_drewN | apply Kd.R_drew)); exact HO1086.out) (Kd.R_base ho0) hb); replace HO1089 := Aside0.mk (Kd.R_elder' (by (with_reducible repeat (first | apply Kd.R_alloc | apply Kd.R_drewN | apply Kd.R_drew)); exact HO1089.out) (Kd.R_base ho0) hb); replace HB := Aside0.mk (below_step (bu HB.out) hb); (try clear hb); (try clear hb2); (try clear hk); (try clear hi); (try clear ho0)))
     go_roundg k1
     case measure => have := HK1.out; omega
     case rel => exact ⟨(t1090), (t1081), (wrap64 (x7_1 - 1)), (by first | rfl | (simp; done) | (simp [*]; done)), H', ⟨by have := HK1.out; omega⟩, ⟨by (with_reducible repeat (first | apply Kd.R_alloc | apply Kd.R_drewN | apply Kd.R_drew)); exact Kd.R_mono HO1092.out (fun _ hk => hk.1.1.2)⟩, ⟨by (with_reducible repeat (first | apply Kd.R_alloc | apply Kd.R_drewN | apply Kd.R_drew)); exact Kd.R_mono HO1083.out (fun _ hk => hk.2)⟩, ⟨by repeat (first | (with_reducible first | exact HB.out | apply below_alloc | apply pw_below_drewN | apply below_drew1) | exact HB.out)⟩⟩
    ·
     rw [if_neg c12] at H
     have c12b0 : decide (0 ≤ t1080) = false := decide_eq_false c12
     clear c12
     have H' := Aside0.mk H
     clear H
     go_wp2_with (first | ((with_reducible refine gate_callee (f := 184) rfl ?_); refine goesL_ (some 23) rfl rfl Try.func184 (by kernel_rfl) rfl #[.slice A1 l1.length c1, .int .i64 x7_1] rfl lu ?_; (with_reducible refine (codewrightref01_shift.calls k1 _ _ l1 x7_1 t1077 _ ?side1 ?side2 A10.out).mono ?_); (case side1 => repeat (first | exact (Kd.C_below HR1.out HB.out) | (with_reducible refine Kd.C_alloc ?_ _) | (with_reducible refine Kd.C_drewN ?_ _) | (with_reducible refine Kd.C_drew ?_))); (case side2 => exact HC1.out); rintro e w28 ⟨v1078, rfl, ho0, hb⟩; refine ⟨_, rfl, ?_⟩; have HO1079 := Aside0.mk (Kd.R_lower (Kd.R_new' (Kd.R_new' ho0 (Kd.R_lt (by (with_reducible repeat (first | apply Kd.R_alloc | apply Kd.R_drewN | apply Kd.R_drew)); exact HO_4.out))) (Kd.R_lt (by (with_reducible repeat (first | apply Kd.R_alloc | apply Kd.R_drewN | apply Kd.R_drew)); exact HO_5.out))) (below_size (bu HB.out))); replace HO_4 := Aside0.mk (Kd.R_elder' (by (with_reducible repeat (first | apply Kd.R_alloc | apply Kd.R_drewN | apply Kd.R_drew)); exact HO_4.out) (Kd.R_base ho0) hb); replace HO_5 := Aside0.mk (Kd.R_elder' (by (with_reducible repeat (first | apply Kd.R_alloc | apply Kd.R_drewN | apply Kd.R_drew)); exact HO_5.out) (Kd.R_base ho0) hb); replace HB := Aside0.mk (below_step (bu HB.out) hb); (try clear hb); (try clear hb2); (try clear hk); (try clear hi); (try clear ho0); obtain ⟨Ao29, co29, eo29⟩ := Kd.R_slice HO_5.out; subst eo29; obtain ⟨Ao30, co30, eo30⟩ := Kd.R_slice HO1079.out; subst eo30) | ((with_reducible refine gate_callee (f := 59) rfl ?_); refine goesL_ (some 26) rfl rfl Try.func59 (by kernel_rfl) rfl #[.slice Ao29 x5_1.length co29, .slice Ao30 t1077.length co30] rfl lu ?_; (with_reducible refine (codewrightref01_Cmp.calls k1 _ _ x5_1 _ _ t1077 t1080 _ ?side1 ?side2 ?side3 ?side4 A11.out).mono ?_); (case side1 => repeat (first | exact (Kd.R_reads' HO_5.out).2.2 | (with_reducible refine Kd.C_alloc ?_ _) | (with_reducible refine Kd.C_drewN ?_ _) | (with_reducible refine Kd.C_drew ?_))); (case side2 => exact (Kd.R_reads' HO_5.out).2.1); (case side3 => repeat (first | exact (Kd.R_reads' HO1079.out).2.2 | (with_reducible refine Kd.C_alloc ?_ _) | (with_reducible refine Kd.C_drewN ?_ _) | (with_reducible refine Kd.C_drew ?_))); (case side4 => exact (Kd.R_reads' HO1079.out).2.1); rintro e w31 ⟨rfl, hb⟩; refine ⟨_, rfl, ?_⟩; replace HO_4 := Aside0.mk (Kd.R_below (by (with_reducible repeat (first | apply Kd.R_alloc | apply Kd.R_drewN | apply Kd.R_drew)); exact HO_4.out) hb); replace HO_5 := Aside0.mk (Kd.R_below (by (with_reducible repeat (first | apply Kd.R_alloc | apply Kd.R_drewN | apply Kd.R_drew)); exact HO_5.out) hb); replace HO1079 := Aside0.mk (Kd.R_below (by (with_reducible repeat (first | apply Kd.R_alloc | apply Kd.R_drewN | apply Kd.R_drew)); exact HO1079.out) hb); replace HB := Aside0.mk (below_step (bu HB.out) hb); (try clear hb); (try clear hb2); (try clear hk); (try clear hi)))
     go_roundg k1
     case measure => have := HK1.out; omega
     case rel => exact ⟨(x4_1), (x5_1), (wrap64 (x7_1 - 1)), (by first | rfl | (simp; done) | (simp [*]; done)), H', ⟨by have := HK1.out; omega⟩, ⟨by (with_reducible repeat (first | apply Kd.R_alloc | apply Kd.R_drewN | apply Kd.R_drew)); exact Kd.R_mono HO_4.out (fun _ hk => hk.1)⟩, ⟨by (with_reducible repeat (first | apply Kd.R_alloc | apply Kd.R_drewN | apply Kd.R_drew)); exact Kd.R_mono HO_5.out (fun _ hk => hk.1)⟩, ⟨by repeat (first | (with_reducible first | exact HB.out | apply below_alloc | apply pw_below_drewN | apply below_drew1) | exact HB.out)⟩⟩
   ·
    rw [if_neg c9] at H
    have c9b0 : decide (0 ≤ x7_1) = false := decide_eq_false c9
    clear c9
    replace H := Option.bind_eq_some_iff.mp H
    obtain ⟨t1074, A320, H⟩ := H
    replace H : (some (t1074, x5_1)) = some (r1, r2) := H
    have A32 := Aside0.mk A320
    clear A320
    simp only [Option.some.injEq, Prod.mk.injEq] at H
    obtain ⟨rfl, rfl⟩ := H
    obtain ⟨Ao33, co33, eo33⟩ := Kd.R_slice HO_4.out
    subst eo33
    go_wp2_with (first | ((with_reducible refine gate_callee (f := 144) rfl ?_); refine goesL_ (some 37) rfl rfl Try.func144 (by kernel_rfl) rfl #[.slice Ao33 x4_1.length co33] rfl lu ?_; (with_reducible refine (codewrightref01_Trim.calls k1 _ _ x4_1 t1074 _ ?side1 ?side2 A32.out).mono ?_); (case side1 => repeat (first | exact (Kd.R_reads' HO_4.out).2.2 | (with_reducible refine Kd.C_alloc ?_ _) | (with_reducible refine Kd.C_drewN ?_ _) | (with_reducible refine Kd.C_drew ?_))); (case side2 => exact (Kd.R_reads' HO_4.out).2.1); rintro e w34 ⟨v1075, rfl, ho0, hb⟩; refine ⟨_, rfl, ?_⟩; have HO1076 := Aside0.mk (Kd.R_lower (Kd.R_new' (Kd.R_new' ho0 (Kd.R_lt (by (with_reducible repeat (first | apply Kd.R_alloc | apply Kd.R_drewN | apply Kd.R_drew)); exact HO_4.out))) (Kd.R_lt (by (with_reducible repeat (first | apply Kd.R_alloc | apply Kd.R_drewN | apply Kd.R_drew)); exact HO_5.out))) (below_size (bu HB.out))); replace HO_4 := Aside0.mk (Kd.R_elder' (by (with_reducible repeat (first | apply Kd.R_alloc | apply Kd.R_drewN | apply Kd.R_drew)); exact HO_4.out) (Kd.R_base ho0) hb); replace HO_5 := Aside0.mk (Kd.R_elder' (by (with_reducible repeat (first | apply Kd.R_alloc | apply Kd.R_drewN | apply Kd.R_drew)); exact HO_5.out) (Kd.R_base ho0) hb); replace HB := Aside0.mk (below_step (bu HB.out) hb); (try clear hb); (try clear hb2); (try clear hk); (try clear hi); (try clear ho0)))
    go_ret2
    exact ⟨_, _, by first | rfl | (simp [errW_none, errW_some] <;> rfl) | (simp [*, errW_none, errW_some] <;> rfl), by (with_reducible repeat (first | apply Kd.R_alloc | apply Kd.R_drewN | apply Kd.R_drew)); exact Kd.R_mono HO1076.out (fun _ hk => hk.2), by (with_reducible repeat (first | apply Kd.R_alloc | apply Kd.R_drewN | apply Kd.R_drew)); exact Kd.R_mono HO_5.out (fun _ hk => hk.2), by repeat (first | (with_reducible first | exact HB.out | apply below_alloc | apply pw_below_drewN | apply below_drew1) | exact HB.out)⟩
end Go.Proofs.Ytecfdemglbfnoaa.PT
end
section
namespace Go.Proofs.Ytecfdemglbfnoaa.PT
open Go.RowKit Go.Proofs.YtecfdemglbfnoaaW.PrintWords Go.Proofs.YtecfdemglbfnoaaW.PrintLast Go.Proofs.YtecfdemglbfnoaaW.PrintMore
attribute [local go_sem] max2_int min2_int max_two min_two max_three min_three max_four min_four   -- for this text's walks alone
set_option linter.unusedVariables false
set_option linter.unusedSimpArgs false
def codewrightref01_Gcd.l0 : Nat → List Int → List Int → Option (List Int)
 | 0, _, _ => none
 | k + 1, x0, x1 => (codewrightref01_Zero.f k x1).bind fun t1093 => (if t1093 = true then ((codewrightref01_Trim.f k x0).bind fun t1094 => (some t1094)) else ((codewrightref01_DivMod.f k x0 x1).bind fun bt1097 => (codewrightref01_Gcd.l0 k x1 bt1097.2)))
def codewrightref01_Gcd.f (k : Nat) (l0 : List Int) (l1 : List Int) : Option (List Int) := codewrightref01_Gcd.l0 k l0 l1
set_option maxHeartbeats 8000000 in
set_option maxRecDepth 100000 in
theorem codewrightref01_Gcd.calls (k : Nat) (P0_ : Nat → Prop) (A0 : Option Addr) (c0 : Nat) (l0 : List Int) (P1_ : Nat → Prop) (A1 : Option Addr) (c1 : Nat) (l1 : List Int) (r : List Int) (w : World) (hs0 : Kd.V (Kd.int .u32) 48 w w.heap.size (fun k_ => P0_ k_) (.slice A0 l0.length c0) l0) (hs1 : Kd.V (Kd.int .u32) 48 w w.heap.size (fun k_ => P1_ k_) (.slice A1 l1.length c1) l1) (h : codewrightref01_Gcd.f k l0 l1 = some r) :
 Calls Try.prog 156 #[.slice A0 l0.length c0, .slice A1 l1.length c1] w fun e w' => ∃ v0_ : Value, e = .returned (v0_) ∧ Kd.R (Kd.int .u32) 48 w' w.heap.size (fun k_ => (w.heap.size ≤ k_)) v0_ r ∧ Below w.heap.size w w' := by
 have HO0 := Aside0.mk (show Kd.V (Kd.int .u32) 48 w w.heap.size (fun k_ => ((P0_ k_ ∨ P1_ k_) ∨ w.heap.size ≤ k_)) (.slice A0 l0.length c0) l0 from Kd.V_mono hs0 (fun k_ hk => .inl (.inl hk)))
 have HO1 := Aside0.mk (show Kd.V (Kd.int .u32) 48 w w.heap.size (fun k_ => ((P0_ k_ ∨ P1_ k_) ∨ w.heap.size ≤ k_)) (.slice A1 l1.length c1) l1 from Kd.V_mono hs1 (fun k_ hk => .inl (.inr hk)))
 have HB := Aside0.mk (Below.refl w.heap.size w)
 have H : (codewrightref01_Gcd.l0 k l0 l1) = some r := h
 clear h
 have H' := Aside0.mk H
 clear H
 go_enter Try.func156, Try.ntmps156
 go_wp2
 go_loopg [0, 1] k (fun kq v0 v1 w' => ∃ (x0_1 : List Int) (x1_1 : List Int), Aside0 (codewrightref01_Gcd.l0 kq x0_1 x1_1 = some r) ∧ Aside0 (kq ≤ k) ∧ Aside0 (Kd.V (Kd.int .u32) 48 w' w.heap.size (fun k_ => ((P0_ k_ ∨ P1_ k_) ∨ w.heap.size ≤ k_)) v0 x0_1) ∧ Aside0 (Kd.V (Kd.int .u32) 48 w' w.heap.size (fun k_ => ((P0_ k_ ∨ P1_ k_) ∨ w.heap.size ≤ k_)) v1 x1_1) ∧ Aside0 (Below w.heap.size w w'))
 case atStart => exact ⟨(l0), (l1), H', ⟨Nat.le_refl _⟩, ⟨by (with_reducible repeat (first | apply Kd.V_alloc | apply Kd.V_drewN | apply Kd.V_drew)); exact HO0.out⟩, ⟨by (with_reducible repeat (first | apply Kd.V_alloc | apply Kd.V_drewN | apply Kd.V_drew)); exact HO1.out⟩, ⟨by repeat (first | (with_reducible first | exact HB.out | apply below_alloc | apply pw_below_drewN | apply below_drew1) | exact HB.out)⟩⟩
 case round =>
  clear H'
  try clear c1
  try clear p2
  obtain ⟨x0_1, x1_1, HA, HK1, HO_0, HO_1, HB⟩ := hrel
  cases gk with
  | zero => exact absurd HA.out (by simp [codewrightref01_Gcd.l0])
  | succ k1 =>
   have H := HA.out
   clear HA
   simp only [codewrightref01_Gcd.l0] at H
   replace H := Option.bind_eq_some_iff.mp H
   obtain ⟨t1093, A30, H⟩ := H
   replace H : (if t1093 = true then ((codewrightref01_Trim.f k1 x0_1).bind fun t1094 => (some t1094)) else ((codewrightref01_DivMod.f k1 x0_1 x1_1).bind fun bt1097 => (codewrightref01_Gcd.l0 k1 x1_1 bt1097.2))) = some r := H
   have A3 := Aside0.mk A30
   clear A30
   by_cases c4 : t1093 = true
   ·
    subst c4
    have H1 : ((codewrightref01_Trim.f k1 x0_1).bind fun t1094 => (some t1094)) = some r := by rw [if_pos rfl] at H; exact H
    clear H
    have H := H1
    clear H1
    replace H := Option.bind_eq_some_iff.mp H
    obtain ⟨t1094, A50, H⟩ := H
    replace H : (some t1094) = some r := H
    have A5 := Aside0.mk A50
    clear A50
    obtain rfl := Option.some.inj H
    obtain ⟨Ao6, co6, eo6⟩ := Kd.V_slice HO_1.out
    subst eo6
    go_wp2_with (first | ((with_reducible refine gate_callee (f := 150) rfl ?_); refine goesL_ (some 8) rfl rfl Try.func150 (by kernel_rfl) rfl #[.slice Ao6 x1_1.length co6] rfl lu ?_; (with_reducible refine (codewrightref01_Zero.calls k1 _ _ x1_1 true _ ?side1 ?side2 A3.out).mono ?_); (case side1 => repeat (first | exact (Kd.V_reads' HO_1.out).2.2 | (with_reducible refine Kd.C_alloc ?_ _) | (with_reducible refine Kd.C_drewN ?_ _) | (with_reducible refine Kd.C_drew ?_))); (case side2 => exact (Kd.V_reads' HO_1.out).2.1); rintro e w7 ⟨rfl, hb⟩; refine ⟨_, rfl, ?_⟩; replace HO_0 := Aside0.mk (Kd.V_below (vu HO_0.out) hb); replace HO_1 := Aside0.mk (Kd.V_below (vu HO_1.out) hb); replace HB := Aside0.mk (below_step (bu HB.out) hb); (try clear hb); (try clear hb2); (try clear hk); (try clear hi); obtain ⟨Ao8, co8, eo8⟩ := Kd.V_slice HO_0.out; subst eo8) | ((with_reducible refine gate_callee (f := 144) rfl ?_); refine goesL_ (some 19) rfl rfl Try.func144 (by kernel_rfl) rfl #[.slice Ao8 x0_1.length co8] rfl lu ?_; (with_reducible refine (codewrightref01_Trim.calls k1 _ _ x0_1 t1094 _ ?side1 ?side2 A5.out).mono ?_); (case side1 => repeat (first | exact (Kd.V_reads' HO_0.out).2.2 | (with_reducible refine Kd.C_alloc ?_ _) | (with_reducible refine Kd.C_drewN ?_ _) | (with_reducible refine Kd.C_drew ?_))); (case side2 => exact (Kd.V_reads' HO_0.out).2.1); rintro e w9 ⟨v1095, rfl, ho0, hb⟩; refine ⟨_, rfl, ?_⟩; replace HO_0 := Aside0.mk (Kd.V_elder' (vu HO_0.out) (Kd.R_base ho0) hb); replace HO_1 := Aside0.mk (Kd.V_elder' (vu HO_1.out) (Kd.R_base ho0) hb); have HO1096 := Aside0.mk (Kd.R_lower (Kd.R_newM (M := fun k_ => (w.heap.size ≤ k_)) ho0 (below_size (bu HB.out)) (fun k_ h_ => h_)) (below_size (bu HB.out))); replace HB := Aside0.mk (below_step (bu HB.out) hb); (try clear hb); (try clear hb2); (try clear hk); (try clear hi); (try clear ho0)))
    go_ret
    exact ⟨_, by first | rfl | (simp [errW_none, errW_some] <;> rfl) | (simp [*, errW_none, errW_some] <;> rfl), by (with_reducible repeat (first | apply Kd.R_alloc | apply Kd.R_drewN | apply Kd.R_drew)); exact Kd.R_mono HO1096.out (fun _ hk => hk.1), by repeat (first | (with_reducible first | exact HB.out | apply below_alloc | apply pw_below_drewN | apply below_drew1) | exact HB.out)⟩
   ·
    replace c4 := Bool.eq_false_iff.mpr c4
    subst c4
    have H1 : ((codewrightref01_DivMod.f k1 x0_1 x1_1).bind fun bt1097 => (codewrightref01_Gcd.l0 k1 x1_1 bt1097.2)) = some r := by rw [if_neg (show ¬ (false = true) by decide)] at H; exact H
    clear H
    have H := H1
    clear H1
    replace H := Option.bind_eq_some_iff.mp H
    obtain ⟨⟨t1097, t1098⟩, A100, H⟩ := H
    replace H : (codewrightref01_Gcd.l0 k1 x1_1 t1098) = some r := H
    have A10 := Aside0.mk A100
    clear A100
    have H' := Aside0.mk H
    clear H
    obtain ⟨Ao11, co11, eo11⟩ := Kd.V_slice HO_1.out
    subst eo11
    go_wp2_with (first | ((with_reducible refine gate_callee (f := 150) rfl ?_); refine goesL_ (some 8) rfl rfl Try.func150 (by kernel_rfl) rfl #[.slice Ao11 x1_1.length co11] rfl lu ?_; (with_reducible refine (codewrightref01_Zero.calls k1 _ _ x1_1 false _ ?side1 ?side2 A3.out).mono ?_); (case side1 => repeat (first | exact (Kd.V_reads' HO_1.out).2.2 | (with_reducible refine Kd.C_alloc ?_ _) | (with_reducible refine Kd.C_drewN ?_ _) | (with_reducible refine Kd.C_drew ?_))); (case side2 => exact (Kd.V_reads' HO_1.out).2.1); rintro e w12 ⟨rfl, hb⟩; refine ⟨_, rfl, ?_⟩; replace HO_0 := Aside0.mk (Kd.V_below (vu HO_0.out) hb); replace HO_1 := Aside0.mk (Kd.V_below (vu HO_1.out) hb); replace HB := Aside0.mk (below_step (bu HB.out) hb); (try clear hb); (try clear hb2); (try clear hk); (try clear hi); obtain ⟨Ao13, co13, eo13⟩ := Kd.V_slice HO_0.out; subst eo13) | ((with_reducible refine gate_callee (f := 157) rfl ?_); refine goesL_ (some 13) rfl rfl Try.func157 (by kernel_rfl) rfl #[.slice Ao13 x0_1.length co13, .slice Ao11 x1_1.length co11] rfl lu ?_; (with_reducible refine (codewrightref01_DivMod.calls k1 _ _ x0_1 _ _ x1_1 t1097 t1098 _ ?side1 ?side2 ?side3 ?side4 A10.out).mono ?_); (case side1 => repeat (first | exact (Kd.V_reads' HO_0.out).2.2 | (with_reducible refine Kd.C_alloc ?_ _) | (with_reducible refine Kd.C_drewN ?_ _) | (with_reducible refine Kd.C_drew ?_))); (case side2 => exact (Kd.V_reads' HO_0.out).2.1); (case side3 => repeat (first | exact (Kd.V_reads' HO_1.out).2.2 | (with_reducible refine Kd.C_alloc ?_ _) | (with_reducible refine Kd.C_drewN ?_ _) | (with_reducible refine Kd.C_drew ?_))); (case side4 => exact (Kd.V_reads' HO_1.out).2.1); rintro e w14 ⟨v1099, v1101, rfl, ho0, ho1, hb⟩; refine ⟨_, rfl, ?_⟩; replace HO_0 := Aside0.mk (Kd.V_mono (Kd.V_told (Kd.V_told (Kd.V_old (vu HO_0.out) hb) (Kd.R_base ho0)) (Kd.R_base ho1)) (fun _ h_ => h_.1)); replace HO_1 := Aside0.mk (Kd.V_mono (Kd.V_told (Kd.V_told (Kd.V_old (vu HO_1.out) hb) (Kd.R_base ho0)) (Kd.R_base ho1)) (fun _ h_ => h_.1)); have HO1100 := Aside0.mk (Kd.R_lower (Kd.R_newM (M := fun k_ => (w.heap.size ≤ k_)) ho0 (below_size (bu HB.out)) (fun k_ h_ => h_)) (below_size (bu HB.out))); have HO1102 := Aside0.mk (Kd.R_lower (Kd.R_newM (M := fun k_ => (w.heap.size ≤ k_)) ho1 (below_size (bu HB.out)) (fun k_ h_ => h_)) (below_size (bu HB.out))); replace HB := Aside0.mk (below_step (bu HB.out) hb); (try clear hb); (try clear hb2); (try clear hk); (try clear hi); (try clear ho0); (try clear ho1)))
    go_roundg k1
    case measure => have := HK1.out; omega
    case rel => exact ⟨(x1_1), (t1098), H', ⟨by have := HK1.out; omega⟩, ⟨by (with_reducible repeat (first | apply Kd.V_alloc | apply Kd.V_drewN | apply Kd.V_drew)); exact Kd.V_mono HO_1.out (fun _ hk => hk.1.1)⟩, ⟨Kd.V_mono (Kd.R_V (by (with_reducible repeat (first | apply Kd.R_alloc | apply Kd.R_drewN | apply Kd.R_drew)); exact Kd.R_mono HO1102.out (fun _ hk => hk.1))) (fun k_ hk => by first | exact ⟨(.inr (hk.1)), hk.2⟩ | exact (.inr (hk)))⟩, ⟨by repeat (first | (with_reducible first | exact HB.out | apply below_alloc | apply pw_below_drewN | apply below_drew1) | exact HB.out)⟩⟩
end Go.Proofs.Ytecfdemglbfnoaa.PT
end
section
namespace Go.Proofs.Ytecfdemglbfnoaa.PT
open Go.RowKit Go.Proofs.YtecfdemglbfnoaaW.PrintWords Go.Proofs.YtecfdemglbfnoaaW.PrintLast Go.Proofs.YtecfdemglbfnoaaW.PrintMore
attribute [local go_sem] max2_int min2_int max_two min_two max_three min_three max_four min_four   -- for this text's walks alone
set_option linter.unusedVariables false
set_option linter.unusedSimpArgs false
def codewrightref02_Make.j0 : Nat → Bool → List Int → List Int → Bool → Option (Bool × List Int × List Int)
 | 0, _, _, _, _ => none
 | k + 1, x0, x1, x2, x17 => if x17 = true then (some (false, (([] : List Int)), (([1] : List Int)))) else ((codewrightref01_Gcd.f k x1 x2).bind fun t1112 => ((codewrightref01_DivMod.f k x1 t1112).bind fun bt1115 => ((codewrightref01_DivMod.f k x2 t1112).bind fun bt1121 => (some (x0, bt1115.1, bt1121.1)))))
def codewrightref02_Make.f (k : Nat) (a0 : Bool) (l1 : List Int) (l2 : List Int) : Option (Bool × List Int × List Int) := (codewrightref01_Zero.f k l1).bind fun t1104 => (if t1104 = true then (codewrightref02_Make.j0 k a0 l1 l2 true) else ((codewrightref01_Zero.f k l2).bind fun t1105 => (codewrightref02_Make.j0 k a0 l1 l2 t1105)))
set_option maxHeartbeats 8000000 in
set_option maxRecDepth 100000 in
theorem codewrightref02_Make.calls (k : Nat) (a0 : Bool) (P1_ : Nat → Prop) (A1 : Option Addr) (c1 : Nat) (l1 : List Int) (P2_ : Nat → Prop) (A2 : Option Addr) (c2 : Nat) (l2 : List Int) (r1 : Bool) (r2 : List Int) (r3 : List Int) (w : World) (hs1 : Kd.V (Kd.int .u32) 48 w w.heap.size (fun k_ => P1_ k_) (.slice A1 l1.length c1) l1) (hs2 : Kd.V (Kd.int .u32) 48 w w.heap.size (fun k_ => P2_ k_) (.slice A2 l2.length c2) l2) (h : codewrightref02_Make.f k a0 l1 l2 = some (r1, r2, r3)) :
 Calls Try.prog 80 #[.bool a0, .slice A1 l1.length c1, .slice A2 l2.length c2] w fun e w' => ∃ v1_ v2_ : Value, e = .returned (.agg #[.bool r1, v1_, v2_]) ∧ Kd.V (Kd.int .u32) 48 w' w.heap.size (fun k_ => ((P1_ k_ ∨ P2_ k_) ∨ w.heap.size ≤ k_)) v1_ r2 ∧ Kd.V (Kd.int .u32) 48 w' w.heap.size (fun k_ => ((P1_ k_ ∨ P2_ k_) ∨ w.heap.size ≤ k_)) v2_ r3 ∧ Below w.heap.size w w' := by
 have hu67 := Try.underlying67
 have HO1 := Aside0.mk (show Kd.V (Kd.int .u32) 48 w w.heap.size (fun k_ => ((P1_ k_ ∨ P2_ k_) ∨ w.heap.size ≤ k_)) (.slice A1 l1.length c1) l1 from Kd.V_mono hs1 (fun k_ hk => .inl (.inl hk)))
 have HO2 := Aside0.mk (show Kd.V (Kd.int .u32) 48 w w.heap.size (fun k_ => ((P1_ k_ ∨ P2_ k_) ∨ w.heap.size ≤ k_)) (.slice A2 l2.length c2) l2 from Kd.V_mono hs2 (fun k_ hk => .inl (.inr hk)))
 have HB := Aside0.mk (Below.refl w.heap.size w)
 have H : ((codewrightref01_Zero.f k l1).bind fun t1104 => (if t1104 = true then (codewrightref02_Make.j0 k a0 l1 l2 true) else ((codewrightref01_Zero.f k l2).bind fun t1105 => (codewrightref02_Make.j0 k a0 l1 l2 t1105)))) = some (r1, r2, r3) := h
 clear h
 have HC4 := Aside0.mk H
 clear H
 go_enter Try.func80, Try.ntmps80
 go_upto_region 1 with (first | ((with_reducible refine gate_dst (N := 6) rfl ?_); refine box_event ?hg (N := 6) ?hd (cs := #[.bool false, .slice none 0 0, .slice none 0 0]) (t := 67) ?hr ?_; (case hd => rfl); (case hg => rfl); (case hr => first | (go_simp; done) | (go_simp; rfl)); intro gb1103 hg w5 hbox hb; replace HO1 := Aside0.mk (Kd.V_below (Kd.V_elderB (vu HO1.out) gb1103 (Nat.le_of_eq hg.symm)) hb); replace HO2 := Aside0.mk (Kd.V_below (Kd.V_elderB (vu HO2.out) gb1103 (Nat.le_of_eq hg.symm)) hb); have BK1103 := Aside0.mk (hbox); have GW1103 := Aside0.mk ((by rw [hg]; exact (below_size (bu HB.out)) : w.heap.size ≤ gb1103)); have GE1103 := Aside0.mk ((by rw [hg]; exact (below_size (bu HB.out)) : w.heap.size ≤ gb1103)); replace HB := Aside0.mk (below_step (bu HB.out) hb); clear hb hbox hg))
 (try simp only [Act.put, List.setIfInBounds_toArray, List.set_cons_zero, List.set_cons_succ])
 go_cut [17] (fun v17 wc => ∃ (kq : Nat) (x17_3 : Bool), v17 = .bool x17_3 ∧ Aside0 (codewrightref02_Make.j0 kq a0 l1 l2 x17_3 = some (r1, r2, r3)) ∧ Aside0 (kq ≤ k) ∧ Aside0 (Kd.V (Kd.int .u32) 48 wc w.heap.size (fun k_ => ((P1_ k_ ∨ P2_ k_) ∨ w.heap.size ≤ k_) ∧ k_ ≠ gb1103) (.slice A1 l1.length c1) l1) ∧ Aside0 (Kd.V (Kd.int .u32) 48 wc w.heap.size (fun k_ => ((P1_ k_ ∨ P2_ k_) ∨ w.heap.size ≤ k_) ∧ k_ ≠ gb1103) (.slice A2 l2.length c2) l2) ∧ Aside0 (wc.heap[gb1103]? = some (.cells #[.bool false, (.slice none 0 0), (.slice none 0 0)] 67 (0, 0))) ∧ Aside0 (Below w.heap.size w wc))
 case first =>
  have H := HC4.out
  clear HC4
  replace H := Option.bind_eq_some_iff.mp H
  obtain ⟨t1104, A60, H⟩ := H
  replace H : (if t1104 = true then (codewrightref02_Make.j0 k a0 l1 l2 true) else ((codewrightref01_Zero.f k l2).bind fun t1105 => (codewrightref02_Make.j0 k a0 l1 l2 t1105))) = some (r1, r2, r3) := H
  have A6 := Aside0.mk A60
  clear A60
  by_cases c7 : t1104 = true
  ·
   subst c7
   have H1 : (codewrightref02_Make.j0 k a0 l1 l2 true) = some (r1, r2, r3) := by rw [if_pos rfl] at H; exact H
   clear H
   have H := H1
   clear H1
   have H' := Aside0.mk H
   clear H
   go_wp2_with (first | ((with_reducible refine gate_callee (f := 150) rfl ?_); refine goesL_ (some 13) rfl rfl Try.func150 (by kernel_rfl) rfl #[.slice A1 l1.length c1] rfl lu ?_; (with_reducible refine (codewrightref01_Zero.calls k _ _ l1 true _ ?side1 ?side2 A6.out).mono ?_); (case side1 => repeat (first | exact (Kd.V_reads' HO1.out).2.2 | (with_reducible refine Kd.C_alloc ?_ _) | (with_reducible refine Kd.C_drewN ?_ _) | (with_reducible refine Kd.C_drew ?_))); (case side2 => exact (Kd.V_reads' HO1.out).2.1); rintro e w8 ⟨rfl, hb⟩; refine ⟨_, rfl, ?_⟩; replace HO1 := Aside0.mk (Kd.V_below (vu HO1.out) hb); replace HO2 := Aside0.mk (Kd.V_below (vu HO2.out) hb); replace BK1103 := Aside0.mk (blk_below (g := gb1103) (o := .cells #[.bool false, .slice none 0 0, .slice none 0 0] 67 (0, 0)) (ku BK1103.out) hb); replace HB := Aside0.mk (below_step (bu1 HB.out GE1103.out) hb); (try clear hb); (try clear hb2); (try clear hk); (try clear hi)))
   go_meet
   case rel => exact ⟨_, (true), (by first | rfl | (simp; done) | (simp [*]; done)), H', ⟨by first | omega | exact Nat.le_refl _⟩, ⟨by (with_reducible repeat (first | apply Kd.V_alloc | apply Kd.V_drewN | apply Kd.V_drew)); exact HO1.out⟩, ⟨by (with_reducible repeat (first | apply Kd.V_alloc | apply Kd.V_drewN | apply Kd.V_drew)); exact HO2.out⟩, ⟨by (with_reducible repeat (first | refine blk_drewN ?_ _ | refine blk_drew ?_ | refine blk_alloc ?_ _)); exact BK1103.out⟩, ⟨by repeat (first | (with_reducible first | exact HB.out | apply below_alloc | apply pw_below_drewN | apply below_drew1 | refine below_set ?_ GE1103.out) | exact HB.out)⟩⟩
  ·
   replace c7 := Bool.eq_false_iff.mpr c7
   subst c7
   have H1 : ((codewrightref01_Zero.f k l2).bind fun t1105 => (codewrightref02_Make.j0 k a0 l1 l2 t1105)) = some (r1, r2, r3) := by rw [if_neg (show ¬ (false = true) by decide)] at H; exact H
   clear H
   have H := H1
   clear H1
   replace H := Option.bind_eq_some_iff.mp H
   obtain ⟨t1105, A90, H⟩ := H
   replace H : (codewrightref02_Make.j0 k a0 l1 l2 t1105) = some (r1, r2, r3) := H
   have A9 := Aside0.mk A90
   clear A90
   have H' := Aside0.mk H
   clear H
   go_wp2_with (first | ((with_reducible refine gate_callee (f := 150) rfl ?_); refine goesL_ (some 13) rfl rfl Try.func150 (by kernel_rfl) rfl #[.slice A1 l1.length c1] rfl lu ?_; (with_reducible refine (codewrightref01_Zero.calls k _ _ l1 false _ ?side1 ?side2 A6.out).mono ?_); (case side1 => repeat (first | exact (Kd.V_reads' HO1.out).2.2 | (with_reducible refine Kd.C_alloc ?_ _) | (with_reducible refine Kd.C_drewN ?_ _) | (with_reducible refine Kd.C_drew ?_))); (case side2 => exact (Kd.V_reads' HO1.out).2.1); rintro e w10 ⟨rfl, hb⟩; refine ⟨_, rfl, ?_⟩; replace HO1 := Aside0.mk (Kd.V_below (vu HO1.out) hb); replace HO2 := Aside0.mk (Kd.V_below (vu HO2.out) hb); replace BK1103 := Aside0.mk (blk_below (g := gb1103) (o := .cells #[.bool false, .slice none 0 0, .slice none 0 0] 67 (0, 0)) (ku BK1103.out) hb); replace HB := Aside0.mk (below_step (bu1 HB.out GE1103.out) hb); (try clear hb); (try clear hb2); (try clear hk); (try clear hi)) | (go_at_call 150; (with_reducible refine (codewrightref01_Zero.calls k _ _ l2 t1105 _ ?side1 ?side2 A9.out).mono ?_); (case side1 => repeat (first | exact (Kd.V_reads' HO2.out).2.2 | (with_reducible refine Kd.C_alloc ?_ _) | (with_reducible refine Kd.C_drewN ?_ _) | (with_reducible refine Kd.C_drew ?_))); (case side2 => exact (Kd.V_reads' HO2.out).2.1); rintro e w11 ⟨rfl, hb⟩; replace HO1 := Aside0.mk (Kd.V_below (vu HO1.out) hb); replace HO2 := Aside0.mk (Kd.V_below (vu HO2.out) hb); replace BK1103 := Aside0.mk (blk_below (g := gb1103) (o := .cells #[.bool false, .slice none 0 0, .slice none 0 0] 67 (0, 0)) (ku BK1103.out) hb); replace HB := Aside0.mk (below_step (bu1 HB.out GE1103.out) hb); (try clear hb); (try clear hb2); (try clear hk); (try clear hi)))
   go_meet
   case rel => exact ⟨_, (t1105), (by first | rfl | (simp; done) | (simp [*]; done)), H', ⟨by first | omega | exact Nat.le_refl _⟩, ⟨by (with_reducible repeat (first | apply Kd.V_alloc | apply Kd.V_drewN | apply Kd.V_drew)); exact HO1.out⟩, ⟨by (with_reducible repeat (first | apply Kd.V_alloc | apply Kd.V_drewN | apply Kd.V_drew)); exact HO2.out⟩, ⟨by (with_reducible repeat (first | refine blk_drewN ?_ _ | refine blk_drew ?_ | refine blk_alloc ?_ _)); exact BK1103.out⟩, ⟨by repeat (first | (with_reducible first | exact HB.out | apply below_alloc | apply pw_below_drewN | apply below_drew1 | refine below_set ?_ GE1103.out) | exact HB.out)⟩⟩
 case rest =>
  clear HC4
  try clear c1
  try clear c2
  try clear p2
  try clear c7
  try clear c8
  obtain ⟨kq, x17_3, rfl, HA, HJ3, HO_1, HO_2, BK1103, HB⟩ := hcut
  cases kq with
  | zero => exact absurd HA.out (by simp [codewrightref02_Make.j0])
  | succ kj3 =>
   have H := HA.out
   clear HA
   simp only [codewrightref02_Make.j0] at H
   by_cases c12 : x17_3 = true
   ·
    subst c12
    have H1 : (some (false, (([] : List Int)), (([1] : List Int)))) = some (r1, r2, r3) := by rw [if_pos rfl] at H; exact H
    clear H
    have H := H1
    clear H1
    obtain ⟨y1106, hy1106⟩ : ∃ y_ : List Int, y_ = (([] : List Int)) := ⟨_, rfl⟩
    replace H : (some (false, y1106, (([1] : List Int)))) = some (r1, r2, r3) := by first | (rw [hy1106]; with_reducible exact H) | (have H2_ := (Option.bind_some _ _).symm.trans H; rw [hy1106]; with_reducible exact H2_) | (have H2_ := (Option.bind_some _ _).symm.trans H; with_reducible exact H2_) | with_reducible exact H | (rw [hy1106]; exact H) | exact H
    have Ny1106 := Aside0.mk hy1106
    clear hy1106
    obtain ⟨y1109, hy1109⟩ : ∃ y_ : List Int, y_ = (([1] : List Int)) := ⟨_, rfl⟩
    replace H : (some (false, y1106, y1109)) = some (r1, r2, r3) := by first | (rw [hy1109]; with_reducible exact H) | (have H2_ := (Option.bind_some _ _).symm.trans H; rw [hy1109]; with_reducible exact H2_) | (have H2_ := (Option.bind_some _ _).symm.trans H; with_reducible exact H2_) | with_reducible exact H | (rw [hy1109]; exact H) | exact H
    have Ny1109 := Aside0.mk hy1109
    clear hy1109
    simp only [Option.some.injEq, Prod.mk.injEq] at H
    obtain ⟨rfl, rfl, rfl⟩ := H
    go_wp2_with (first | ((with_reducible refine gate_dst (N := 18) rfl ?_); refine Kd.R_lit (Kd.int .u32) _ 48 ?hg (N := 18) ?hd (xs := ([] : List Int)) (inner := []) (ok := fun _ => True) (okp := fun _ => True) ?hr ?hp (fun _ hk => hk) trivial (Below.refl _ _) (Nat.le_refl _) (by simp) ?_; (case hd => rfl); (case hg => rfl); (case hr => first | (go_simp; done) | (go_simp; rfl)); (case hp => exact (Reps.none _ _)); intro v1107 w13 ho14 hb hg_ hnew_; clear hg_ hnew_; (first | rw [← Ny1106.out] at ho14 | (simp only [Int.reduceToNat] at ho14; rw [← Ny1106.out] at ho14)); replace HO_1 := Aside0.mk (Kd.V_elder' (vu HO_1.out) (Kd.R_base ho14) hb); replace HO_2 := Aside0.mk (Kd.V_elder' (vu HO_2.out) (Kd.R_base ho14) hb); have HO1108 := Aside0.mk (Kd.R_lower (Kd.R_newM (M := fun k_ => (w.heap.size ≤ k_)) ho14 (below_size (bu1 HB.out GE1103.out)) (fun k_ h_ => h_)) (below_size (bu1 HB.out GE1103.out))); replace BK1103 := Aside0.mk (blk_below (g := gb1103) (o := .cells #[.bool false, .slice none 0 0, .slice none 0 0] 67 (0, 0)) (ku BK1103.out) hb); replace HB := Aside0.mk (below_step (bu1 HB.out GE1103.out) hb); clear hb ho14) | ((with_reducible refine gate_dst (N := 19) rfl ?_); refine Kd.R_lit (Kd.int .u32) _ 48 ?hg (N := 19) ?hd (xs := ([1] : List Int)) (inner := [.int .u32 1]) (ok := fun _ => True) (okp := fun _ => True) ?hr ?hp (fun _ hk => hk) trivial (Below.refl _ _) (Nat.le_refl _) (by simp) ?_; (case hd => rfl); (case hg => rfl); (case hr => first | (go_simp; done) | (go_simp; rfl)); (case hp => exact (Reps.one (show Kd.M (Kd.int .u32) _ _ _ 1 [.int .u32 1] from rfl) (Reps.none _ _))); intro v1110 w15 ho16 hb hg_ hnew_; clear hg_ hnew_; (first | rw [← Ny1109.out] at ho16 | (simp only [Int.reduceToNat] at ho16; rw [← Ny1109.out] at ho16)); replace HO_1 := Aside0.mk (Kd.V_elder' (vu HO_1.out) (Kd.R_base ho16) hb); replace HO_2 := Aside0.mk (Kd.V_elder' (vu HO_2.out) (Kd.R_base ho16) hb); have HO1111 := Aside0.mk (Kd.R_lower (Kd.R_new' (Kd.R_newM (M := fun k_ => (w.heap.size ≤ k_)) ho16 (below_size (bu1 HB.out GE1103.out)) (fun k_ h_ => h_)) (Kd.R_lt (by (with_reducible repeat (first | apply Kd.R_alloc | apply Kd.R_drewN | apply Kd.R_drew)); exact HO1108.out))) (below_size (bu1 HB.out GE1103.out))); replace HO1108 := Aside0.mk (Kd.R_elder' (by (with_reducible repeat (first | apply Kd.R_alloc | apply Kd.R_drewN | apply Kd.R_drew)); exact HO1108.out) (Kd.R_base ho16) hb); replace BK1103 := Aside0.mk (blk_below (g := gb1103) (o := .cells #[.bool false, .slice none 0 0, .slice none 0 0] 67 (0, 0)) (ku BK1103.out) hb); replace HB := Aside0.mk (below_step (bu1 HB.out GE1103.out) hb); clear hb ho16; obtain ⟨Ao17, co17, eo17⟩ := Kd.R_slice HO1111.out; subst eo17; obtain ⟨Ao18, co18, eo18⟩ := Kd.R_slice HO1108.out; subst eo18; have hcz19_0 : w15.cell? ⟨gb1103, 0, none⟩ = some (.bool false) := (blk_cell BK1103.out 0).trans rfl; have hcz19_1 : w15.cell? ⟨gb1103, 1, none⟩ = some (.slice none 0 0) := (blk_cell BK1103.out 1).trans rfl; have hcz19_2 : w15.cell? ⟨gb1103, 2, none⟩ = some (.slice none 0 0) := (blk_cell BK1103.out 2).trans rfl; have hfz19_0 := blk_frozen BK1103.out 0; have hfz19_1 := blk_frozen BK1103.out 1; have hfz19_2 := blk_frozen BK1103.out 2))
    refine bodyPost_ret (results_cell_row rfl _ _ gb1103 67 #[.bool false, .slice Ao18 y1106.length co18, .slice Ao17 y1109.length co17] (0, 0) _ rfl (by (with_reducible repeat (first | refine blk_drewN ?_ _ | refine blk_drew ?_ | refine blk_alloc ?_ _)); refine blk_put (cs := #[.bool false, .slice Ao18 y1106.length co18, .slice none 0 0]) ?_ 2 _ rfl; (with_reducible repeat (first | refine blk_drewN ?_ _ | refine blk_drew ?_ | refine blk_alloc ?_ _)); refine blk_put (cs := #[.bool false, .slice none 0 0, .slice none 0 0]) ?_ 1 _ rfl; (with_reducible repeat (first | refine blk_drewN ?_ _ | refine blk_drew ?_ | refine blk_alloc ?_ _)); refine blk_put (cs := #[.bool false, .slice none 0 0, .slice none 0 0]) ?_ 0 _ rfl; (with_reducible repeat (first | refine blk_drewN ?_ _ | refine blk_drew ?_ | refine blk_alloc ?_ _)); exact BK1103.out) Try.underlying67 rfl (by kernel_rfl)) rfl ?_
    exact ⟨_, _, by first | rfl | (simp [errW_none, errW_some] <;> rfl) | (simp [*, errW_none, errW_some] <;> rfl), Kd.V_mono (Kd.R_V (by (with_reducible repeat (first | apply Kd.R_alloc | apply Kd.R_drewN | apply Kd.R_drew)); exact Kd.R_mono (Kd.R_far (p := ⟨gb1103, 2, none⟩) (Kd.R_far (p := ⟨gb1103, 1, none⟩) (Kd.R_far (p := ⟨gb1103, 0, none⟩) (Kd.R_types HO1108.out BK1103.out (by decide)) (fun _ hk => hk.2) (.bool false)) (fun _ hk => hk.2) (.slice Ao18 y1106.length co18)) (fun _ hk => hk.2) (.slice Ao17 y1109.length co17)) (fun _ hk => hk.1.1.1))) (fun k_ hk => by first | exact ⟨(.inr (hk.1)), hk.2⟩ | exact (.inr (hk))), Kd.V_mono (Kd.R_V (by (with_reducible repeat (first | apply Kd.R_alloc | apply Kd.R_drewN | apply Kd.R_drew)); exact Kd.R_mono (Kd.R_far (p := ⟨gb1103, 2, none⟩) (Kd.R_far (p := ⟨gb1103, 1, none⟩) (Kd.R_far (p := ⟨gb1103, 0, none⟩) (Kd.R_types HO1111.out BK1103.out (by decide)) (fun _ hk => hk.2) (.bool false)) (fun _ hk => hk.2) (.slice Ao18 y1106.length co18)) (fun _ hk => hk.2) (.slice Ao17 y1109.length co17)) (fun _ hk => hk.1.1.1))) (fun k_ hk => by first | exact ⟨(.inr (hk.1)), hk.2⟩ | exact (.inr (hk))), by repeat (first | (with_reducible first | exact HB.out | apply below_alloc | apply pw_below_drewN | apply below_drew1 | refine below_set ?_ GE1103.out) | exact HB.out)⟩
   ·
    replace c12 := Bool.eq_false_iff.mpr c12
    subst c12
    have H1 : ((codewrightref01_Gcd.f kj3 l1 l2).bind fun t1112 => ((codewrightref01_DivMod.f kj3 l1 t1112).bind fun bt1115 => ((codewrightref01_DivMod.f kj3 l2 t1112).bind fun bt1121 => (some (a0, bt1115.1, bt1121.1))))) = some (r1, r2, r3) := by rw [if_neg (show ¬ (false = true) by decide)] at H; exact H
    clear H
    have H := H1
    clear H1
    replace H := Option.bind_eq_some_iff.mp H
    obtain ⟨t1112, A200, H⟩ := H
    replace H : ((codewrightref01_DivMod.f kj3 l1 t1112).bind fun bt1115 => ((codewrightref01_DivMod.f kj3 l2 t1112).bind fun bt1121 => (some (a0, bt1115.1, bt1121.1)))) = some (r1, r2, r3) := H
    have A20 := Aside0.mk A200
    clear A200
    replace H := Option.bind_eq_some_iff.mp H
    obtain ⟨⟨t1115, t1118⟩, A210, H⟩ := H
    replace H : ((codewrightref01_DivMod.f kj3 l2 t1112).bind fun bt1121 => (some (a0, t1115, bt1121.1))) = some (r1, r2, r3) := H
    have A21 := Aside0.mk A210
    clear A210
    replace H := Option.bind_eq_some_iff.mp H
    obtain ⟨⟨t1121, t1124⟩, A220, H⟩ := H
    replace H : (some (a0, t1115, t1121)) = some (r1, r2, r3) := H
    have A22 := Aside0.mk A220
    clear A220
    simp only [Option.some.injEq, Prod.mk.injEq] at H
    obtain ⟨rfl, rfl, rfl⟩ := H
    go_wp2_with (first | ((with_reducible refine gate_callee (f := 156) rfl ?_); refine goesL_ (some 23) rfl rfl Try.func156 (by kernel_rfl) rfl #[.slice A1 l1.length c1, .slice A2 l2.length c2] rfl lu ?_; (with_reducible refine (codewrightref01_Gcd.calls kj3 (fun k_ => (((P1_ k_ ∨ P2_ k_) ∨ w.heap.size ≤ k_) ∧ k_ ≠ gb1103)) _ _ l1 (fun k_ => (((P1_ k_ ∨ P2_ k_) ∨ w.heap.size ≤ k_) ∧ k_ ≠ gb1103)) _ _ l2 t1112 _ ?side1 ?side2 A20.out).mono ?_); (case side1 => exact HO_1.out); (case side2 => exact HO_2.out); rintro e w23 ⟨v1113, rfl, ho0, hb⟩; refine ⟨_, rfl, ?_⟩; replace ho0 := R_V_base rfl ho0; replace HO_1 := Aside0.mk (Kd.V_below (vu HO_1.out) hb); replace HO_2 := Aside0.mk (Kd.V_below (vu HO_2.out) hb); have HO1114 := Aside0.mk (Kd.V_lower (Kd.V_mono (ok' := fun k_ => ((P1_ k_ ∨ P2_ k_) ∨ w.heap.size ≤ k_) ∧ k_ ≠ gb1103) ho0 (fun k_ hk_ => ⟨(.inr (Nat.le_trans (below_size (bu1 HB.out GE1103.out)) hk_)), (Kd.freshB (g := gb1103) (o := .cells #[.bool false, .slice none 0 0, .slice none 0 0] 67 (0, 0)) (ku BK1103.out) k_ hk_)⟩)) (below_size (bu1 HB.out GE1103.out))); replace BK1103 := Aside0.mk (blk_below (g := gb1103) (o := .cells #[.bool false, .slice none 0 0, .slice none 0 0] 67 (0, 0)) (ku BK1103.out) hb); replace HB := Aside0.mk (below_step (bu1 HB.out GE1103.out) hb); (try clear hb); (try clear hb2); (try clear hk); (try clear hi); (try clear ho0); obtain ⟨Ao24, co24, eo24⟩ := Kd.V_slice HO1114.out; subst eo24) | ((with_reducible refine gate_callee (f := 157) rfl ?_); refine goesL_ (some 27) rfl rfl Try.func157 (by kernel_rfl) rfl #[.slice A1 l1.length c1, .slice Ao24 t1112.length co24] rfl lu ?_; (with_reducible refine (codewrightref01_DivMod.calls kj3 _ _ l1 _ _ t1112 t1115 t1118 _ ?side1 ?side2 ?side3 ?side4 A21.out).mono ?_); (case side1 => repeat (first | exact (Kd.V_reads' HO_1.out).2.2 | (with_reducible refine Kd.C_alloc ?_ _) | (with_reducible refine Kd.C_drewN ?_ _) | (with_reducible refine Kd.C_drew ?_))); (case side2 => exact (Kd.V_reads' HO_1.out).2.1); (case side3 => repeat (first | exact (Kd.V_reads' HO1114.out).2.2 | (with_reducible refine Kd.C_alloc ?_ _) | (with_reducible refine Kd.C_drewN ?_ _) | (with_reducible refine Kd.C_drew ?_))); (case side4 => exact (Kd.V_reads' HO1114.out).2.1); rintro e w25 ⟨v1116, v1119, rfl, ho0, ho1, hb⟩; refine ⟨_, rfl, ?_⟩; replace ho0 := R_V_base rfl ho0; replace ho1 := R_V_base rfl ho1; replace HO_1 := Aside0.mk (Kd.V_below (vu HO_1.out) hb); replace HO_2 := Aside0.mk (Kd.V_below (vu HO_2.out) hb); replace HO1114 := Aside0.mk (Kd.V_below (vu HO1114.out) hb); have HO1117 := Aside0.mk (Kd.V_lower (Kd.V_mono (ok' := fun k_ => ((P1_ k_ ∨ P2_ k_) ∨ w.heap.size ≤ k_) ∧ k_ ≠ gb1103) ho0 (fun k_ hk_ => ⟨(.inr (Nat.le_trans (below_size (bu1 HB.out GE1103.out)) hk_)), (Kd.freshB (g := gb1103) (o := .cells #[.bool false, .slice none 0 0, .slice none 0 0] 67 (0, 0)) (ku BK1103.out) k_ hk_)⟩)) (below_size (bu1 HB.out GE1103.out))); have HO1120 := Aside0.mk (Kd.V_lower (Kd.V_mono (ok' := fun k_ => ((P1_ k_ ∨ P2_ k_) ∨ w.heap.size ≤ k_) ∧ k_ ≠ gb1103) ho1 (fun k_ hk_ => ⟨(.inr (Nat.le_trans (below_size (bu1 HB.out GE1103.out)) hk_)), (Kd.freshB (g := gb1103) (o := .cells #[.bool false, .slice none 0 0, .slice none 0 0] 67 (0, 0)) (ku BK1103.out) k_ hk_)⟩)) (below_size (bu1 HB.out GE1103.out))); replace BK1103 := Aside0.mk (blk_below (g := gb1103) (o := .cells #[.bool false, .slice none 0 0, .slice none 0 0] 67 (0, 0)) (ku BK1103.out) hb); replace HB := Aside0.mk (below_step (bu1 HB.out GE1103.out) hb); (try clear hb); (try clear hb2); (try clear hk); (try clear hi); (try clear ho0); (try clear ho1)) | ((with_reducible refine gate_callee (f := 157) rfl ?_); refine goesL_ (some 33) rfl rfl Try.func157 (by kernel_rfl) rfl #[.slice A2 l2.length c2, .slice Ao24 t1112.length co24] rfl lu ?_; (with_reducible refine (codewrightref01_DivMod.calls kj3 _ _ l2 _ _ t1112 t1121 t1124 _ ?side1 ?side2 ?side3 ?side4 A22.out).mono ?_); (case side1 => repeat (first | exact (Kd.V_reads' HO_2.out).2.2 | (with_reducible refine Kd.C_alloc ?_ _) | (with_reducible refine Kd.C_drewN ?_ _) | (with_reducible refine Kd.C_drew ?_))); (case side2 => exact (Kd.V_reads' HO_2.out).2.1); (case side3 => repeat (first | exact (Kd.V_reads' HO1114.out).2.2 | (with_reducible refine Kd.C_alloc ?_ _) | (with_reducible refine Kd.C_drewN ?_ _) | (with_reducible refine Kd.C_drew ?_))); (case side4 => exact (Kd.V_reads' HO1114.out).2.1); rintro e w26 ⟨v1122, v1125, rfl, ho0, ho1, hb⟩; refine ⟨_, rfl, ?_⟩; replace ho0 := R_V_base rfl ho0; replace ho1 := R_V_base rfl ho1; replace HO_1 := Aside0.mk (Kd.V_below (vu HO_1.out) hb); replace HO_2 := Aside0.mk (Kd.V_below (vu HO_2.out) hb); replace HO1114 := Aside0.mk (Kd.V_below (vu HO1114.out) hb); replace HO1117 := Aside0.mk (Kd.V_below (vu HO1117.out) hb); replace HO1120 := Aside0.mk (Kd.V_below (vu HO1120.out) hb); have HO1123 := Aside0.mk (Kd.V_lower (Kd.V_mono (ok' := fun k_ => ((P1_ k_ ∨ P2_ k_) ∨ w.heap.size ≤ k_) ∧ k_ ≠ gb1103) ho0 (fun k_ hk_ => ⟨(.inr (Nat.le_trans (below_size (bu1 HB.out GE1103.out)) hk_)), (Kd.freshB (g := gb1103) (o := .cells #[.bool false, .slice none 0 0, .slice none 0 0] 67 (0, 0)) (ku BK1103.out) k_ hk_)⟩)) (below_size (bu1 HB.out GE1103.out))); have HO1126 := Aside0.mk (Kd.V_lower (Kd.V_mono (ok' := fun k_ => ((P1_ k_ ∨ P2_ k_) ∨ w.heap.size ≤ k_) ∧ k_ ≠ gb1103) ho1 (fun k_ hk_ => ⟨(.inr (Nat.le_trans (below_size (bu1 HB.out GE1103.out)) hk_)), (Kd.freshB (g := gb1103) (o := .cells #[.bool false, .slice none 0 0, .slice none 0 0] 67 (0, 0)) (ku BK1103.out) k_ hk_)⟩)) (below_size (bu1 HB.out GE1103.out))); replace BK1103 := Aside0.mk (blk_below (g := gb1103) (o := .cells #[.bool false, .slice none 0 0, .slice none 0 0] 67 (0, 0)) (ku BK1103.out) hb); replace HB := Aside0.mk (below_step (bu1 HB.out GE1103.out) hb); (try clear hb); (try clear hb2); (try clear hk); (try clear hi); (try clear ho0); (try clear ho1); obtain ⟨Ao27, co27, eo27⟩ := Kd.V_slice HO1123.out; subst eo27; obtain ⟨Ao28, co28, eo28⟩ := Kd.V_slice HO1117.out; subst eo28; have hcz29_0 : w26.cell? ⟨gb1103, 0, none⟩ = some (.bool false) := (blk_cell BK1103.out 0).trans rfl; have hcz29_1 : w26.cell? ⟨gb1103, 1, none⟩ = some (.slice none 0 0) := (blk_cell BK1103.out 1).trans rfl; have hcz29_2 : w26.cell? ⟨gb1103, 2, none⟩ = some (.slice none 0 0) := (blk_cell BK1103.out 2).trans rfl; have hfz29_0 := blk_frozen BK1103.out 0; have hfz29_1 := blk_frozen BK1103.out 1; have hfz29_2 := blk_frozen BK1103.out 2))
    refine bodyPost_ret (results_cell_row rfl _ _ gb1103 67 #[.bool a0, .slice Ao28 t1115.length co28, .slice Ao27 t1121.length co27] (0, 0) _ rfl (by (with_reducible repeat (first | refine blk_drewN ?_ _ | refine blk_drew ?_ | refine blk_alloc ?_ _)); refine blk_put (cs := #[.bool a0, .slice Ao28 t1115.length co28, .slice none 0 0]) ?_ 2 _ rfl; (with_reducible repeat (first | refine blk_drewN ?_ _ | refine blk_drew ?_ | refine blk_alloc ?_ _)); refine blk_put (cs := #[.bool a0, .slice none 0 0, .slice none 0 0]) ?_ 1 _ rfl; (with_reducible repeat (first | refine blk_drewN ?_ _ | refine blk_drew ?_ | refine blk_alloc ?_ _)); refine blk_put (cs := #[.bool false, .slice none 0 0, .slice none 0 0]) ?_ 0 _ rfl; (with_reducible repeat (first | refine blk_drewN ?_ _ | refine blk_drew ?_ | refine blk_alloc ?_ _)); exact BK1103.out) Try.underlying67 rfl (by kernel_rfl)) rfl ?_
    exact ⟨_, _, by first | rfl | (simp [errW_none, errW_some] <;> rfl) | (simp [*, errW_none, errW_some] <;> rfl), by (with_reducible repeat (first | apply Kd.V_alloc | apply Kd.V_drewN | apply Kd.V_drew)); exact Kd.V_mono (Kd.V_far (p := ⟨gb1103, 2, none⟩) (Kd.V_far (p := ⟨gb1103, 1, none⟩) (Kd.V_far (p := ⟨gb1103, 0, none⟩) (Kd.V_mono HO1117.out (fun k_ hk => (⟨hk, hk.2⟩ : _ ∧ k_ ≠ gb1103))) (fun _ hk => hk.2) (.bool a0)) (fun _ hk => hk.2) (.slice Ao28 t1115.length co28)) (fun _ hk => hk.2) (.slice Ao27 t1121.length co27)) (fun _ hk => hk.1.1), by (with_reducible repeat (first | apply Kd.V_alloc | apply Kd.V_drewN | apply Kd.V_drew)); exact Kd.V_mono (Kd.V_far (p := ⟨gb1103, 2, none⟩) (Kd.V_far (p := ⟨gb1103, 1, none⟩) (Kd.V_far (p := ⟨gb1103, 0, none⟩) (Kd.V_mono HO1123.out (fun k_ hk => (⟨hk, hk.2⟩ : _ ∧ k_ ≠ gb1103))) (fun _ hk => hk.2) (.bool a0)) (fun _ hk => hk.2) (.slice Ao28 t1115.length co28)) (fun _ hk => hk.2) (.slice Ao27 t1121.length co27)) (fun _ hk => hk.1.1), by repeat (first | (with_reducible first | exact HB.out | apply below_alloc | apply pw_below_drewN | apply below_drew1 | refine below_set ?_ GE1103.out) | exact HB.out)⟩
end Go.Proofs.Ytecfdemglbfnoaa.PT
end
section
namespace Go.Proofs.Ytecfdemglbfnoaa.PT
open Go.RowKit Go.Proofs.YtecfdemglbfnoaaW.PrintWords Go.Proofs.YtecfdemglbfnoaaW.PrintLast Go.Proofs.YtecfdemglbfnoaaW.PrintMore
attribute [local go_sem] max2_int min2_int max_two min_two max_three min_three max_four min_four   -- for this text's walks alone
set_option linter.unusedVariables false
set_option linter.unusedSimpArgs false
def codewrightref02_Trim.f (k : Nat) (a0_0 : Bool) (l0_1 : List Int) (l0_2 : List Int) : Option (Bool × List Int × List Int) := (codewrightref02_Make.f k a0_0 l0_1 l0_2).bind fun bt1129 => (some (bt1129.1, bt1129.2.1, bt1129.2.2))
set_option maxHeartbeats 8000000 in
set_option maxRecDepth 100000 in
theorem codewrightref02_Trim.calls (k : Nat) (a0_0 : Bool) (P0_1_ : Nat → Prop) (A0_1 : Option Addr) (c0_1 : Nat) (l0_1 : List Int) (P0_2_ : Nat → Prop) (A0_2 : Option Addr) (c0_2 : Nat) (l0_2 : List Int) (r1 : Bool) (r2 : List Int) (r3 : List Int) (w : World) (hs0_1 : Kd.V (Kd.int .u32) 48 w w.heap.size (fun k_ => P0_1_ k_) (.slice A0_1 l0_1.length c0_1) l0_1) (hs0_2 : Kd.V (Kd.int .u32) 48 w w.heap.size (fun k_ => P0_2_ k_) (.slice A0_2 l0_2.length c0_2) l0_2) (h : codewrightref02_Trim.f k a0_0 l0_1 l0_2 = some (r1, r2, r3)) :
 Calls Try.prog 88 #[.agg #[.bool a0_0, .slice A0_1 l0_1.length c0_1, .slice A0_2 l0_2.length c0_2]] w fun e w' => ∃ v1_ v2_ : Value, e = .returned (.agg #[.bool r1, v1_, v2_]) ∧ Kd.V (Kd.int .u32) 48 w' w.heap.size (fun k_ => ((P0_1_ k_ ∨ P0_2_ k_) ∨ w.heap.size ≤ k_)) v1_ r2 ∧ Kd.V (Kd.int .u32) 48 w' w.heap.size (fun k_ => ((P0_1_ k_ ∨ P0_2_ k_) ∨ w.heap.size ≤ k_)) v2_ r3 ∧ Below w.heap.size w w' := by
 have hu67 := Try.underlying67
 have HO0_1 := Aside0.mk (show Kd.V (Kd.int .u32) 48 w w.heap.size (fun k_ => ((P0_1_ k_ ∨ P0_2_ k_) ∨ w.heap.size ≤ k_)) (.slice A0_1 l0_1.length c0_1) l0_1 from Kd.V_mono hs0_1 (fun k_ hk => .inl (.inl hk)))
 have HO0_2 := Aside0.mk (show Kd.V (Kd.int .u32) 48 w w.heap.size (fun k_ => ((P0_1_ k_ ∨ P0_2_ k_) ∨ w.heap.size ≤ k_)) (.slice A0_2 l0_2.length c0_2) l0_2 from Kd.V_mono hs0_2 (fun k_ hk => .inl (.inr hk)))
 have HB := Aside0.mk (Below.refl w.heap.size w)
 have H : ((codewrightref02_Make.f k a0_0 l0_1 l0_2).bind fun bt1129 => (some (bt1129.1, bt1129.2.1, bt1129.2.2))) = some (r1, r2, r3) := h
 clear h
 replace H := Option.bind_eq_some_iff.mp H
 obtain ⟨⟨t1129, t1130, t1133⟩, A20, H⟩ := H
 replace H : (some (t1129, t1130, t1133)) = some (r1, r2, r3) := H
 have A2 := Aside0.mk A20
 clear A20
 simp only [Option.some.injEq, Prod.mk.injEq] at H
 obtain ⟨rfl, rfl, rfl⟩ := H
 go_enter Try.func88, Try.ntmps88
 go_wp2_with (first | ((with_reducible refine gate_dst (N := 1) rfl ?_); refine box_event ?hg (N := 1) ?hd (cs := #[.bool a0_0, .slice A0_1 l0_1.length c0_1, .slice A0_2 l0_2.length c0_2]) (t := 67) ?hr ?_; (case hd => rfl); (case hg => rfl); (case hr => first | (go_simp; done) | (go_simp; rfl)); intro gb1127 hg w3 hbox hb; replace HO0_1 := Aside0.mk (Kd.V_below (Kd.V_elderB (vu HO0_1.out) gb1127 (Nat.le_of_eq hg.symm)) hb); replace HO0_2 := Aside0.mk (Kd.V_below (Kd.V_elderB (vu HO0_2.out) gb1127 (Nat.le_of_eq hg.symm)) hb); have BK1127 := Aside0.mk (hbox); have GW1127 := Aside0.mk ((by rw [hg]; exact (below_size (bu HB.out)) : w.heap.size ≤ gb1127)); have GE1127 := Aside0.mk ((by rw [hg]; exact (below_size (bu HB.out)) : w.heap.size ≤ gb1127)); replace HB := Aside0.mk (below_step (bu HB.out) hb); clear hb hbox hg) | ((with_reducible refine gate_dst (N := 2) rfl ?_); refine box_event ?hg (N := 2) ?hd (cs := #[.bool false, .slice none 0 0, .slice none 0 0]) (t := 67) ?hr ?_; (case hd => rfl); (case hg => rfl); (case hr => first | (go_simp; done) | (go_simp; rfl)); intro gb1128 hg w4 hbox hb; replace HO0_1 := Aside0.mk (Kd.V_below (Kd.V_elderB (vu HO0_1.out) gb1128 (Nat.le_of_eq hg.symm)) hb); replace HO0_2 := Aside0.mk (Kd.V_below (Kd.V_elderB (vu HO0_2.out) gb1128 (Nat.le_of_eq hg.symm)) hb); have BK1128 := Aside0.mk (hbox); have GW1128 := Aside0.mk ((by rw [hg]; exact (below_size (bu1 HB.out GE1127.out)) : w.heap.size ≤ gb1128)); have GE1128 := Aside0.mk ((by rw [hg]; exact (below_size (bu1 HB.out GE1127.out)) : w.heap.size ≤ gb1128)); replace HB := Aside0.mk (below_step (bu1 HB.out GE1127.out) hb); have NB1127_1128 := Aside0.mk ((by rw [hg]; exact Nat.ne_of_lt (blk_lt (g := gb1127) (o := .cells #[.bool a0_0, .slice A0_1 l0_1.length c0_1, .slice A0_2 l0_2.length c0_2] 67 (0, 0)) (ku BK1127.out)) : gb1127 ≠ gb1128)); have NB1128_1127 := Aside0.mk ((by rw [hg]; exact Nat.ne_of_gt (blk_lt (g := gb1127) (o := .cells #[.bool a0_0, .slice A0_1 l0_1.length c0_1, .slice A0_2 l0_2.length c0_2] 67 (0, 0)) (ku BK1127.out)) : gb1128 ≠ gb1127)); replace BK1127 := Aside0.mk (blk_below (g := gb1127) (o := .cells #[.bool a0_0, .slice A0_1 l0_1.length c0_1, .slice A0_2 l0_2.length c0_2] 67 (0, 0)) (ku BK1127.out) hb); clear hb hbox hg; have hnb5 := NB1127_1128.out; have hnc5 := NB1128_1127.out; have hcz6_0 : w4.cell? ⟨gb1127, 0, none⟩ = some (.bool a0_0) := (blk_cell BK1127.out 0).trans rfl; have hcz6_1 : w4.cell? ⟨gb1127, 1, none⟩ = some (.slice A0_1 l0_1.length c0_1) := (blk_cell BK1127.out 1).trans rfl; have hcz6_2 : w4.cell? ⟨gb1127, 2, none⟩ = some (.slice A0_2 l0_2.length c0_2) := (blk_cell BK1127.out 2).trans rfl; have hfz6_0 := blk_frozen BK1127.out 0; have hfz6_1 := blk_frozen BK1127.out 1; have hfz6_2 := blk_frozen BK1127.out 2) | ((with_reducible refine gate_callee (f := 80) rfl ?_); refine goesL_ (some 9) rfl rfl Try.func80 (by kernel_rfl) rfl #[.bool a0_0, .slice A0_1 l0_1.length c0_1, .slice A0_2 l0_2.length c0_2] rfl lu ?_; (with_reducible refine (codewrightref02_Make.calls k a0_0 (fun k_ => ((((P0_1_ k_ ∨ P0_2_ k_) ∨ w.heap.size ≤ k_) ∧ k_ ≠ gb1127) ∧ k_ ≠ gb1128)) _ _ l0_1 (fun k_ => ((((P0_1_ k_ ∨ P0_2_ k_) ∨ w.heap.size ≤ k_) ∧ k_ ≠ gb1127) ∧ k_ ≠ gb1128)) _ _ l0_2 t1129 t1130 t1133 _ ?side1 ?side2 A2.out).mono ?_); (case side1 => exact HO0_1.out); (case side2 => exact HO0_2.out); rintro e w7 ⟨v1131, v1134, rfl, ho0, ho1, hb⟩; refine ⟨_, rfl, ?_⟩; replace HO0_1 := Aside0.mk (Kd.V_below (vu HO0_1.out) hb); replace HO0_2 := Aside0.mk (Kd.V_below (vu HO0_2.out) hb); have HO1132 := Aside0.mk (Kd.V_lower (Kd.V_mono (ok' := fun k_ => ((P0_1_ k_ ∨ P0_2_ k_) ∨ w.heap.size ≤ k_) ∧ k_ ≠ gb1127 ∧ k_ ≠ gb1128) ho0 (fun k_ hk_ => ⟨Or.elim hk_ (fun hs_ => Or.elim hs_ (fun hs_ => hs_.1.1) (fun hs_ => hs_.1.1)) (fun hn_ => (.inr (Nat.le_trans (below_size (bu2 HB.out GE1127.out GE1128.out)) hn_))), Or.elim hk_ (fun hs_ => Or.elim hs_ (fun hs_ => hs_.1.2) (fun hs_ => hs_.1.2)) (fun hn_ => (Kd.freshB (g := gb1127) (o := .cells #[.bool a0_0, .slice A0_1 l0_1.length c0_1, .slice A0_2 l0_2.length c0_2] 67 (0, 0)) (ku BK1127.out) k_ hn_)), Or.elim hk_ (fun hs_ => Or.elim hs_ (fun hs_ => hs_.2) (fun hs_ => hs_.2)) (fun hn_ => (Kd.freshB (g := gb1128) (o := .cells #[.bool false, .slice none 0 0, .slice none 0 0] 67 (0, 0)) (ku BK1128.out) k_ hn_))⟩)) (below_size (bu2 HB.out GE1127.out GE1128.out))); have HO1135 := Aside0.mk (Kd.V_lower (Kd.V_mono (ok' := fun k_ => ((P0_1_ k_ ∨ P0_2_ k_) ∨ w.heap.size ≤ k_) ∧ k_ ≠ gb1127 ∧ k_ ≠ gb1128) ho1 (fun k_ hk_ => ⟨Or.elim hk_ (fun hs_ => Or.elim hs_ (fun hs_ => hs_.1.1) (fun hs_ => hs_.1.1)) (fun hn_ => (.inr (Nat.le_trans (below_size (bu2 HB.out GE1127.out GE1128.out)) hn_))), Or.elim hk_ (fun hs_ => Or.elim hs_ (fun hs_ => hs_.1.2) (fun hs_ => hs_.1.2)) (fun hn_ => (Kd.freshB (g := gb1127) (o := .cells #[.bool a0_0, .slice A0_1 l0_1.length c0_1, .slice A0_2 l0_2.length c0_2] 67 (0, 0)) (ku BK1127.out) k_ hn_)), Or.elim hk_ (fun hs_ => Or.elim hs_ (fun hs_ => hs_.2) (fun hs_ => hs_.2)) (fun hn_ => (Kd.freshB (g := gb1128) (o := .cells #[.bool false, .slice none 0 0, .slice none 0 0] 67 (0, 0)) (ku BK1128.out) k_ hn_))⟩)) (below_size (bu2 HB.out GE1127.out GE1128.out))); replace BK1127 := Aside0.mk (blk_below (g := gb1127) (o := .cells #[.bool a0_0, .slice A0_1 l0_1.length c0_1, .slice A0_2 l0_2.length c0_2] 67 (0, 0)) (ku BK1127.out) hb); replace BK1128 := Aside0.mk (blk_below (g := gb1128) (o := .cells #[.bool false, .slice none 0 0, .slice none 0 0] 67 (0, 0)) (ku BK1128.out) hb); replace HB := Aside0.mk (below_step (bu2 HB.out GE1127.out GE1128.out) hb); (try clear hb); (try clear hb2); (try clear hk); (try clear hi); (try clear ho0); (try clear ho1); have hcz8_0 : w7.cell? ⟨gb1128, 0, none⟩ = some (.bool false) := (blk_cell BK1128.out 0).trans rfl; have hcz8_1 : w7.cell? ⟨gb1128, 1, none⟩ = some (.slice none 0 0) := (blk_cell BK1128.out 1).trans rfl; have hcz8_2 : w7.cell? ⟨gb1128, 2, none⟩ = some (.slice none 0 0) := (blk_cell BK1128.out 2).trans rfl; have hfz8_0 := blk_frozen BK1128.out 0; have hfz8_1 := blk_frozen BK1128.out 1; have hfz8_2 := blk_frozen BK1128.out 2; obtain ⟨Ao9, co9, eo9⟩ := Kd.V_slice HO1132.out; subst eo9; obtain ⟨Ao10, co10, eo10⟩ := Kd.V_slice HO1135.out; subst eo10))
 refine bodyPost_ret (results_cell_row rfl _ _ gb1128 67 #[.bool t1129, .slice Ao9 t1130.length co9, .slice Ao10 t1133.length co10] (0, 0) _ rfl (by (with_reducible repeat (first | refine blk_drewN ?_ _ | refine blk_drew ?_ | refine blk_alloc ?_ _)); refine blk_put (cs := #[.bool t1129, .slice Ao9 t1130.length co9, .slice none 0 0]) ?_ 2 _ rfl; (with_reducible repeat (first | refine blk_drewN ?_ _ | refine blk_drew ?_ | refine blk_alloc ?_ _)); refine blk_put (cs := #[.bool t1129, .slice none 0 0, .slice none 0 0]) ?_ 1 _ rfl; (with_reducible repeat (first | refine blk_drewN ?_ _ | refine blk_drew ?_ | refine blk_alloc ?_ _)); refine blk_put (cs := #[.bool false, .slice none 0 0, .slice none 0 0]) ?_ 0 _ rfl; (with_reducible repeat (first | refine blk_drewN ?_ _ | refine blk_drew ?_ | refine blk_alloc ?_ _)); exact BK1128.out) Try.underlying67 rfl (by kernel_rfl)) rfl ?_
 exact ⟨_, _, by first | rfl | (simp [errW_none, errW_some] <;> rfl) | (simp [*, errW_none, errW_some] <;> rfl), by (with_reducible repeat (first | apply Kd.V_alloc | apply Kd.V_drewN | apply Kd.V_drew)); exact Kd.V_mono (Kd.V_far (p := ⟨gb1128, 2, none⟩) (Kd.V_far (p := ⟨gb1128, 1, none⟩) (Kd.V_far (p := ⟨gb1128, 0, none⟩) (Kd.V_mono HO1132.out (fun k_ hk => (⟨hk, hk.2.2⟩ : _ ∧ k_ ≠ gb1128))) (fun _ hk => hk.2) (.bool t1129)) (fun _ hk => hk.2) (.slice Ao9 t1130.length co9)) (fun _ hk => hk.2) (.slice Ao10 t1133.length co10)) (fun _ hk => hk.1.1), by (with_reducible repeat (first | apply Kd.V_alloc | apply Kd.V_drewN | apply Kd.V_drew)); exact Kd.V_mono (Kd.V_far (p := ⟨gb1128, 2, none⟩) (Kd.V_far (p := ⟨gb1128, 1, none⟩) (Kd.V_far (p := ⟨gb1128, 0, none⟩) (Kd.V_mono HO1135.out (fun k_ hk => (⟨hk, hk.2.2⟩ : _ ∧ k_ ≠ gb1128))) (fun _ hk => hk.2) (.bool t1129)) (fun _ hk => hk.2) (.slice Ao9 t1130.length co9)) (fun _ hk => hk.2) (.slice Ao10 t1133.length co10)) (fun _ hk => hk.1.1), by repeat (first | (with_reducible first | exact HB.out | apply below_alloc | apply pw_below_drewN | apply below_drew1 | refine below_set ?_ GE1127.out | refine below_set ?_ GE1128.out) | exact HB.out)⟩
end Go.Proofs.Ytecfdemglbfnoaa.PT
end
section
namespace Go.Proofs.Ytecfdemglbfnoaa.PT
open Go.RowKit Go.Proofs.YtecfdemglbfnoaaW.PrintWords Go.Proofs.YtecfdemglbfnoaaW.PrintLast Go.Proofs.YtecfdemglbfnoaaW.PrintMore
attribute [local go_sem] max2_int min2_int max_two min_two max_three min_three max_four min_four   -- for this text's walks alone
set_option linter.unusedVariables false
set_option linter.unusedSimpArgs false
def codewrightref02_Sign.f (k : Nat) (a0_0 : Bool) (l0_1 : List Int) (l0_2 : List Int) : Option (Int) := (codewrightref02_Trim.f k a0_0 l0_1 l0_2).bind fun bt1137 => (if (bt1137.2.1.length : Int) = 0 then (some 0) else (if bt1137.1 = true then (some (-1)) else (some 1)))
set_option maxHeartbeats 8000000 in
set_option maxRecDepth 100000 in
theorem codewrightref02_Sign.calls (k : Nat) (a0_0 : Bool) (A0_1 : Option Addr) (c0_1 : Nat) (l0_1 : List Int) (A0_2 : Option Addr) (c0_2 : Nat) (l0_2 : List Int) (r : Int) (w : World) (hr0_1 : Kd.C (Kd.int .u32) w A0_1 l0_1.length l0_1) (hc0_1 : l0_1.length ≤ c0_1) (hr0_2 : Kd.C (Kd.int .u32) w A0_2 l0_2.length l0_2) (hc0_2 : l0_2.length ≤ c0_2) (h : codewrightref02_Sign.f k a0_0 l0_1 l0_2 = some r) :
 Calls Try.prog 81 #[.agg #[.bool a0_0, .slice A0_1 l0_1.length c0_1, .slice A0_2 l0_2.length c0_2]] w fun e w' => e = .returned (.int .i64 r) ∧ Below w.heap.size w w' := by
 have hu67 := Try.underlying67
 have HR0_1 := Aside0.mk hr0_1
 have HC0_1 := Aside0.mk hc0_1
 clear hr0_1 hc0_1
 have HR0_2 := Aside0.mk hr0_2
 have HC0_2 := Aside0.mk hc0_2
 clear hr0_2 hc0_2
 have HB := Aside0.mk (Below.refl w.heap.size w)
 have H : ((codewrightref02_Trim.f k a0_0 l0_1 l0_2).bind fun bt1137 => (if (bt1137.2.1.length : Int) = 0 then (some 0) else (if bt1137.1 = true then (some (-1)) else (some 1)))) = some r := h
 clear h
 replace H := Option.bind_eq_some_iff.mp H
 obtain ⟨⟨t1137, t1138, t1141⟩, A20, H⟩ := H
 replace H : (if (t1138.length : Int) = 0 then (some 0) else (if t1137 = true then (some (-1)) else (some 1))) = some r := H
 have A2 := Aside0.mk A20
 clear A20
 by_cases c3 : (t1138.length : Int) = 0
 ·
  rw [if_pos c3] at H
  have c3b0 : ((t1138.length : Int) == 0) = true := beq_iff_eq.mpr c3
  have c3b1 : ((t1138.length : Int) != 0) = false := bne_eq_false_iff_eq.mpr c3
  clear c3
  obtain rfl := Option.some.inj H
  go_enter Try.func81, Try.ntmps81
  go_wp2_with (first | ((with_reducible refine gate_dst (N := 1) rfl ?_); refine box_event ?hg (N := 1) ?hd (cs := #[.bool a0_0, .slice A0_1 l0_1.length c0_1, .slice A0_2 l0_2.length c0_2]) (t := 67) ?hr ?_; (case hd => rfl); (case hg => rfl); (case hr => first | (go_simp; done) | (go_simp; rfl)); intro gb1136 hg w4 hbox hb; have BK1136 := Aside0.mk (hbox); have GW1136 := Aside0.mk ((by rw [hg]; exact (below_size (bu HB.out)) : w.heap.size ≤ gb1136)); have GE1136 := Aside0.mk ((by rw [hg]; exact (below_size (bu HB.out)) : w.heap.size ≤ gb1136)); replace HB := Aside0.mk (below_step (bu HB.out) hb); clear hb hbox hg; have hcz5_0 : w4.cell? ⟨gb1136, 0, none⟩ = some (.bool a0_0) := (blk_cell BK1136.out 0).trans rfl; have hcz5_1 : w4.cell? ⟨gb1136, 1, none⟩ = some (.slice A0_1 l0_1.length c0_1) := (blk_cell BK1136.out 1).trans rfl; have hcz5_2 : w4.cell? ⟨gb1136, 2, none⟩ = some (.slice A0_2 l0_2.length c0_2) := (blk_cell BK1136.out 2).trans rfl; have hfz5_0 := blk_frozen BK1136.out 0; have hfz5_1 := blk_frozen BK1136.out 1; have hfz5_2 := blk_frozen BK1136.out 2) | ((with_reducible refine gate_callee (f := 88) rfl ?_); refine goesL_ (some 4) rfl rfl Try.func88 (by kernel_rfl) rfl #[.agg #[.bool a0_0, .slice A0_1 l0_1.length c0_1, .slice A0_2 l0_2.length c0_2]] rfl lu ?_; (with_reducible refine (codewrightref02_Trim.calls k a0_0 (fun k_ => k_ < w.heap.size) _ _ l0_1 (fun k_ => k_ < w.heap.size) _ _ l0_2 t1137 t1138 t1141 _ ?side1 ?side2 A2.out).mono ?_); (case side1 => exact Kd.V_mk HC0_1.out (Kd.F_below (Kd.C_F (Kd.heap_int .u32) HR0_1.out) (bu1 HB.out GE1136.out))); (case side2 => exact Kd.V_mk HC0_2.out (Kd.F_below (Kd.C_F (Kd.heap_int .u32) HR0_2.out) (bu1 HB.out GE1136.out))); rintro e w6 ⟨v1139, v1142, rfl, ho0, ho1, hb⟩; refine ⟨_, rfl, ?_⟩; have HO1140 := Aside0.mk (Kd.V_lower (Kd.V_mono (ok' := fun k_ => k_ ≠ gb1136) ho0 (fun k_ hk_ => Or.elim hk_ (fun hs_ => Or.elim hs_ (fun hs_ => fun e_ => Nat.not_le.2 hs_ (by rw [e_]; exact GW1136.out)) (fun hs_ => fun e_ => Nat.not_le.2 hs_ (by rw [e_]; exact GW1136.out))) (fun hn_ => (Kd.freshB (g := gb1136) (o := .cells #[.bool a0_0, .slice A0_1 l0_1.length c0_1, .slice A0_2 l0_2.length c0_2] 67 (0, 0)) (ku BK1136.out) k_ hn_)))) (below_size (bu1 HB.out GE1136.out))); have HO1143 := Aside0.mk (Kd.V_lower (Kd.V_mono (ok' := fun k_ => k_ ≠ gb1136) ho1 (fun k_ hk_ => Or.elim hk_ (fun hs_ => Or.elim hs_ (fun hs_ => fun e_ => Nat.not_le.2 hs_ (by rw [e_]; exact GW1136.out)) (fun hs_ => fun e_ => Nat.not_le.2 hs_ (by rw [e_]; exact GW1136.out))) (fun hn_ => (Kd.freshB (g := gb1136) (o := .cells #[.bool a0_0, .slice A0_1 l0_1.length c0_1, .slice A0_2 l0_2.length c0_2] 67 (0, 0)) (ku BK1136.out) k_ hn_)))) (below_size (bu1 HB.out GE1136.out))); replace BK1136 := Aside0.mk (blk_below (g := gb1136) (o := .cells #[.bool a0_0, .slice A0_1 l0_1.length c0_1, .slice A0_2 l0_2.length c0_2] 67 (0, 0)) (ku BK1136.out) hb); replace HB := Aside0.mk (below_step (bu1 HB.out GE1136.out) hb); (try clear hb); (try clear hb2); (try clear hk); (try clear hi); (try clear ho0); (try clear ho1); have hcz7_0 : w6.cell? ⟨gb1136, 0, none⟩ = some (.bool a0_0) := (blk_cell BK1136.out 0).trans rfl; have hcz7_1 : w6.cell? ⟨gb1136, 1, none⟩ = some (.slice A0_1 l0_1.length c0_1) := (blk_cell BK1136.out 1).trans rfl; have hcz7_2 : w6.cell? ⟨gb1136, 2, none⟩ = some (.slice A0_2 l0_2.length c0_2) := (blk_cell BK1136.out 2).trans rfl; have hfz7_0 := blk_frozen BK1136.out 0; have hfz7_1 := blk_frozen BK1136.out 1; have hfz7_2 := blk_frozen BK1136.out 2; obtain ⟨Ao8, co8, eo8⟩ := Kd.V_slice HO1140.out; subst eo8; obtain ⟨Ao9, co9, eo9⟩ := Kd.V_slice HO1143.out; subst eo9))
  go_ret
  exact ⟨by first | rfl | (simp [errW_none, errW_some] <;> rfl) | (simp [*, errW_none, errW_some] <;> rfl), by repeat (first | (with_reducible first | exact HB.out | apply below_alloc | apply pw_below_drewN | apply below_drew1 | refine below_set ?_ GE1136.out) | exact HB.out)⟩
 ·
  rw [if_neg c3] at H
  have c3b0 : ((t1138.length : Int) == 0) = false := beq_eq_false_iff_ne.mpr c3
  have c3b1 : ((t1138.length : Int) != 0) = true := bne_iff_ne.mpr c3
  have c3b2 : ¬ (t1138 = []) := fun h_ => c3 (by rw [h_]; rfl)
  by_cases c10 : t1137 = true
  ·
   subst c10
   have H1 : (some (-1)) = some r := by rw [if_pos rfl] at H; exact H
   clear H
   have H := H1
   clear H1
   obtain rfl := Option.some.inj H
   go_enter Try.func81, Try.ntmps81
   go_wp2_with (first | ((with_reducible refine gate_dst (N := 1) rfl ?_); refine box_event ?hg (N := 1) ?hd (cs := #[.bool a0_0, .slice A0_1 l0_1.length c0_1, .slice A0_2 l0_2.length c0_2]) (t := 67) ?hr ?_; (case hd => rfl); (case hg => rfl); (case hr => first | (go_simp; done) | (go_simp; rfl)); intro gb1136 hg w11 hbox hb; have BK1136 := Aside0.mk (hbox); have GW1136 := Aside0.mk ((by rw [hg]; exact (below_size (bu HB.out)) : w.heap.size ≤ gb1136)); have GE1136 := Aside0.mk ((by rw [hg]; exact (below_size (bu HB.out)) : w.heap.size ≤ gb1136)); replace HB := Aside0.mk (below_step (bu HB.out) hb); clear hb hbox hg; have hcz12_0 : w11.cell? ⟨gb1136, 0, none⟩ = some (.bool a0_0) := (blk_cell BK1136.out 0).trans rfl; have hcz12_1 : w11.cell? ⟨gb1136, 1, none⟩ = some (.slice A0_1 l0_1.length c0_1) := (blk_cell BK1136.out 1).trans rfl; have hcz12_2 : w11.cell? ⟨gb1136, 2, none⟩ = some (.slice A0_2 l0_2.length c0_2) := (blk_cell BK1136.out 2).trans rfl; have hfz12_0 := blk_frozen BK1136.out 0; have hfz12_1 := blk_frozen BK1136.out 1; have hfz12_2 := blk_frozen BK1136.out 2) | ((with_reducible refine gate_callee (f := 88) rfl ?_); refine goesL_ (some 4) rfl rfl Try.func88 (by kernel_rfl) rfl #[.agg #[.bool a0_0, .slice A0_1 l0_1.length c0_1, .slice A0_2 l0_2.length c0_2]] rfl lu ?_; (with_reducible refine (codewrightref02_Trim.calls k a0_0 (fun k_ => k_ < w.heap.size) _ _ l0_1 (fun k_ => k_ < w.heap.size) _ _ l0_2 true t1138 t1141 _ ?side1 ?side2 A2.out).mono ?_); (case side1 => exact Kd.V_mk HC0_1.out (Kd.F_below (Kd.C_F (Kd.heap_int .u32) HR0_1.out) (bu1 HB.out GE1136.out))); (case side2 => exact Kd.V_mk HC0_2.out (Kd.F_below (Kd.C_F (Kd.heap_int .u32) HR0_2.out) (bu1 HB.out GE1136.out))); rintro e w13 ⟨v1139, v1142, rfl, ho0, ho1, hb⟩; refine ⟨_, rfl, ?_⟩; have HO1140 := Aside0.mk (Kd.V_lower (Kd.V_mono (ok' := fun k_ => k_ ≠ gb1136) ho0 (fun k_ hk_ => Or.elim hk_ (fun hs_ => Or.elim hs_ (fun hs_ => fun e_ => Nat.not_le.2 hs_ (by rw [e_]; exact GW1136.out)) (fun hs_ => fun e_ => Nat.not_le.2 hs_ (by rw [e_]; exact GW1136.out))) (fun hn_ => (Kd.freshB (g := gb1136) (o := .cells #[.bool a0_0, .slice A0_1 l0_1.length c0_1, .slice A0_2 l0_2.length c0_2] 67 (0, 0)) (ku BK1136.out) k_ hn_)))) (below_size (bu1 HB.out GE1136.out))); have HO1143 := Aside0.mk (Kd.V_lower (Kd.V_mono (ok' := fun k_ => k_ ≠ gb1136) ho1 (fun k_ hk_ => Or.elim hk_ (fun hs_ => Or.elim hs_ (fun hs_ => fun e_ => Nat.not_le.2 hs_ (by rw [e_]; exact GW1136.out)) (fun hs_ => fun e_ => Nat.not_le.2 hs_ (by rw [e_]; exact GW1136.out))) (fun hn_ => (Kd.freshB (g := gb1136) (o := .cells #[.bool a0_0, .slice A0_1 l0_1.length c0_1, .slice A0_2 l0_2.length c0_2] 67 (0, 0)) (ku BK1136.out) k_ hn_)))) (below_size (bu1 HB.out GE1136.out))); replace BK1136 := Aside0.mk (blk_below (g := gb1136) (o := .cells #[.bool a0_0, .slice A0_1 l0_1.length c0_1, .slice A0_2 l0_2.length c0_2] 67 (0, 0)) (ku BK1136.out) hb); replace HB := Aside0.mk (below_step (bu1 HB.out GE1136.out) hb); (try clear hb); (try clear hb2); (try clear hk); (try clear hi); (try clear ho0); (try clear ho1); have hcz14_0 : w13.cell? ⟨gb1136, 0, none⟩ = some (.bool a0_0) := (blk_cell BK1136.out 0).trans rfl; have hcz14_1 : w13.cell? ⟨gb1136, 1, none⟩ = some (.slice A0_1 l0_1.length c0_1) := (blk_cell BK1136.out 1).trans rfl; have hcz14_2 : w13.cell? ⟨gb1136, 2, none⟩ = some (.slice A0_2 l0_2.length c0_2) := (blk_cell BK1136.out 2).trans rfl; have hfz14_0 := blk_frozen BK1136.out 0; have hfz14_1 := blk_frozen BK1136.out 1; have hfz14_2 := blk_frozen BK1136.out 2; obtain ⟨Ao15, co15, eo15⟩ := Kd.V_slice HO1140.out; subst eo15; obtain ⟨Ao16, co16, eo16⟩ := Kd.V_slice HO1143.out; subst eo16))
   go_ret
   exact ⟨by first | rfl | (simp [errW_none, errW_some] <;> rfl) | (simp [*, errW_none, errW_some] <;> rfl), by repeat (first | (with_reducible first | exact HB.out | apply below_alloc | apply pw_below_drewN | apply below_drew1 | refine below_set ?_ GE1136.out) | exact HB.out)⟩
  ·
   replace c10 := Bool.eq_false_iff.mpr c10
   subst c10
   have H1 : (some 1) = some r := by rw [if_neg (show ¬ (false = true) by decide)] at H; exact H
   clear H
   have H := H1
   clear H1
   obtain rfl := Option.some.inj H
   go_enter Try.func81, Try.ntmps81
   go_wp2_with (first | ((with_reducible refine gate_dst (N := 1) rfl ?_); refine box_event ?hg (N := 1) ?hd (cs := #[.bool a0_0, .slice A0_1 l0_1.length c0_1, .slice A0_2 l0_2.length c0_2]) (t := 67) ?hr ?_; (case hd => rfl); (case hg => rfl); (case hr => first | (go_simp; done) | (go_simp; rfl)); intro gb1136 hg w17 hbox hb; have BK1136 := Aside0.mk (hbox); have GW1136 := Aside0.mk ((by rw [hg]; exact (below_size (bu HB.out)) : w.heap.size ≤ gb1136)); have GE1136 := Aside0.mk ((by rw [hg]; exact (below_size (bu HB.out)) : w.heap.size ≤ gb1136)); replace HB := Aside0.mk (below_step (bu HB.out) hb); clear hb hbox hg; have hcz18_0 : w17.cell? ⟨gb1136, 0, none⟩ = some (.bool a0_0) := (blk_cell BK1136.out 0).trans rfl; have hcz18_1 : w17.cell? ⟨gb1136, 1, none⟩ = some (.slice A0_1 l0_1.length c0_1) := (blk_cell BK1136.out 1).trans rfl; have hcz18_2 : w17.cell? ⟨gb1136, 2, none⟩ = some (.slice A0_2 l0_2.length c0_2) := (blk_cell BK1136.out 2).trans rfl; have hfz18_0 := blk_frozen BK1136.out 0; have hfz18_1 := blk_frozen BK1136.out 1; have hfz18_2 := blk_frozen BK1136.out 2) | ((with_reducible refine gate_callee (f := 88) rfl ?_); refine goesL_ (some 4) rfl rfl Try.func88 (by kernel_rfl) rfl #[.agg #[.bool a0_0, .slice A0_1 l0_1.length c0_1, .slice A0_2 l0_2.length c0_2]] rfl lu ?_; (with_reducible refine (codewrightref02_Trim.calls k a0_0 (fun k_ => k_ < w.heap.size) _ _ l0_1 (fun k_ => k_ < w.heap.size) _ _ l0_2 false t1138 t1141 _ ?side1 ?side2 A2.out).mono ?_); (case side1 => exact Kd.V_mk HC0_1.out (Kd.F_below (Kd.C_F (Kd.heap_int .u32) HR0_1.out) (bu1 HB.out GE1136.out))); (case side2 => exact Kd.V_mk HC0_2.out (Kd.F_below (Kd.C_F (Kd.heap_int .u32) HR0_2.out) (bu1 HB.out GE1136.out))); rintro e w19 ⟨v1139, v1142, rfl, ho0, ho1, hb⟩; refine ⟨_, rfl, ?_⟩; have HO1140 := Aside0.mk (Kd.V_lower (Kd.V_mono (ok' := fun k_ => k_ ≠ gb1136) ho0 (fun k_ hk_ => Or.elim hk_ (fun hs_ => Or.elim hs_ (fun hs_ => fun e_ => Nat.not_le.2 hs_ (by rw [e_]; exact GW1136.out)) (fun hs_ => fun e_ => Nat.not_le.2 hs_ (by rw [e_]; exact GW1136.out))) (fun hn_ => (Kd.freshB (g := gb1136) (o := .cells #[.bool a0_0, .slice A0_1 l0_1.length c0_1, .slice A0_2 l0_2.length c0_2] 67 (0, 0)) (ku BK1136.out) k_ hn_)))) (below_size (bu1 HB.out GE1136.out))); have HO1143 := Aside0.mk (Kd.V_lower (Kd.V_mono (ok' := fun k_ => k_ ≠ gb1136) ho1 (fun k_ hk_ => Or.elim hk_ (fun hs_ => Or.elim hs_ (fun hs_ => fun e_ => Nat.not_le.2 hs_ (by rw [e_]; exact GW1136.out)) (fun hs_ => fun e_ => Nat.not_le.2 hs_ (by rw [e_]; exact GW1136.out))) (fun hn_ => (Kd.freshB (g := gb1136) (o := .cells #[.bool a0_0, .slice A0_1 l0_1.length c0_1, .slice A0_2 l0_2.length c0_2] 67 (0, 0)) (ku BK1136.out) k_ hn_)))) (below_size (bu1 HB.out GE1136.out))); replace BK1136 := Aside0.mk (blk_below (g := gb1136) (o := .cells #[.bool a0_0, .slice A0_1 l0_1.length c0_1, .slice A0_2 l0_2.length c0_2] 67 (0, 0)) (ku BK1136.out) hb); replace HB := Aside0.mk (below_step (bu1 HB.out GE1136.out) hb); (try clear hb); (try clear hb2); (try clear hk); (try clear hi); (try clear ho0); (try clear ho1); have hcz20_0 : w19.cell? ⟨gb1136, 0, none⟩ = some (.bool a0_0) := (blk_cell BK1136.out 0).trans rfl; have hcz20_1 : w19.cell? ⟨gb1136, 1, none⟩ = some (.slice A0_1 l0_1.length c0_1) := (blk_cell BK1136.out 1).trans rfl; have hcz20_2 : w19.cell? ⟨gb1136, 2, none⟩ = some (.slice A0_2 l0_2.length c0_2) := (blk_cell BK1136.out 2).trans rfl; have hfz20_0 := blk_frozen BK1136.out 0; have hfz20_1 := blk_frozen BK1136.out 1; have hfz20_2 := blk_frozen BK1136.out 2; obtain ⟨Ao21, co21, eo21⟩ := Kd.V_slice HO1140.out; subst eo21; obtain ⟨Ao22, co22, eo22⟩ := Kd.V_slice HO1143.out; subst eo22))
   go_ret
   exact ⟨by first | rfl | (simp [errW_none, errW_some] <;> rfl) | (simp [*, errW_none, errW_some] <;> rfl), by repeat (first | (with_reducible first | exact HB.out | apply below_alloc | apply pw_below_drewN | apply below_drew1 | refine below_set ?_ GE1136.out) | exact HB.out)⟩
end Go.Proofs.Ytecfdemglbfnoaa.PT
end
section
namespace Go.Proofs.Ytecfdemglbfnoaa.PT
open Go.RowKit Go.Proofs.YtecfdemglbfnoaaW.PrintWords Go.Proofs.YtecfdemglbfnoaaW.PrintLast Go.Proofs.YtecfdemglbfnoaaW.PrintMore
attribute [local go_sem] max2_int min2_int max_two min_two max_three min_three max_four min_four   -- for this text's walks alone
set_option linter.unusedVariables false
set_option linter.unusedSimpArgs false
def codewrightref01_Same.l0 : Nat → List Int → List Int → Int → Option (Bool)
 | 0, _, _, _ => none
 | k + 1, x0, x1, x5 => if x5 < (x0.length : Int) then (if 0 ≤ x5 then (if x5 < (x1.length : Int) then (if (rd x0 x5) = (rd x1 x5) then (codewrightref01_Same.l0 k x0 x1 (wrap64 (x5 + 1))) else (some false)) else (none)) else (none)) else (some true)
def codewrightref01_Same.f (k : Nat) (l0 : List Int) (l1 : List Int) : Option (Bool) := if (l0.length : Int) = (l1.length : Int) then (codewrightref01_Same.l0 k l0 l1 0) else (some false)
set_option maxHeartbeats 8000000 in
set_option maxRecDepth 100000 in
theorem codewrightref01_Same.calls (k : Nat) (A0 : Option Addr) (c0 : Nat) (l0 : List Int) (A1 : Option Addr) (c1 : Nat) (l1 : List Int) (r : Bool) (w : World) (hr0 : Kd.C (Kd.int .u32) w A0 l0.length l0) (hc0 : l0.length ≤ c0) (hr1 : Kd.C (Kd.int .u32) w A1 l1.length l1) (hc1 : l1.length ≤ c1) (h : codewrightref01_Same.f k l0 l1 = some r) :
 Calls Try.prog 51 #[.slice A0 l0.length c0, .slice A1 l1.length c1] w fun e w' => e = .returned (.bool r) ∧ Drawn0 w w' := by
 have HR0 := Aside0.mk hr0
 have HC0 := Aside0.mk hc0
 clear hr0 hc0
 have HR1 := Aside0.mk hr1
 have HC1 := Aside0.mk hc1
 clear hr1 hc1
 have H : (if (l0.length : Int) = (l1.length : Int) then (codewrightref01_Same.l0 k l0 l1 0) else (some false)) = some r := h
 clear h
 by_cases c3 : (l0.length : Int) = (l1.length : Int)
 ·
  rw [if_pos c3] at H
  have c3b0 : ((l0.length : Int) == (l1.length : Int)) = true := beq_iff_eq.mpr c3
  have c3b1 : ((l0.length : Int) != (l1.length : Int)) = false := bne_eq_false_iff_eq.mpr c3
  have c3b2 : (l0.length == l1.length) = true := by first | simpa using c3 | (simp at c3 ⊢; omega)
  clear c3
  have H' := Aside0.mk H
  clear H
  go_enter Try.func51, Try.ntmps51
  go_wp2
  repeat (go_quiet (fail); try go_wp2)
  go_loopg [5] k (fun kq v5 w' => ∃ (x5_1 : Int), v5 = .int .i64 x5_1 ∧ Aside0 (codewrightref01_Same.l0 kq l0 l1 x5_1 = some r) ∧ Aside0 (kq ≤ k) ∧ Drawn0 w w')
  case atStart => exact ⟨(0), (by first | rfl | (simp; done) | (simp [*]; done)), H', ⟨Nat.le_refl _⟩, by repeat (first | exact Drawn0.refl _ | apply Drawn0.step)⟩
  case round =>
   clear H'
   try clear c1
   try clear p2
   try clear c3
   try clear c3b0
   try clear c3b1
   try clear c3b2
   obtain ⟨x5_1, rfl, HA, HK1, ⟨m1, rfl⟩⟩ := hrel
   cases gk with
   | zero => exact absurd HA.out (by simp [codewrightref01_Same.l0])
   | succ k1 =>
    have H := HA.out
    clear HA
    simp only [codewrightref01_Same.l0] at H
    by_cases c4 : x5_1 < (l0.length : Int)
    ·
     rw [if_pos c4] at H
     have c4b0 : decide (x5_1 < (l0.length : Int)) = true := decide_eq_true c4
     clear c4
     by_cases c5 : 0 ≤ x5_1
     ·
      rw [if_pos c5] at H
      have c5b0 : decide (0 ≤ x5_1) = true := decide_eq_true c5
      clear c5
      by_cases c6 : x5_1 < (l1.length : Int)
      ·
       rw [if_pos c6] at H
       have c6b0 : decide (x5_1 < (l1.length : Int)) = true := decide_eq_true c6
       clear c6
       by_cases c7 : (rd l0 x5_1) = (rd l1 x5_1)
       ·
        rw [if_pos c7] at H
        have c7b0 : ((rd l0 x5_1) == (rd l1 x5_1)) = true := beq_iff_eq.mpr c7
        have c7b1 : ((rd l0 x5_1) != (rd l1 x5_1)) = false := bne_eq_false_iff_eq.mpr c7
        clear c7
        have H' := Aside0.mk H
        clear H
        have p250 : 0 ≤ (x5_1 : Int) := of_decide_eq_true (by first | (with_reducible assumption) | assumption)
        have q250 : x5_1 < (l0.length : Int) := of_decide_eq_true (by first | (with_reducible assumption) | assumption)
        obtain ⟨ad250, e250, hx250_0⟩ := Kd.at_int HR0.out x5_1 p250 q250
        cases e250
        replace p250 := eq_true p250
        replace q250 := eq_true q250
        have p251 : 0 ≤ (x5_1 : Int) := of_decide_eq_true (by first | (with_reducible assumption) | assumption)
        have q251 : x5_1 < (l1.length : Int) := of_decide_eq_true (by first | (with_reducible assumption) | assumption)
        obtain ⟨ad251, e251, hx251_0⟩ := Kd.at_int HR1.out x5_1 p251 q251
        cases e251
        replace p251 := eq_true p251
        replace q251 := eq_true q251
        go_wp2
        repeat (go_quiet (fail); try go_wp2)
        go_roundg k1
        case measure => have := HK1.out; omega
        case rel => exact ⟨(wrap64 (x5_1 + 1)), (by first | rfl | (simp; done) | (simp [*]; done)), H', ⟨by have := HK1.out; omega⟩, by repeat (first | exact Drawn0.refl _ | apply Drawn0.step)⟩
       ·
        rw [if_neg c7] at H
        have c7b0 : ((rd l0 x5_1) == (rd l1 x5_1)) = false := beq_eq_false_iff_ne.mpr c7
        have c7b1 : ((rd l0 x5_1) != (rd l1 x5_1)) = true := bne_iff_ne.mpr c7
        obtain rfl := Option.some.inj H
        have p250 : 0 ≤ (x5_1 : Int) := of_decide_eq_true (by first | (with_reducible assumption) | assumption)
        have q250 : x5_1 < (l0.length : Int) := of_decide_eq_true (by first | (with_reducible assumption) | assumption)
        obtain ⟨ad250, e250, hx250_0⟩ := Kd.at_int HR0.out x5_1 p250 q250
        cases e250
        replace p250 := eq_true p250
        replace q250 := eq_true q250
        have p251 : 0 ≤ (x5_1 : Int) := of_decide_eq_true (by first | (with_reducible assumption) | assumption)
        have q251 : x5_1 < (l1.length : Int) := of_decide_eq_true (by first | (with_reducible assumption) | assumption)
        obtain ⟨ad251, e251, hx251_0⟩ := Kd.at_int HR1.out x5_1 p251 q251
        cases e251
        replace p251 := eq_true p251
        replace q251 := eq_true q251
        go_wp2
        repeat (go_quiet (fail); try go_wp2)
        go_ret
        exact ⟨by first | rfl | (simp; done) | (simp [*]; done), by repeat (first | exact Drawn0.refl _ | apply Drawn0.step)⟩
      ·
       rw [if_neg c6] at H
       exact absurd H (by simp)
     ·
      rw [if_neg c5] at H
      exact absurd H (by simp)
    ·
     rw [if_neg c4] at H
     have c4b0 : decide (x5_1 < (l0.length : Int)) = false := decide_eq_false c4
     clear c4
     obtain rfl := Option.some.inj H
     go_wp2
     repeat (go_quiet (fail); try go_wp2)
     go_ret
     exact ⟨by first | rfl | (simp; done) | (simp [*]; done), by repeat (first | exact Drawn0.refl _ | apply Drawn0.step)⟩
 ·
  rw [if_neg c3] at H
  have c3b0 : ((l0.length : Int) == (l1.length : Int)) = false := beq_eq_false_iff_ne.mpr c3
  have c3b1 : ((l0.length : Int) != (l1.length : Int)) = true := bne_iff_ne.mpr c3
  have c3b2 : (l0.length == l1.length) = false := by first | simpa using c3 | (simp at c3 ⊢; omega)
  obtain rfl := Option.some.inj H
  go_enter Try.func51, Try.ntmps51
  go_wp2
  repeat (go_quiet (fail); try go_wp2)
  go_ret
  exact ⟨by first | rfl | (simp; done) | (simp [*]; done), by repeat (first | exact Drawn0.refl _ | apply Drawn0.step)⟩
end Go.Proofs.Ytecfdemglbfnoaa.PT
end
section
namespace Go.Proofs.Ytecfdemglbfnoaa.PT
open Go.RowKit Go.Proofs.YtecfdemglbfnoaaW.PrintWords Go.Proofs.YtecfdemglbfnoaaW.PrintLast Go.Proofs.YtecfdemglbfnoaaW.PrintMore
attribute [local go_sem] max2_int min2_int max_two min_two max_three min_three max_four min_four   -- for this text's walks alone
set_option linter.unusedVariables false
set_option linter.unusedSimpArgs false
def codewrightref02_Same.f (k : Nat) (a0_0 : Bool) (l0_1 : List Int) (l0_2 : List Int) (a1_0 : Bool) (l1_1 : List Int) (l1_2 : List Int) : Option (Bool) := if (a0_0 == a1_0) = true then ((codewrightref01_Same.f k l0_1 l1_1).bind fun t1147 => (if t1147 = true then ((codewrightref01_Same.f k l0_2 l1_2).bind fun t1148 => (some t1148)) else (some false))) else (some false)
set_option maxHeartbeats 8000000 in
set_option maxRecDepth 100000 in
theorem codewrightref02_Same.calls (k : Nat) (a0_0 : Bool) (A0_1 : Option Addr) (c0_1 : Nat) (l0_1 : List Int) (A0_2 : Option Addr) (c0_2 : Nat) (l0_2 : List Int) (a1_0 : Bool) (A1_1 : Option Addr) (c1_1 : Nat) (l1_1 : List Int) (A1_2 : Option Addr) (c1_2 : Nat) (l1_2 : List Int) (r : Bool) (w : World) (hr0_1 : Kd.C (Kd.int .u32) w A0_1 l0_1.length l0_1) (hc0_1 : l0_1.length ≤ c0_1) (hr0_2 : Kd.C (Kd.int .u32) w A0_2 l0_2.length l0_2) (hc0_2 : l0_2.length ≤ c0_2) (hr1_1 : Kd.C (Kd.int .u32) w A1_1 l1_1.length l1_1) (hc1_1 : l1_1.length ≤ c1_1) (hr1_2 : Kd.C (Kd.int .u32) w A1_2 l1_2.length l1_2) (hc1_2 : l1_2.length ≤ c1_2) (h : codewrightref02_Same.f k a0_0 l0_1 l0_2 a1_0 l1_1 l1_2 = some r) :
 Calls Try.prog 110 #[.agg #[.bool a0_0, .slice A0_1 l0_1.length c0_1, .slice A0_2 l0_2.length c0_2], .agg #[.bool a1_0, .slice A1_1 l1_1.length c1_1, .slice A1_2 l1_2.length c1_2]] w fun e w' => e = .returned (.bool r) ∧ Below w.heap.size w w' := by
 have hu67 := Try.underlying67
 have HR0_1 := Aside0.mk hr0_1
 have HC0_1 := Aside0.mk hc0_1
 clear hr0_1 hc0_1
 have HR0_2 := Aside0.mk hr0_2
 have HC0_2 := Aside0.mk hc0_2
 clear hr0_2 hc0_2
 have HR1_1 := Aside0.mk hr1_1
 have HC1_1 := Aside0.mk hc1_1
 clear hr1_1 hc1_1
 have HR1_2 := Aside0.mk hr1_2
 have HC1_2 := Aside0.mk hc1_2
 clear hr1_2 hc1_2
 have HB := Aside0.mk (Below.refl w.heap.size w)
 have H : (if (a0_0 == a1_0) = true then ((codewrightref01_Same.f k l0_1 l1_1).bind fun t1147 => (if t1147 = true then ((codewrightref01_Same.f k l0_2 l1_2).bind fun t1148 => (some t1148)) else (some false))) else (some false)) = some r := h
 clear h
 by_cases c3 : (a0_0 == a1_0) = true
 ·
  rw [if_pos c3] at H
  have c3b0 : (a0_0 == a1_0) = true := c3
  (try (have c3b1 : decide (a0_0 = a1_0) = true := by simpa using c3))
  (try (have c3b2 : (a0_0 == a1_0) = true := by simpa using c3))
  clear c3
  replace H := Option.bind_eq_some_iff.mp H
  obtain ⟨t1147, A40, H⟩ := H
  replace H : (if t1147 = true then ((codewrightref01_Same.f k l0_2 l1_2).bind fun t1148 => (some t1148)) else (some false)) = some r := H
  have A4 := Aside0.mk A40
  clear A40
  by_cases c5 : t1147 = true
  ·
   subst c5
   have H1 : ((codewrightref01_Same.f k l0_2 l1_2).bind fun t1148 => (some t1148)) = some r := by rw [if_pos rfl] at H; exact H
   clear H
   have H := H1
   clear H1
   replace H := Option.bind_eq_some_iff.mp H
   obtain ⟨t1148, A60, H⟩ := H
   replace H : (some t1148) = some r := H
   have A6 := Aside0.mk A60
   clear A60
   obtain rfl := Option.some.inj H
   go_enter Try.func110, Try.ntmps110
   go_wp2_with (first | ((with_reducible refine gate_dst (N := 2) rfl ?_); refine box_event ?hg (N := 2) ?hd (cs := #[.bool a0_0, .slice A0_1 l0_1.length c0_1, .slice A0_2 l0_2.length c0_2]) (t := 67) ?hr ?_; (case hd => rfl); (case hg => rfl); (case hr => first | (go_simp; done) | (go_simp; rfl)); intro gb1145 hg w7 hbox hb; have BK1145 := Aside0.mk (hbox); have GW1145 := Aside0.mk ((by rw [hg]; exact (below_size (bu HB.out)) : w.heap.size ≤ gb1145)); have GE1145 := Aside0.mk ((by rw [hg]; exact (below_size (bu HB.out)) : w.heap.size ≤ gb1145)); replace HB := Aside0.mk (below_step (bu HB.out) hb); clear hb hbox hg) | ((with_reducible refine gate_dst (N := 3) rfl ?_); refine box_event ?hg (N := 3) ?hd (cs := #[.bool a1_0, .slice A1_1 l1_1.length c1_1, .slice A1_2 l1_2.length c1_2]) (t := 67) ?hr ?_; (case hd => rfl); (case hg => rfl); (case hr => first | (go_simp; done) | (go_simp; rfl)); intro gb1146 hg w8 hbox hb; have BK1146 := Aside0.mk (hbox); have GW1146 := Aside0.mk ((by rw [hg]; exact (below_size (bu1 HB.out GE1145.out)) : w.heap.size ≤ gb1146)); have GE1146 := Aside0.mk ((by rw [hg]; exact (below_size (bu1 HB.out GE1145.out)) : w.heap.size ≤ gb1146)); replace HB := Aside0.mk (below_step (bu1 HB.out GE1145.out) hb); have NB1145_1146 := Aside0.mk ((by rw [hg]; exact Nat.ne_of_lt (blk_lt (g := gb1145) (o := .cells #[.bool a0_0, .slice A0_1 l0_1.length c0_1, .slice A0_2 l0_2.length c0_2] 67 (0, 0)) (ku BK1145.out)) : gb1145 ≠ gb1146)); have NB1146_1145 := Aside0.mk ((by rw [hg]; exact Nat.ne_of_gt (blk_lt (g := gb1145) (o := .cells #[.bool a0_0, .slice A0_1 l0_1.length c0_1, .slice A0_2 l0_2.length c0_2] 67 (0, 0)) (ku BK1145.out)) : gb1146 ≠ gb1145)); replace BK1145 := Aside0.mk (blk_below (g := gb1145) (o := .cells #[.bool a0_0, .slice A0_1 l0_1.length c0_1, .slice A0_2 l0_2.length c0_2] 67 (0, 0)) (ku BK1145.out) hb); clear hb hbox hg; have hnb9 := NB1145_1146.out; have hnc9 := NB1146_1145.out; have hcz10_0 : w8.cell? ⟨gb1145, 0, none⟩ = some (.bool a0_0) := (blk_cell BK1145.out 0).trans rfl; have hcz10_1 : w8.cell? ⟨gb1145, 1, none⟩ = some (.slice A0_1 l0_1.length c0_1) := (blk_cell BK1145.out 1).trans rfl; have hcz10_2 : w8.cell? ⟨gb1145, 2, none⟩ = some (.slice A0_2 l0_2.length c0_2) := (blk_cell BK1145.out 2).trans rfl; have hfz10_0 := blk_frozen BK1145.out 0; have hfz10_1 := blk_frozen BK1145.out 1; have hfz10_2 := blk_frozen BK1145.out 2; have hcz11_0 : w8.cell? ⟨gb1146, 0, none⟩ = some (.bool a1_0) := (blk_cell BK1146.out 0).trans rfl; have hcz11_1 : w8.cell? ⟨gb1146, 1, none⟩ = some (.slice A1_1 l1_1.length c1_1) := (blk_cell BK1146.out 1).trans rfl; have hcz11_2 : w8.cell? ⟨gb1146, 2, none⟩ = some (.slice A1_2 l1_2.length c1_2) := (blk_cell BK1146.out 2).trans rfl; have hfz11_0 := blk_frozen BK1146.out 0; have hfz11_1 := blk_frozen BK1146.out 1; have hfz11_2 := blk_frozen BK1146.out 2) | (go_at_call 51; (with_reducible refine (codewrightref01_Same.calls k _ _ l0_1 _ _ l1_1 true _ ?side1 ?side2 ?side3 ?side4 A4.out).mono ?_); (case side1 => repeat (first | exact (Kd.C_below HR0_1.out HB.out) | (with_reducible refine Kd.C_alloc ?_ _) | (with_reducible refine Kd.C_drewN ?_ _) | (with_reducible refine Kd.C_drew ?_))); (case side2 => exact HC0_1.out); (case side3 => repeat (first | exact (Kd.C_below HR1_1.out HB.out) | (with_reducible refine Kd.C_alloc ?_ _) | (with_reducible refine Kd.C_drewN ?_ _) | (with_reducible refine Kd.C_drew ?_))); (case side4 => exact HC1_1.out); rintro e w' ⟨rfl, ⟨nd, rfl⟩⟩) | (go_at_call 51; (with_reducible refine (codewrightref01_Same.calls k _ _ l0_2 _ _ l1_2 t1148 _ ?side1 ?side2 ?side3 ?side4 A6.out).mono ?_); (case side1 => repeat (first | exact (Kd.C_below HR0_2.out (bu2 HB.out GE1145.out GE1146.out)) | (with_reducible refine Kd.C_alloc ?_ _) | (with_reducible refine Kd.C_drewN ?_ _) | (with_reducible refine Kd.C_drew ?_))); (case side2 => exact HC0_2.out); (case side3 => repeat (first | exact (Kd.C_below HR1_2.out (bu2 HB.out GE1145.out GE1146.out)) | (with_reducible refine Kd.C_alloc ?_ _) | (with_reducible refine Kd.C_drewN ?_ _) | (with_reducible refine Kd.C_drew ?_))); (case side4 => exact HC1_2.out); rintro e w' ⟨rfl, ⟨nd, rfl⟩⟩))
   go_ret
   exact ⟨by first | rfl | (simp [errW_none, errW_some] <;> rfl) | (simp [*, errW_none, errW_some] <;> rfl), by repeat (first | (with_reducible first | exact HB.out | apply below_alloc | apply pw_below_drewN | apply below_drew1 | refine below_set ?_ GE1145.out | refine below_set ?_ GE1146.out) | exact HB.out)⟩
  ·
   replace c5 := Bool.eq_false_iff.mpr c5
   subst c5
   have H1 : (some false) = some r := by rw [if_neg (show ¬ (false = true) by decide)] at H; exact H
   clear H
   have H := H1
   clear H1
   obtain rfl := Option.some.inj H
   go_enter Try.func110, Try.ntmps110
   go_wp2_with (first | ((with_reducible refine gate_dst (N := 2) rfl ?_); refine box_event ?hg (N := 2) ?hd (cs := #[.bool a0_0, .slice A0_1 l0_1.length c0_1, .slice A0_2 l0_2.length c0_2]) (t := 67) ?hr ?_; (case hd => rfl); (case hg => rfl); (case hr => first | (go_simp; done) | (go_simp; rfl)); intro gb1145 hg w12 hbox hb; have BK1145 := Aside0.mk (hbox); have GW1145 := Aside0.mk ((by rw [hg]; exact (below_size (bu HB.out)) : w.heap.size ≤ gb1145)); have GE1145 := Aside0.mk ((by rw [hg]; exact (below_size (bu HB.out)) : w.heap.size ≤ gb1145)); replace HB := Aside0.mk (below_step (bu HB.out) hb); clear hb hbox hg) | ((with_reducible refine gate_dst (N := 3) rfl ?_); refine box_event ?hg (N := 3) ?hd (cs := #[.bool a1_0, .slice A1_1 l1_1.length c1_1, .slice A1_2 l1_2.length c1_2]) (t := 67) ?hr ?_; (case hd => rfl); (case hg => rfl); (case hr => first | (go_simp; done) | (go_simp; rfl)); intro gb1146 hg w13 hbox hb; have BK1146 := Aside0.mk (hbox); have GW1146 := Aside0.mk ((by rw [hg]; exact (below_size (bu1 HB.out GE1145.out)) : w.heap.size ≤ gb1146)); have GE1146 := Aside0.mk ((by rw [hg]; exact (below_size (bu1 HB.out GE1145.out)) : w.heap.size ≤ gb1146)); replace HB := Aside0.mk (below_step (bu1 HB.out GE1145.out) hb); have NB1145_1146 := Aside0.mk ((by rw [hg]; exact Nat.ne_of_lt (blk_lt (g := gb1145) (o := .cells #[.bool a0_0, .slice A0_1 l0_1.length c0_1, .slice A0_2 l0_2.length c0_2] 67 (0, 0)) (ku BK1145.out)) : gb1145 ≠ gb1146)); have NB1146_1145 := Aside0.mk ((by rw [hg]; exact Nat.ne_of_gt (blk_lt (g := gb1145) (o := .cells #[.bool a0_0, .slice A0_1 l0_1.length c0_1, .slice A0_2 l0_2.length c0_2] 67 (0, 0)) (ku BK1145.out)) : gb1146 ≠ gb1145)); replace BK1145 := Aside0.mk (blk_below (g := gb1145) (o := .cells #[.bool a0_0, .slice A0_1 l0_1.length c0_1, .slice A0_2 l0_2.length c0_2] 67 (0, 0)) (ku BK1145.out) hb); clear hb hbox hg; have hnb14 := NB1145_1146.out; have hnc14 := NB1146_1145.out; have hcz15_0 : w13.cell? ⟨gb1145, 0, none⟩ = some (.bool a0_0) := (blk_cell BK1145.out 0).trans rfl; have hcz15_1 : w13.cell? ⟨gb1145, 1, none⟩ = some (.slice A0_1 l0_1.length c0_1) := (blk_cell BK1145.out 1).trans rfl; have hcz15_2 : w13.cell? ⟨gb1145, 2, none⟩ = some (.slice A0_2 l0_2.length c0_2) := (blk_cell BK1145.out 2).trans rfl; have hfz15_0 := blk_frozen BK1145.out 0; have hfz15_1 := blk_frozen BK1145.out 1; have hfz15_2 := blk_frozen BK1145.out 2; have hcz16_0 : w13.cell? ⟨gb1146, 0, none⟩ = some (.bool a1_0) := (blk_cell BK1146.out 0).trans rfl; have hcz16_1 : w13.cell? ⟨gb1146, 1, none⟩ = some (.slice A1_1 l1_1.length c1_1) := (blk_cell BK1146.out 1).trans rfl; have hcz16_2 : w13.cell? ⟨gb1146, 2, none⟩ = some (.slice A1_2 l1_2.length c1_2) := (blk_cell BK1146.out 2).trans rfl; have hfz16_0 := blk_frozen BK1146.out 0; have hfz16_1 := blk_frozen BK1146.out 1; have hfz16_2 := blk_frozen BK1146.out 2) | (go_at_call 51; (with_reducible refine (codewrightref01_Same.calls k _ _ l0_1 _ _ l1_1 false _ ?side1 ?side2 ?side3 ?side4 A4.out).mono ?_); (case side1 => repeat (first | exact (Kd.C_below HR0_1.out HB.out) | (with_reducible refine Kd.C_alloc ?_ _) | (with_reducible refine Kd.C_drewN ?_ _) | (with_reducible refine Kd.C_drew ?_))); (case side2 => exact HC0_1.out); (case side3 => repeat (first | exact (Kd.C_below HR1_1.out HB.out) | (with_reducible refine Kd.C_alloc ?_ _) | (with_reducible refine Kd.C_drewN ?_ _) | (with_reducible refine Kd.C_drew ?_))); (case side4 => exact HC1_1.out); rintro e w' ⟨rfl, ⟨nd, rfl⟩⟩))
   go_ret
   exact ⟨by first | rfl | (simp [errW_none, errW_some] <;> rfl) | (simp [*, errW_none, errW_some] <;> rfl), by repeat (first | (with_reducible first | exact HB.out | apply below_alloc | apply pw_below_drewN | apply below_drew1 | refine below_set ?_ GE1145.out | refine below_set ?_ GE1146.out) | exact HB.out)⟩
 ·
  rw [if_neg c3] at H
  have c3b0 : (a0_0 == a1_0) = false := by simpa using c3
  (try (have c3b1 : decide (a0_0 = a1_0) = false := by simpa using c3))
  (try (have c3b2 : (a0_0 == a1_0) = false := by simpa using c3))
  (try (have c3b3 : ¬ (a0_0 = a1_0) := by simpa using c3))
  clear c3
  obtain rfl := Option.some.inj H
  go_enter Try.func110, Try.ntmps110
  go_wp2_with (first | ((with_reducible refine gate_dst (N := 2) rfl ?_); refine box_event ?hg (N := 2) ?hd (cs := #[.bool a0_0, .slice A0_1 l0_1.length c0_1, .slice A0_2 l0_2.length c0_2]) (t := 67) ?hr ?_; (case hd => rfl); (case hg => rfl); (case hr => first | (go_simp; done) | (go_simp; rfl)); intro gb1145 hg w17 hbox hb; have BK1145 := Aside0.mk (hbox); have GW1145 := Aside0.mk ((by rw [hg]; exact (below_size (bu HB.out)) : w.heap.size ≤ gb1145)); have GE1145 := Aside0.mk ((by rw [hg]; exact (below_size (bu HB.out)) : w.heap.size ≤ gb1145)); replace HB := Aside0.mk (below_step (bu HB.out) hb); clear hb hbox hg) | ((with_reducible refine gate_dst (N := 3) rfl ?_); refine box_event ?hg (N := 3) ?hd (cs := #[.bool a1_0, .slice A1_1 l1_1.length c1_1, .slice A1_2 l1_2.length c1_2]) (t := 67) ?hr ?_; (case hd => rfl); (case hg => rfl); (case hr => first | (go_simp; done) | (go_simp; rfl)); intro gb1146 hg w18 hbox hb; have BK1146 := Aside0.mk (hbox); have GW1146 := Aside0.mk ((by rw [hg]; exact (below_size (bu1 HB.out GE1145.out)) : w.heap.size ≤ gb1146)); have GE1146 := Aside0.mk ((by rw [hg]; exact (below_size (bu1 HB.out GE1145.out)) : w.heap.size ≤ gb1146)); replace HB := Aside0.mk (below_step (bu1 HB.out GE1145.out) hb); have NB1145_1146 := Aside0.mk ((by rw [hg]; exact Nat.ne_of_lt (blk_lt (g := gb1145) (o := .cells #[.bool a0_0, .slice A0_1 l0_1.length c0_1, .slice A0_2 l0_2.length c0_2] 67 (0, 0)) (ku BK1145.out)) : gb1145 ≠ gb1146)); have NB1146_1145 := Aside0.mk ((by rw [hg]; exact Nat.ne_of_gt (blk_lt (g := gb1145) (o := .cells #[.bool a0_0, .slice A0_1 l0_1.length c0_1, .slice A0_2 l0_2.length c0_2] 67 (0, 0)) (ku BK1145.out)) : gb1146 ≠ gb1145)); replace BK1145 := Aside0.mk (blk_below (g := gb1145) (o := .cells #[.bool a0_0, .slice A0_1 l0_1.length c0_1, .slice A0_2 l0_2.length c0_2] 67 (0, 0)) (ku BK1145.out) hb); clear hb hbox hg; have hnb19 := NB1145_1146.out; have hnc19 := NB1146_1145.out; have hcz20_0 : w18.cell? ⟨gb1145, 0, none⟩ = some (.bool a0_0) := (blk_cell BK1145.out 0).trans rfl; have hcz20_1 : w18.cell? ⟨gb1145, 1, none⟩ = some (.slice A0_1 l0_1.length c0_1) := (blk_cell BK1145.out 1).trans rfl; have hcz20_2 : w18.cell? ⟨gb1145, 2, none⟩ = some (.slice A0_2 l0_2.length c0_2) := (blk_cell BK1145.out 2).trans rfl; have hfz20_0 := blk_frozen BK1145.out 0; have hfz20_1 := blk_frozen BK1145.out 1; have hfz20_2 := blk_frozen BK1145.out 2; have hcz21_0 : w18.cell? ⟨gb1146, 0, none⟩ = some (.bool a1_0) := (blk_cell BK1146.out 0).trans rfl; have hcz21_1 : w18.cell? ⟨gb1146, 1, none⟩ = some (.slice A1_1 l1_1.length c1_1) := (blk_cell BK1146.out 1).trans rfl; have hcz21_2 : w18.cell? ⟨gb1146, 2, none⟩ = some (.slice A1_2 l1_2.length c1_2) := (blk_cell BK1146.out 2).trans rfl; have hfz21_0 := blk_frozen BK1146.out 0; have hfz21_1 := blk_frozen BK1146.out 1; have hfz21_2 := blk_frozen BK1146.out 2))
  go_ret
  exact ⟨by first | rfl | (simp [errW_none, errW_some] <;> rfl) | (simp [*, errW_none, errW_some] <;> rfl), by repeat (first | (with_reducible first | exact HB.out | apply below_alloc | apply pw_below_drewN | apply below_drew1 | refine below_set ?_ GE1145.out | refine below_set ?_ GE1146.out) | exact HB.out)⟩
end Go.Proofs.Ytecfdemglbfnoaa.PT
end
section
namespace Go.Proofs.Ytecfdemglbfnoaa.PT
open Go.RowKit Go.Proofs.YtecfdemglbfnoaaW.PrintWords Go.Proofs.YtecfdemglbfnoaaW.PrintLast Go.Proofs.YtecfdemglbfnoaaW.PrintMore
attribute [local go_sem] max2_int min2_int max_two min_two max_three min_three max_four min_four   -- for this text's walks alone
set_option linter.unusedVariables false
set_option linter.unusedSimpArgs false
def codewrightlaw02_same.f (k : Nat) (a0_0 : Bool) (l0_1 : List Int) (l0_2 : List Int) (a1_0 : Bool) (l1_1 : List Int) (l1_2 : List Int) : Option (Bool) := (codewrightref02_Same.f k a0_0 l0_1 l0_2 a1_0 l1_1 l1_2).bind fun t1151 => (some t1151)
set_option maxHeartbeats 8000000 in
set_option maxRecDepth 100000 in
theorem codewrightlaw02_same.calls (k : Nat) (a0_0 : Bool) (A0_1 : Option Addr) (c0_1 : Nat) (l0_1 : List Int) (A0_2 : Option Addr) (c0_2 : Nat) (l0_2 : List Int) (a1_0 : Bool) (A1_1 : Option Addr) (c1_1 : Nat) (l1_1 : List Int) (A1_2 : Option Addr) (c1_2 : Nat) (l1_2 : List Int) (r : Bool) (w : World) (hr0_1 : Kd.C (Kd.int .u32) w A0_1 l0_1.length l0_1) (hc0_1 : l0_1.length ≤ c0_1) (hr0_2 : Kd.C (Kd.int .u32) w A0_2 l0_2.length l0_2) (hc0_2 : l0_2.length ≤ c0_2) (hr1_1 : Kd.C (Kd.int .u32) w A1_1 l1_1.length l1_1) (hc1_1 : l1_1.length ≤ c1_1) (hr1_2 : Kd.C (Kd.int .u32) w A1_2 l1_2.length l1_2) (hc1_2 : l1_2.length ≤ c1_2) (h : codewrightlaw02_same.f k a0_0 l0_1 l0_2 a1_0 l1_1 l1_2 = some r) :
 Calls Try.prog 83 #[.agg #[.bool a0_0, .slice A0_1 l0_1.length c0_1, .slice A0_2 l0_2.length c0_2], .agg #[.bool a1_0, .slice A1_1 l1_1.length c1_1, .slice A1_2 l1_2.length c1_2]] w fun e w' => e = .returned (.bool r) ∧ Below w.heap.size w w' := by
 have hu67 := Try.underlying67
 have HR0_1 := Aside0.mk hr0_1
 have HC0_1 := Aside0.mk hc0_1
 clear hr0_1 hc0_1
 have HR0_2 := Aside0.mk hr0_2
 have HC0_2 := Aside0.mk hc0_2
 clear hr0_2 hc0_2
 have HR1_1 := Aside0.mk hr1_1
 have HC1_1 := Aside0.mk hc1_1
 clear hr1_1 hc1_1
 have HR1_2 := Aside0.mk hr1_2
 have HC1_2 := Aside0.mk hc1_2
 clear hr1_2 hc1_2
 have HB := Aside0.mk (Below.refl w.heap.size w)
 have H : ((codewrightref02_Same.f k a0_0 l0_1 l0_2 a1_0 l1_1 l1_2).bind fun t1151 => (some t1151)) = some r := h
 clear h
 replace H := Option.bind_eq_some_iff.mp H
 obtain ⟨t1151, A30, H⟩ := H
 replace H : (some t1151) = some r := H
 have A3 := Aside0.mk A30
 clear A30
 obtain rfl := Option.some.inj H
 go_enter Try.func83, Try.ntmps83
 go_wp2_with (first | ((with_reducible refine gate_dst (N := 2) rfl ?_); refine box_event ?hg (N := 2) ?hd (cs := #[.bool a0_0, .slice A0_1 l0_1.length c0_1, .slice A0_2 l0_2.length c0_2]) (t := 67) ?hr ?_; (case hd => rfl); (case hg => rfl); (case hr => first | (go_simp; done) | (go_simp; rfl)); intro gb1149 hg w4 hbox hb; have BK1149 := Aside0.mk (hbox); have GW1149 := Aside0.mk ((by rw [hg]; exact (below_size (bu HB.out)) : w.heap.size ≤ gb1149)); have GE1149 := Aside0.mk ((by rw [hg]; exact (below_size (bu HB.out)) : w.heap.size ≤ gb1149)); replace HB := Aside0.mk (below_step (bu HB.out) hb); clear hb hbox hg) | ((with_reducible refine gate_dst (N := 3) rfl ?_); refine box_event ?hg (N := 3) ?hd (cs := #[.bool a1_0, .slice A1_1 l1_1.length c1_1, .slice A1_2 l1_2.length c1_2]) (t := 67) ?hr ?_; (case hd => rfl); (case hg => rfl); (case hr => first | (go_simp; done) | (go_simp; rfl)); intro gb1150 hg w5 hbox hb; have BK1150 := Aside0.mk (hbox); have GW1150 := Aside0.mk ((by rw [hg]; exact (below_size (bu1 HB.out GE1149.out)) : w.heap.size ≤ gb1150)); have GE1150 := Aside0.mk ((by rw [hg]; exact (below_size (bu1 HB.out GE1149.out)) : w.heap.size ≤ gb1150)); replace HB := Aside0.mk (below_step (bu1 HB.out GE1149.out) hb); have NB1149_1150 := Aside0.mk ((by rw [hg]; exact Nat.ne_of_lt (blk_lt (g := gb1149) (o := .cells #[.bool a0_0, .slice A0_1 l0_1.length c0_1, .slice A0_2 l0_2.length c0_2] 67 (0, 0)) (ku BK1149.out)) : gb1149 ≠ gb1150)); have NB1150_1149 := Aside0.mk ((by rw [hg]; exact Nat.ne_of_gt (blk_lt (g := gb1149) (o := .cells #[.bool a0_0, .slice A0_1 l0_1.length c0_1, .slice A0_2 l0_2.length c0_2] 67 (0, 0)) (ku BK1149.out)) : gb1150 ≠ gb1149)); replace BK1149 := Aside0.mk (blk_below (g := gb1149) (o := .cells #[.bool a0_0, .slice A0_1 l0_1.length c0_1, .slice A0_2 l0_2.length c0_2] 67 (0, 0)) (ku BK1149.out) hb); clear hb hbox hg; have hnb6 := NB1149_1150.out; have hnc6 := NB1150_1149.out; have hcz7_0 : w5.cell? ⟨gb1149, 0, none⟩ = some (.bool a0_0) := (blk_cell BK1149.out 0).trans rfl; have hcz7_1 : w5.cell? ⟨gb1149, 1, none⟩ = some (.slice A0_1 l0_1.length c0_1) := (blk_cell BK1149.out 1).trans rfl; have hcz7_2 : w5.cell? ⟨gb1149, 2, none⟩ = some (.slice A0_2 l0_2.length c0_2) := (blk_cell BK1149.out 2).trans rfl; have hfz7_0 := blk_frozen BK1149.out 0; have hfz7_1 := blk_frozen BK1149.out 1; have hfz7_2 := blk_frozen BK1149.out 2; have hcz8_0 : w5.cell? ⟨gb1150, 0, none⟩ = some (.bool a1_0) := (blk_cell BK1150.out 0).trans rfl; have hcz8_1 : w5.cell? ⟨gb1150, 1, none⟩ = some (.slice A1_1 l1_1.length c1_1) := (blk_cell BK1150.out 1).trans rfl; have hcz8_2 : w5.cell? ⟨gb1150, 2, none⟩ = some (.slice A1_2 l1_2.length c1_2) := (blk_cell BK1150.out 2).trans rfl; have hfz8_0 := blk_frozen BK1150.out 0; have hfz8_1 := blk_frozen BK1150.out 1; have hfz8_2 := blk_frozen BK1150.out 2) | ((with_reducible refine gate_callee (f := 110) rfl ?_); refine goesL_ (some 7) rfl rfl Try.func110 (by kernel_rfl) rfl #[.agg #[.bool a0_0, .slice A0_1 l0_1.length c0_1, .slice A0_2 l0_2.length c0_2], .agg #[.bool a1_0, .slice A1_1 l1_1.length c1_1, .slice A1_2 l1_2.length c1_2]] rfl lu ?_; (with_reducible refine (codewrightref02_Same.calls k a0_0 _ _ l0_1 _ _ l0_2 a1_0 _ _ l1_1 _ _ l1_2 t1151 _ ?side1 ?side2 ?side3 ?side4 ?side5 ?side6 ?side7 ?side8 A3.out).mono ?_); (case side1 => repeat (first | exact (Kd.C_below HR0_1.out HB.out) | (with_reducible refine Kd.C_alloc ?_ _) | (with_reducible refine Kd.C_drewN ?_ _) | (with_reducible refine Kd.C_drew ?_))); (case side2 => exact HC0_1.out); (case side3 => repeat (first | exact (Kd.C_below HR0_2.out HB.out) | (with_reducible refine Kd.C_alloc ?_ _) | (with_reducible refine Kd.C_drewN ?_ _) | (with_reducible refine Kd.C_drew ?_))); (case side4 => exact HC0_2.out); (case side5 => repeat (first | exact (Kd.C_below HR1_1.out HB.out) | (with_reducible refine Kd.C_alloc ?_ _) | (with_reducible refine Kd.C_drewN ?_ _) | (with_reducible refine Kd.C_drew ?_))); (case side6 => exact HC1_1.out); (case side7 => repeat (first | exact (Kd.C_below HR1_2.out HB.out) | (with_reducible refine Kd.C_alloc ?_ _) | (with_reducible refine Kd.C_drewN ?_ _) | (with_reducible refine Kd.C_drew ?_))); (case side8 => exact HC1_2.out); rintro e w9 ⟨rfl, hb⟩; refine ⟨_, rfl, ?_⟩; replace BK1149 := Aside0.mk (blk_below (g := gb1149) (o := .cells #[.bool a0_0, .slice A0_1 l0_1.length c0_1, .slice A0_2 l0_2.length c0_2] 67 (0, 0)) (ku BK1149.out) hb); replace BK1150 := Aside0.mk (blk_below (g := gb1150) (o := .cells #[.bool a1_0, .slice A1_1 l1_1.length c1_1, .slice A1_2 l1_2.length c1_2] 67 (0, 0)) (ku BK1150.out) hb); replace HB := Aside0.mk (below_step (bu2 HB.out GE1149.out GE1150.out) hb); (try clear hb); (try clear hb2); (try clear hk); (try clear hi)))
 go_ret
 exact ⟨by first | rfl | (simp [errW_none, errW_some] <;> rfl) | (simp [*, errW_none, errW_some] <;> rfl), by repeat (first | (with_reducible first | exact HB.out | apply below_alloc | apply pw_below_drewN | apply below_drew1 | refine below_set ?_ GE1149.out | refine below_set ?_ GE1150.out) | exact HB.out)⟩
end Go.Proofs.Ytecfdemglbfnoaa.PT
end
section
namespace Go.Proofs.Ytecfdemglbfnoaa.PT
open Go.RowKit Go.Proofs.YtecfdemglbfnoaaW.PrintWords Go.Proofs.YtecfdemglbfnoaaW.PrintLast Go.Proofs.YtecfdemglbfnoaaW.PrintMore
attribute [local go_sem] max2_int min2_int max_two min_two max_three min_three max_four min_four   -- for this text's walks alone
set_option linter.unusedVariables false
set_option linter.unusedSimpArgs false
def codewrightlaw02_long.l0 : Nat → Int → List (S67) → Int → Option (Bool)
 | 0, _, _, _ => none
 | k + 1, x0, x1, x5 => if x5 < (x1.length : Int) then (if 0 ≤ x5 then (if (wrap64 ((((rd_T67 x1 x5).f1).length : Int) + (((rd_T67 x1 x5).f2).length : Int))) > x0 then (some true) else (codewrightlaw02_long.l0 k x0 x1 (wrap64 (x5 + 1)))) else (none)) else (some false)
def codewrightlaw02_long.f (k : Nat) (a0 : Int) (l1 : List (S67)) : Option (Bool) := codewrightlaw02_long.l0 k a0 l1 0
set_option maxHeartbeats 8000000 in
set_option maxRecDepth 100000 in
theorem codewrightlaw02_long.calls (k : Nat) (a0 : Int) (A1 : Option Addr) (c1 : Nat) (l1 : List (S67)) (r : Bool) (w : World) (hr1 : Kd.C k67 w A1 l1.length l1) (hc1 : l1.length ≤ c1) (h : codewrightlaw02_long.f k a0 l1 = some r) :
 Calls Try.prog 86 #[.int .i64 a0, .slice A1 l1.length c1] w fun e w' => e = .returned (.bool r) ∧ Drawn0 w w' := by
 have HR1 := Aside0.mk hr1
 have HC1 := Aside0.mk hc1
 clear hr1 hc1
 have H : (codewrightlaw02_long.l0 k a0 l1 0) = some r := h
 clear h
 have H' := Aside0.mk H
 clear H
 go_enter Try.func86, Try.ntmps86
 go_wp2
 repeat (go_quiet (fail); try go_wp2)
 go_loopg [5] k (fun kq v5 w' => ∃ (x5_1 : Int), v5 = .int .i64 x5_1 ∧ Aside0 (codewrightlaw02_long.l0 kq a0 l1 x5_1 = some r) ∧ Aside0 (kq ≤ k) ∧ Drawn0 w w')
 case atStart => exact ⟨(0), (by first | rfl | (simp; done) | (simp [*]; done)), H', ⟨Nat.le_refl _⟩, by repeat (first | exact Drawn0.refl _ | apply Drawn0.step)⟩
 case round =>
  clear H'
  try clear c1
  try clear p2
  obtain ⟨x5_1, rfl, HA, HK1, ⟨m1, rfl⟩⟩ := hrel
  cases gk with
  | zero => exact absurd HA.out (by simp [codewrightlaw02_long.l0])
  | succ k1 =>
   have H := HA.out
   clear HA
   simp only [codewrightlaw02_long.l0] at H
   by_cases c3 : x5_1 < (l1.length : Int)
   ·
    rw [if_pos c3] at H
    have c3b0 : decide (x5_1 < (l1.length : Int)) = true := decide_eq_true c3
    clear c3
    by_cases c4 : 0 ≤ x5_1
    ·
     rw [if_pos c4] at H
     have c4b0 : decide (0 ≤ x5_1) = true := decide_eq_true c4
     clear c4
     by_cases c5 : (wrap64 ((((rd_T67 l1 x5_1).f1).length : Int) + (((rd_T67 l1 x5_1).f2).length : Int))) > a0
     ·
      rw [if_pos c5] at H
      have c5b0 : decide (a0 < (wrap64 ((((rd_T67 l1 x5_1).f1).length : Int) + (((rd_T67 l1 x5_1).f2).length : Int)))) = true := decide_eq_true c5
      clear c5
      obtain rfl := Option.some.inj H
      have p1252 : 0 ≤ (x5_1 : Int) := of_decide_eq_true (by first | (with_reducible assumption) | assumption)
      have q1252 : x5_1 < (l1.length : Int) := of_decide_eq_true (by first | (with_reducible assumption) | assumption)
      obtain ⟨ad1252, A1252_1, c1252_1, A1252_2, c1252_2, e1252, hx1252_0, hx1252_1, hx1252_2, hl1252_1, hi1252_1, hl1252_2, hi1252_2⟩ := at_T67 HR1.out x5_1 p1252 q1252
      cases e1252
      have HR1252_1 := Aside0.mk hi1252_1
      have HC1252_1 := Aside0.mk hl1252_1
      clear hi1252_1 hl1252_1
      have HR1252_2 := Aside0.mk hi1252_2
      have HC1252_2 := Aside0.mk hl1252_2
      clear hi1252_2 hl1252_2
      replace p1252 := eq_true p1252
      replace q1252 := eq_true q1252
      have p1253 : 0 ≤ (x5_1 : Int) := of_decide_eq_true (by first | (with_reducible assumption) | assumption)
      have q1253 : x5_1 < (l1.length : Int) := of_decide_eq_true (by first | (with_reducible assumption) | assumption)
      obtain ⟨ad1253, A1253_1, c1253_1, A1253_2, c1253_2, e1253, hx1253_0, hx1253_1, hx1253_2, hl1253_1, hi1253_1, hl1253_2, hi1253_2⟩ := at_T67 HR1.out x5_1 p1253 q1253
      obtain rfl : ad1252 = ad1253 := (by injection e1253)
      have HR1253_1 := Aside0.mk hi1253_1
      have HC1253_1 := Aside0.mk hl1253_1
      clear hi1253_1 hl1253_1
      have HR1253_2 := Aside0.mk hi1253_2
      have HC1253_2 := Aside0.mk hl1253_2
      clear hi1253_2 hl1253_2
      replace p1253 := eq_true p1253
      replace q1253 := eq_true q1253
      have ea_ := Option.some.inj (hx1252_1.symm.trans hx1253_1)
      injection ea_ with ea_ en_ ec_
      subst ea_
      subst ec_
      clear en_
      have ea_ := Option.some.inj (hx1252_2.symm.trans hx1253_2)
      injection ea_ with ea_ en_ ec_
      subst ea_
      subst ec_
      clear en_
      go_wp2
      repeat (go_quiet (fail); try go_wp2)
      go_ret
      exact ⟨by first | rfl | (simp; done) | (simp [*]; done), by repeat (first | exact Drawn0.refl _ | apply Drawn0.step)⟩
     ·
      rw [if_neg c5] at H
      have c5b0 : decide (a0 < (wrap64 ((((rd_T67 l1 x5_1).f1).length : Int) + (((rd_T67 l1 x5_1).f2).length : Int)))) = false := decide_eq_false c5
      clear c5
      have H' := Aside0.mk H
      clear H
      have p1252 : 0 ≤ (x5_1 : Int) := of_decide_eq_true (by first | (with_reducible assumption) | assumption)
      have q1252 : x5_1 < (l1.length : Int) := of_decide_eq_true (by first | (with_reducible assumption) | assumption)
      obtain ⟨ad1252, A1252_1, c1252_1, A1252_2, c1252_2, e1252, hx1252_0, hx1252_1, hx1252_2, hl1252_1, hi1252_1, hl1252_2, hi1252_2⟩ := at_T67 HR1.out x5_1 p1252 q1252
      cases e1252
      have HR1252_1 := Aside0.mk hi1252_1
      have HC1252_1 := Aside0.mk hl1252_1
      clear hi1252_1 hl1252_1
      have HR1252_2 := Aside0.mk hi1252_2
      have HC1252_2 := Aside0.mk hl1252_2
      clear hi1252_2 hl1252_2
      replace p1252 := eq_true p1252
      replace q1252 := eq_true q1252
      have p1253 : 0 ≤ (x5_1 : Int) := of_decide_eq_true (by first | (with_reducible assumption) | assumption)
      have q1253 : x5_1 < (l1.length : Int) := of_decide_eq_true (by first | (with_reducible assumption) | assumption)
      obtain ⟨ad1253, A1253_1, c1253_1, A1253_2, c1253_2, e1253, hx1253_0, hx1253_1, hx1253_2, hl1253_1, hi1253_1, hl1253_2, hi1253_2⟩ := at_T67 HR1.out x5_1 p1253 q1253
      obtain rfl : ad1252 = ad1253 := (by injection e1253)
      have HR1253_1 := Aside0.mk hi1253_1
      have HC1253_1 := Aside0.mk hl1253_1
      clear hi1253_1 hl1253_1
      have HR1253_2 := Aside0.mk hi1253_2
      have HC1253_2 := Aside0.mk hl1253_2
      clear hi1253_2 hl1253_2
      replace p1253 := eq_true p1253
      replace q1253 := eq_true q1253
      have ea_ := Option.some.inj (hx1252_1.symm.trans hx1253_1)
      injection ea_ with ea_ en_ ec_
      subst ea_
      subst ec_
      clear en_
      have ea_ := Option.some.inj (hx1252_2.symm.trans hx1253_2)
      injection ea_ with ea_ en_ ec_
      subst ea_
      subst ec_
      clear en_
      go_wp2
      repeat (go_quiet (fail); try go_wp2)
      go_roundg k1
      case measure => have := HK1.out; omega
      case rel => exact ⟨(wrap64 (x5_1 + 1)), (by first | rfl | (simp; done) | (simp [*]; done)), H', ⟨by have := HK1.out; omega⟩, by repeat (first | exact Drawn0.refl _ | apply Drawn0.step)⟩
    ·
     rw [if_neg c4] at H
     exact absurd H (by simp)
   ·
    rw [if_neg c3] at H
    have c3b0 : decide (x5_1 < (l1.length : Int)) = false := decide_eq_false c3
    clear c3
    obtain rfl := Option.some.inj H
    go_wp2
    repeat (go_quiet (fail); try go_wp2)
    go_ret
    exact ⟨by first | rfl | (simp; done) | (simp [*]; done), by repeat (first | exact Drawn0.refl _ | apply Drawn0.step)⟩
end Go.Proofs.Ytecfdemglbfnoaa.PT
end
section
namespace Go.Proofs.Ytecfdemglbfnoaa.PT
open Go.RowKit Go.Proofs.YtecfdemglbfnoaaW.PrintWords Go.Proofs.YtecfdemglbfnoaaW.PrintLast Go.Proofs.YtecfdemglbfnoaaW.PrintMore
attribute [local go_sem] max2_int min2_int max_two min_two max_three min_three max_four min_four   -- for this text's walks alone
set_option linter.unusedVariables false
set_option linter.unusedSimpArgs false
def nat_short.l0 : Nat → List Int → Int → Option (List Int)
 | 0, _, _ => none
 | k + 1, x0, x3 => if x3 > 0 then (if 0 ≤ (wrap64 (x3 - 1)) then (if (wrap64 (x3 - 1)) < (x0.length : Int) then (if (rd x0 (wrap64 (x3 - 1))) = 0 then (nat_short.l0 k x0 (wrap64 (x3 - 1))) else (if 0 ≤ x3 then (if x3 ≤ (x0.length : Int) then (some (x0.take (x3 : Int).toNat)) else (none)) else (none))) else (none)) else (none)) else (if 0 ≤ x3 then (if x3 ≤ (x0.length : Int) then (some (x0.take (x3 : Int).toNat)) else (none)) else (none))
def nat_short.f (k : Nat) (l0 : List Int) : Option (List Int) := nat_short.l0 k l0 (l0.length : Int)
set_option maxHeartbeats 8000000 in
set_option maxRecDepth 100000 in
theorem nat_short.calls (k : Nat) (P0_ : Nat → Prop) (A0 : Option Addr) (c0 : Nat) (l0 : List Int) (r : List Int) (w : World) (hs0 : Kd.V (Kd.int .u32) 48 w w.heap.size (fun k_ => P0_ k_) (.slice A0 l0.length c0) l0) (h : nat_short.f k l0 = some r) :
 Calls Try.prog 179 #[.slice A0 l0.length c0] w fun e w' => ∃ v0_ : Value, e = .returned (v0_) ∧ Kd.V (Kd.int .u32) 48 w' w.heap.size (fun k_ => (P0_ k_ ∨ w.heap.size ≤ k_)) v0_ r ∧ Below w.heap.size w w' := by
 have HO0 := Aside0.mk (show Kd.V (Kd.int .u32) 48 w w.heap.size (fun k_ => (P0_ k_ ∨ w.heap.size ≤ k_)) (.slice A0 l0.length c0) l0 from Kd.V_mono hs0 (fun k_ hk => .inl hk))
 have HB := Aside0.mk (Below.refl w.heap.size w)
 have H : (nat_short.l0 k l0 (l0.length : Int)) = some r := h
 clear h
 have H' := Aside0.mk H
 clear H
 go_enter Try.func179, Try.ntmps179
 go_wp2
 go_loopg [3] k (fun kq v3 w' => ∃ (x3_1 : Int), v3 = .int .i64 x3_1 ∧ Aside0 (nat_short.l0 kq l0 x3_1 = some r) ∧ Aside0 (kq ≤ k) ∧ Aside0 (Kd.V (Kd.int .u32) 48 w' w.heap.size (fun k_ => (P0_ k_ ∨ w.heap.size ≤ k_)) (.slice A0 l0.length c0) l0) ∧ Aside0 (Below w.heap.size w w'))
 case atStart => exact ⟨((l0.length : Int)), (by first | rfl | (simp; done) | (simp [*]; done)), H', ⟨Nat.le_refl _⟩, ⟨by (with_reducible repeat (first | apply Kd.V_alloc | apply Kd.V_drewN | apply Kd.V_drew)); exact HO0.out⟩, ⟨by repeat (first | (with_reducible first | exact HB.out | apply below_alloc | apply pw_below_drewN | apply below_drew1) | exact HB.out)⟩⟩
 case round =>
  clear H'
  try clear c1
  obtain ⟨x3_1, rfl, HA, HK1, HO_0, HB⟩ := hrel
  cases gk with
  | zero => exact absurd HA.out (by simp [nat_short.l0])
  | succ k1 =>
   have H := HA.out
   clear HA
   simp only [nat_short.l0] at H
   by_cases c2 : x3_1 > 0
   ·
    rw [if_pos c2] at H
    have c2b0 : decide (0 < x3_1) = true := decide_eq_true c2
    clear c2
    obtain ⟨ji3, hji3⟩ : ∃ j_ : Int, (wrap64 (x3_1 - 1)) = j_ := ⟨_, rfl⟩
    replace H : (if 0 ≤ (ji3) then (if (ji3) < (l0.length : Int) then (if (rd l0 (ji3)) = 0 then (nat_short.l0 k1 l0 ji3) else (if 0 ≤ x3_1 then (if x3_1 ≤ (l0.length : Int) then (some (l0.take (x3_1 : Int).toNat)) else (none)) else (none))) else (none)) else (none)) = some r := by first | (rw [hji3] at H; exact H) | (simp only [hji3] at H ⊢; exact H)
    have hji3w : (IntKind.i64.wrap (x3_1 - 1)) = ji3 := (i64_w _).trans hji3
    by_cases c4 : 0 ≤ (ji3)
    ·
     rw [if_pos c4] at H
     have c4b0 : decide (0 ≤ (ji3)) = true := decide_eq_true c4
     clear c4
     by_cases c5 : (ji3) < (l0.length : Int)
     ·
      rw [if_pos c5] at H
      have c5b0 : decide ((ji3) < (l0.length : Int)) = true := decide_eq_true c5
      clear c5
      by_cases c6 : (rd l0 (ji3)) = 0
      ·
       rw [if_pos c6] at H
       have c6b0 : ((rd l0 (ji3)) == 0) = true := beq_iff_eq.mpr c6
       have c6b1 : ((rd l0 (ji3)) != 0) = false := bne_eq_false_iff_eq.mpr c6
       clear c6
       have H' := Aside0.mk H
       clear H
       have p252 : 0 ≤ ((ji3) : Int) := of_decide_eq_true (by first | (with_reducible assumption) | assumption)
       have q252 : (ji3) < (l0.length : Int) := of_decide_eq_true (by first | (with_reducible assumption) | assumption)
       obtain ⟨ad252, e252, hx252_0⟩ := Kd.at_int (Kd.V_reads' HO_0.out).2.2 (ji3) p252 q252
       cases e252
       replace p252 := eq_true p252
       replace q252 := eq_true q252
       go_wp2
       go_roundg k1
       case measure => have := HK1.out; omega
       case rel => exact ⟨(ji3), (by first | rfl | (simp; done) | (simp only [← hji3] <;> (first | rfl | simp)) | (simp [*]; done)), H', ⟨by have := HK1.out; omega⟩, ⟨by (with_reducible repeat (first | apply Kd.V_alloc | apply Kd.V_drewN | apply Kd.V_drew)); exact HO_0.out⟩, ⟨by repeat (first | (with_reducible first | exact HB.out | apply below_alloc | apply pw_below_drewN | apply below_drew1) | exact HB.out)⟩⟩
      ·
       rw [if_neg c6] at H
       have c6b0 : ((rd l0 (ji3)) == 0) = false := beq_eq_false_iff_ne.mpr c6
       have c6b1 : ((rd l0 (ji3)) != 0) = true := bne_iff_ne.mpr c6
       by_cases c7 : 0 ≤ x3_1
       ·
        rw [if_pos c7] at H
        have c7b0 := eq_true c7
        have c7b1 : decide (0 ≤ x3_1) = true := decide_eq_true c7
        clear c7
        by_cases c8 : x3_1 ≤ (l0.length : Int)
        ·
         rw [if_pos c8] at H
         have c8b0 := eq_true c8
         have c8b1 : decide (x3_1 ≤ (l0.length : Int)) = true := decide_eq_true c8
         clear c8
         obtain ⟨y253, hy253⟩ : ∃ y_ : List Int, y_ = (l0.take (x3_1 : Int).toNat) := ⟨_, rfl⟩
         replace H : (some y253) = some r := by first | (rw [hy253]; with_reducible exact H) | (have H2_ := (Option.bind_some _ _).symm.trans H; rw [hy253]; with_reducible exact H2_) | (have H2_ := (Option.bind_some _ _).symm.trans H; with_reducible exact H2_) | with_reducible exact H | (rw [hy253]; exact H) | exact H
         have Ny253 := Aside0.mk hy253
         clear hy253
         obtain rfl := Option.some.inj H
         have p252 : 0 ≤ ((ji3) : Int) := of_decide_eq_true (by first | (with_reducible assumption) | assumption)
         have q252 : (ji3) < (l0.length : Int) := of_decide_eq_true (by first | (with_reducible assumption) | assumption)
         obtain ⟨ad252, e252, hx252_0⟩ := Kd.at_int (Kd.V_reads' HO_0.out).2.2 (ji3) p252 q252
         cases e252
         replace p252 := eq_true p252
         replace q252 := eq_true q252
         have q9 : (x3_1 : Int) ≤ ((l0.length : Int) : Int) := of_decide_eq_true (by first | (with_reducible assumption) | assumption)
         obtain ⟨i09, hi09, _, hsz9, _⟩ := info_parts info48
         have hroom9 : l0.length ≤ c0 := (Kd.V_reads' HO_0.out).2.1
         have hC9 : Kd.F (Kd.int .u32) _ _ (some ad252) l0.length l0 := (Kd.V_at (base := w.heap.size) HO_0.out).2.2
         have hcut9 := cut_cap (P := Try.prog) 42 48 .i64 Try.underlying42 hi09 (some ad252) l0.length c0 x3_1 (of_decide_eq_true (by first | (with_reducible assumption) | assumption)) q9 hroom9
         have hr9 := Kd.F_take (m := (x3_1 : Int).toNat) hC9 (by omega)
         have hy9 : y253.length = (x3_1 : Int).toNat := (by rw [Ny253.out, List.length_take]; omega)
         rw [← Ny253.out] at hr9
         rw [← hy9] at hcut9
         have HO257 := Aside0.mk (show Kd.V (Kd.int .u32) 48 _ w.heap.size _ (.slice (some ad252) y253.length y253.length) y253 from Kd.V_mk (by omega) hr9)
         have HC257 := Aside0.mk (show y253.length ≤ y253.length from by omega)
         clear hr9 hC9 hroom9 hi09 hsz9
         have KY9 := Aside0.mk hy9
         clear hy9
         replace q9 := eq_true q9
         go_wp2
         go_ret
         exact ⟨_, by first | rfl | (simp [errW_none, errW_some] <;> rfl) | (simp only [← hji3]; first | rfl | (simp [errW_none, errW_some] <;> rfl)) | (simp [*, errW_none, errW_some] <;> rfl), by (with_reducible repeat (first | apply Kd.V_alloc | apply Kd.V_drewN | apply Kd.V_drew)); exact HO257.out, by repeat (first | (with_reducible first | exact HB.out | apply below_alloc | apply pw_below_drewN | apply below_drew1) | exact HB.out)⟩
        ·
         rw [if_neg c8] at H
         exact absurd H (by simp)
       ·
        rw [if_neg c7] at H
        exact absurd H (by simp)
     ·
      rw [if_neg c5] at H
      exact absurd H (by simp)
    ·
     rw [if_neg c4] at H
     exact absurd H (by simp)
   ·
    rw [if_neg c2] at H
    have c2b0 : decide (0 < x3_1) = false := decide_eq_false c2
    clear c2
    by_cases c10 : 0 ≤ x3_1
    ·
     rw [if_pos c10] at H
     have c10b0 := eq_true c10
     have c10b1 : decide (0 ≤ x3_1) = true := decide_eq_true c10
     clear c10
     by_cases c11 : x3_1 ≤ (l0.length : Int)
     ·
      rw [if_pos c11] at H
      have c11b0 := eq_true c11
      have c11b1 : decide (x3_1 ≤ (l0.length : Int)) = true := decide_eq_true c11
      clear c11
      obtain ⟨y258, hy258⟩ : ∃ y_ : List Int, y_ = (l0.take (x3_1 : Int).toNat) := ⟨_, rfl⟩
      replace H : (some y258) = some r := by first | (rw [hy258]; with_reducible exact H) | (have H2_ := (Option.bind_some _ _).symm.trans H; rw [hy258]; with_reducible exact H2_) | (have H2_ := (Option.bind_some _ _).symm.trans H; with_reducible exact H2_) | with_reducible exact H | (rw [hy258]; exact H) | exact H
      have Ny258 := Aside0.mk hy258
      clear hy258
      obtain rfl := Option.some.inj H
      have q12 : (x3_1 : Int) ≤ ((l0.length : Int) : Int) := of_decide_eq_true (by first | (with_reducible assumption) | assumption)
      obtain ⟨i012, hi012, _, hsz12, _⟩ := info_parts info48
      have hroom12 : l0.length ≤ c0 := (Kd.V_reads' HO_0.out).2.1
      have hC12 : Kd.F (Kd.int .u32) _ _ A0 l0.length l0 := (Kd.V_at (base := w.heap.size) HO_0.out).2.2
      have hcut12 := cut_cap (P := Try.prog) 42 48 .i64 Try.underlying42 hi012 A0 l0.length c0 x3_1 (of_decide_eq_true (by first | (with_reducible assumption) | assumption)) q12 hroom12
      have hr12 := Kd.F_take (m := (x3_1 : Int).toNat) hC12 (by omega)
      have hy12 : y258.length = (x3_1 : Int).toNat := (by rw [Ny258.out, List.length_take]; omega)
      rw [← Ny258.out] at hr12
      rw [← hy12] at hcut12
      have HO262 := Aside0.mk (show Kd.V (Kd.int .u32) 48 _ w.heap.size _ (.slice A0 y258.length y258.length) y258 from Kd.V_mk (by omega) hr12)
      have HC262 := Aside0.mk (show y258.length ≤ y258.length from by omega)
      clear hr12 hC12 hroom12 hi012 hsz12
      have KY12 := Aside0.mk hy12
      clear hy12
      replace q12 := eq_true q12
      go_wp2
      go_ret
      exact ⟨_, by first | rfl | (simp [errW_none, errW_some] <;> rfl) | (simp [*, errW_none, errW_some] <;> rfl), by (with_reducible repeat (first | apply Kd.V_alloc | apply Kd.V_drewN | apply Kd.V_drew)); exact HO262.out, by repeat (first | (with_reducible first | exact HB.out | apply below_alloc | apply pw_below_drewN | apply below_drew1) | exact HB.out)⟩
     ·
      rw [if_neg c11] at H
      exact absurd H (by simp)
    ·
     rw [if_neg c10] at H
     exact absurd H (by simp)
end Go.Proofs.Ytecfdemglbfnoaa.PT
end
section
namespace Go.Proofs.Ytecfdemglbfnoaa.PT
open Go.RowKit Go.Proofs.YtecfdemglbfnoaaW.PrintWords Go.Proofs.YtecfdemglbfnoaaW.PrintLast Go.Proofs.YtecfdemglbfnoaaW.PrintMore
attribute [local go_sem] max2_int min2_int max_two min_two max_three min_three max_four min_four   -- for this text's walks alone
set_option linter.unusedVariables false
set_option linter.unusedSimpArgs false
def bits_Len32.f (a0 : Int) : Option (Int) := if a0 ≥ 65536 then (if (a0 / 65536) ≥ 256 then (if 0 ≤ (((a0 / 65536) / 256) % 256) then (if (((a0 / 65536) / 256) % 256) < 256 then (some (wrap64 ((16 + 8) + (wrap64 (bt (⟨#[0, 1, 2, 2, 3, 3, 3, 3, 4, 4, 4, 4, 4, 4, 4, 4, 5, 5, 5, 5, 5, 5, 5, 5, 5, 5, 5, 5, 5, 5, 5, 5, 6, 6, 6, 6, 6, 6, 6, 6, 6, 6, 6, 6, 6, 6, 6, 6, 6, 6, 6, 6, 6, 6, 6, 6, 6, 6, 6, 6, 6, 6, 6, 6, 7, 7, 7, 7, 7, 7, 7, 7, 7, 7, 7, 7, 7, 7, 7, 7, 7, 7, 7, 7, 7, 7, 7, 7, 7, 7, 7, 7, 7, 7, 7, 7, 7, 7, 7, 7, 7, 7, 7, 7, 7, 7, 7, 7, 7, 7, 7, 7, 7, 7, 7, 7, 7, 7, 7, 7, 7, 7, 7, 7, 7, 7, 7, 7, 8, 8, 8, 8, 8, 8, 8, 8, 8, 8, 8, 8, 8, 8, 8, 8, 8, 8, 8, 8, 8, 8, 8, 8, 8, 8, 8, 8, 8, 8, 8, 8, 8, 8, 8, 8, 8, 8, 8, 8, 8, 8, 8, 8, 8, 8, 8, 8, 8, 8, 8, 8, 8, 8, 8, 8, 8, 8, 8, 8, 8, 8, 8, 8, 8, 8, 8, 8, 8, 8, 8, 8, 8, 8, 8, 8, 8, 8, 8, 8, 8, 8, 8, 8, 8, 8, 8, 8, 8, 8, 8, 8, 8, 8, 8, 8, 8, 8, 8, 8, 8, 8, 8, 8, 8, 8, 8, 8, 8, 8, 8, 8, 8, 8, 8, 8, 8, 8, 8, 8, 8, 8, 8, 8, 8, 8, 8, 8]⟩ : ByteArray) (((a0 / 65536) / 256) % 256)))))) else (none)) else (none)) else (if 0 ≤ ((a0 / 65536) % 256) then (if ((a0 / 65536) % 256) < 256 then (some (wrap64 (16 + (wrap64 (bt (⟨#[0, 1, 2, 2, 3, 3, 3, 3, 4, 4, 4, 4, 4, 4, 4, 4, 5, 5, 5, 5, 5, 5, 5, 5, 5, 5, 5, 5, 5, 5, 5, 5, 6, 6, 6, 6, 6, 6, 6, 6, 6, 6, 6, 6, 6, 6, 6, 6, 6, 6, 6, 6, 6, 6, 6, 6, 6, 6, 6, 6, 6, 6, 6, 6, 7, 7, 7, 7, 7, 7, 7, 7, 7, 7, 7, 7, 7, 7, 7, 7, 7, 7, 7, 7, 7, 7, 7, 7, 7, 7, 7, 7, 7, 7, 7, 7, 7, 7, 7, 7, 7, 7, 7, 7, 7, 7, 7, 7, 7, 7, 7, 7, 7, 7, 7, 7, 7, 7, 7, 7, 7, 7, 7, 7, 7, 7, 7, 7, 8, 8, 8, 8, 8, 8, 8, 8, 8, 8, 8, 8, 8, 8, 8, 8, 8, 8, 8, 8, 8, 8, 8, 8, 8, 8, 8, 8, 8, 8, 8, 8, 8, 8, 8, 8, 8, 8, 8, 8, 8, 8, 8, 8, 8, 8, 8, 8, 8, 8, 8, 8, 8, 8, 8, 8, 8, 8, 8, 8, 8, 8, 8, 8, 8, 8, 8, 8, 8, 8, 8, 8, 8, 8, 8, 8, 8, 8, 8, 8, 8, 8, 8, 8, 8, 8, 8, 8, 8, 8, 8, 8, 8, 8, 8, 8, 8, 8, 8, 8, 8, 8, 8, 8, 8, 8, 8, 8, 8, 8, 8, 8, 8, 8, 8, 8, 8, 8, 8, 8, 8, 8, 8, 8, 8, 8, 8, 8]⟩ : ByteArray) ((a0 / 65536) % 256)))))) else (none)) else (none))) else (if a0 ≥ 256 then (if 0 ≤ ((a0 / 256) % 256) then (if ((a0 / 256) % 256) < 256 then (some (wrap64 ((0 + 8) + (wrap64 (bt (⟨#[0, 1, 2, 2, 3, 3, 3, 3, 4, 4, 4, 4, 4, 4, 4, 4, 5, 5, 5, 5, 5, 5, 5, 5, 5, 5, 5, 5, 5, 5, 5, 5, 6, 6, 6, 6, 6, 6, 6, 6, 6, 6, 6, 6, 6, 6, 6, 6, 6, 6, 6, 6, 6, 6, 6, 6, 6, 6, 6, 6, 6, 6, 6, 6, 7, 7, 7, 7, 7, 7, 7, 7, 7, 7, 7, 7, 7, 7, 7, 7, 7, 7, 7, 7, 7, 7, 7, 7, 7, 7, 7, 7, 7, 7, 7, 7, 7, 7, 7, 7, 7, 7, 7, 7, 7, 7, 7, 7, 7, 7, 7, 7, 7, 7, 7, 7, 7, 7, 7, 7, 7, 7, 7, 7, 7, 7, 7, 7, 8, 8, 8, 8, 8, 8, 8, 8, 8, 8, 8, 8, 8, 8, 8, 8, 8, 8, 8, 8, 8, 8, 8, 8, 8, 8, 8, 8, 8, 8, 8, 8, 8, 8, 8, 8, 8, 8, 8, 8, 8, 8, 8, 8, 8, 8, 8, 8, 8, 8, 8, 8, 8, 8, 8, 8, 8, 8, 8, 8, 8, 8, 8, 8, 8, 8, 8, 8, 8, 8, 8, 8, 8, 8, 8, 8, 8, 8, 8, 8, 8, 8, 8, 8, 8, 8, 8, 8, 8, 8, 8, 8, 8, 8, 8, 8, 8, 8, 8, 8, 8, 8, 8, 8, 8, 8, 8, 8, 8, 8, 8, 8, 8, 8, 8, 8, 8, 8, 8, 8, 8, 8, 8, 8, 8, 8, 8, 8]⟩ : ByteArray) ((a0 / 256) % 256)))))) else (none)) else (none)) else (if 0 ≤ ((a0) % 256) then (if ((a0) % 256) < 256 then (some (wrap64 (0 + (wrap64 (bt (⟨#[0, 1, 2, 2, 3, 3, 3, 3, 4, 4, 4, 4, 4, 4, 4, 4, 5, 5, 5, 5, 5, 5, 5, 5, 5, 5, 5, 5, 5, 5, 5, 5, 6, 6, 6, 6, 6, 6, 6, 6, 6, 6, 6, 6, 6, 6, 6, 6, 6, 6, 6, 6, 6, 6, 6, 6, 6, 6, 6, 6, 6, 6, 6, 6, 7, 7, 7, 7, 7, 7, 7, 7, 7, 7, 7, 7, 7, 7, 7, 7, 7, 7, 7, 7, 7, 7, 7, 7, 7, 7, 7, 7, 7, 7, 7, 7, 7, 7, 7, 7, 7, 7, 7, 7, 7, 7, 7, 7, 7, 7, 7, 7, 7, 7, 7, 7, 7, 7, 7, 7, 7, 7, 7, 7, 7, 7, 7, 7, 8, 8, 8, 8, 8, 8, 8, 8, 8, 8, 8, 8, 8, 8, 8, 8, 8, 8, 8, 8, 8, 8, 8, 8, 8, 8, 8, 8, 8, 8, 8, 8, 8, 8, 8, 8, 8, 8, 8, 8, 8, 8, 8, 8, 8, 8, 8, 8, 8, 8, 8, 8, 8, 8, 8, 8, 8, 8, 8, 8, 8, 8, 8, 8, 8, 8, 8, 8, 8, 8, 8, 8, 8, 8, 8, 8, 8, 8, 8, 8, 8, 8, 8, 8, 8, 8, 8, 8, 8, 8, 8, 8, 8, 8, 8, 8, 8, 8, 8, 8, 8, 8, 8, 8, 8, 8, 8, 8, 8, 8, 8, 8, 8, 8, 8, 8, 8, 8, 8, 8, 8, 8, 8, 8, 8, 8, 8, 8]⟩ : ByteArray) ((a0) % 256)))))) else (none)) else (none)))
set_option maxHeartbeats 8000000 in
set_option maxRecDepth 100000 in
theorem bits_Len32.calls (a0 : Int) (r : Int) (w : World) (h : bits_Len32.f a0 = some r) :
 Calls Try.prog 181 #[.int .u32 a0] w fun e w' => e = .returned (.int .i64 r) ∧ Drawn0 w w' := by
 have H : (if a0 ≥ 65536 then (if (a0 / 65536) ≥ 256 then (if 0 ≤ (((a0 / 65536) / 256) % 256) then (if (((a0 / 65536) / 256) % 256) < 256 then (some (wrap64 ((16 + 8) + (wrap64 (bt (⟨#[0, 1, 2, 2, 3, 3, 3, 3, 4, 4, 4, 4, 4, 4, 4, 4, 5, 5, 5, 5, 5, 5, 5, 5, 5, 5, 5, 5, 5, 5, 5, 5, 6, 6, 6, 6, 6, 6, 6, 6, 6, 6, 6, 6, 6, 6, 6, 6, 6, 6, 6, 6, 6, 6, 6, 6, 6, 6, 6, 6, 6, 6, 6, 6, 7, 7, 7, 7, 7, 7, 7, 7, 7, 7, 7, 7, 7, 7, 7, 7, 7, 7, 7, 7, 7, 7, 7, 7, 7, 7, 7, 7, 7, 7, 7, 7, 7, 7, 7, 7, 7, 7, 7, 7, 7, 7, 7, 7, 7, 7, 7, 7, 7, 7, 7, 7, 7, 7, 7, 7, 7, 7, 7, 7, 7, 7, 7, 7, 8, 8, 8, 8, 8, 8, 8, 8, 8, 8, 8, 8, 8, 8, 8, 8, 8, 8, 8, 8, 8, 8, 8, 8, 8, 8, 8, 8, 8, 8, 8, 8, 8, 8, 8, 8, 8, 8, 8, 8, 8, 8, 8, 8, 8, 8, 8, 8, 8, 8, 8, 8, 8, 8, 8, 8, 8, 8, 8, 8, 8, 8, 8, 8, 8, 8, 8, 8, 8, 8, 8, 8, 8, 8, 8, 8, 8, 8, 8, 8, 8, 8, 8, 8, 8, 8, 8, 8, 8, 8, 8, 8, 8, 8, 8, 8, 8, 8, 8, 8, 8, 8, 8, 8, 8, 8, 8, 8, 8, 8, 8, 8, 8, 8, 8, 8, 8, 8, 8, 8, 8, 8, 8, 8, 8, 8, 8, 8]⟩ : ByteArray) (((a0 / 65536) / 256) % 256)))))) else (none)) else (none)) else (if 0 ≤ ((a0 / 65536) % 256) then (if ((a0 / 65536) % 256) < 256 then (some (wrap64 (16 + (wrap64 (bt (⟨#[0, 1, 2, 2, 3, 3, 3, 3, 4, 4, 4, 4, 4, 4, 4, 4, 5, 5, 5, 5, 5, 5, 5, 5, 5, 5, 5, 5, 5, 5, 5, 5, 6, 6, 6, 6, 6, 6, 6, 6, 6, 6, 6, 6, 6, 6, 6, 6, 6, 6, 6, 6, 6, 6, 6, 6, 6, 6, 6, 6, 6, 6, 6, 6, 7, 7, 7, 7, 7, 7, 7, 7, 7, 7, 7, 7, 7, 7, 7, 7, 7, 7, 7, 7, 7, 7, 7, 7, 7, 7, 7, 7, 7, 7, 7, 7, 7, 7, 7, 7, 7, 7, 7, 7, 7, 7, 7, 7, 7, 7, 7, 7, 7, 7, 7, 7, 7, 7, 7, 7, 7, 7, 7, 7, 7, 7, 7, 7, 8, 8, 8, 8, 8, 8, 8, 8, 8, 8, 8, 8, 8, 8, 8, 8, 8, 8, 8, 8, 8, 8, 8, 8, 8, 8, 8, 8, 8, 8, 8, 8, 8, 8, 8, 8, 8, 8, 8, 8, 8, 8, 8, 8, 8, 8, 8, 8, 8, 8, 8, 8, 8, 8, 8, 8, 8, 8, 8, 8, 8, 8, 8, 8, 8, 8, 8, 8, 8, 8, 8, 8, 8, 8, 8, 8, 8, 8, 8, 8, 8, 8, 8, 8, 8, 8, 8, 8, 8, 8, 8, 8, 8, 8, 8, 8, 8, 8, 8, 8, 8, 8, 8, 8, 8, 8, 8, 8, 8, 8, 8, 8, 8, 8, 8, 8, 8, 8, 8, 8, 8, 8, 8, 8, 8, 8, 8, 8]⟩ : ByteArray) ((a0 / 65536) % 256)))))) else (none)) else (none))) else (if a0 ≥ 256 then (if 0 ≤ ((a0 / 256) % 256) then (if ((a0 / 256) % 256) < 256 then (some (wrap64 ((0 + 8) + (wrap64 (bt (⟨#[0, 1, 2, 2, 3, 3, 3, 3, 4, 4, 4, 4, 4, 4, 4, 4, 5, 5, 5, 5, 5, 5, 5, 5, 5, 5, 5, 5, 5, 5, 5, 5, 6, 6, 6, 6, 6, 6, 6, 6, 6, 6, 6, 6, 6, 6, 6, 6, 6, 6, 6, 6, 6, 6, 6, 6, 6, 6, 6, 6, 6, 6, 6, 6, 7, 7, 7, 7, 7, 7, 7, 7, 7, 7, 7, 7, 7, 7, 7, 7, 7, 7, 7, 7, 7, 7, 7, 7, 7, 7, 7, 7, 7, 7, 7, 7, 7, 7, 7, 7, 7, 7, 7, 7, 7, 7, 7, 7, 7, 7, 7, 7, 7, 7, 7, 7, 7, 7, 7, 7, 7, 7, 7, 7, 7, 7, 7, 7, 8, 8, 8, 8, 8, 8, 8, 8, 8, 8, 8, 8, 8, 8, 8, 8, 8, 8, 8, 8, 8, 8, 8, 8, 8, 8, 8, 8, 8, 8, 8, 8, 8, 8, 8, 8, 8, 8, 8, 8, 8, 8, 8, 8, 8, 8, 8, 8, 8, 8, 8, 8, 8, 8, 8, 8, 8, 8, 8, 8, 8, 8, 8, 8, 8, 8, 8, 8, 8, 8, 8, 8, 8, 8, 8, 8, 8, 8, 8, 8, 8, 8, 8, 8, 8, 8, 8, 8, 8, 8, 8, 8, 8, 8, 8, 8, 8, 8, 8, 8, 8, 8, 8, 8, 8, 8, 8, 8, 8, 8, 8, 8, 8, 8, 8, 8, 8, 8, 8, 8, 8, 8, 8, 8, 8, 8, 8, 8]⟩ : ByteArray) ((a0 / 256) % 256)))))) else (none)) else (none)) else (if 0 ≤ ((a0) % 256) then (if ((a0) % 256) < 256 then (some (wrap64 (0 + (wrap64 (bt (⟨#[0, 1, 2, 2, 3, 3, 3, 3, 4, 4, 4, 4, 4, 4, 4, 4, 5, 5, 5, 5, 5, 5, 5, 5, 5, 5, 5, 5, 5, 5, 5, 5, 6, 6, 6, 6, 6, 6, 6, 6, 6, 6, 6, 6, 6, 6, 6, 6, 6, 6, 6, 6, 6, 6, 6, 6, 6, 6, 6, 6, 6, 6, 6, 6, 7, 7, 7, 7, 7, 7, 7, 7, 7, 7, 7, 7, 7, 7, 7, 7, 7, 7, 7, 7, 7, 7, 7, 7, 7, 7, 7, 7, 7, 7, 7, 7, 7, 7, 7, 7, 7, 7, 7, 7, 7, 7, 7, 7, 7, 7, 7, 7, 7, 7, 7, 7, 7, 7, 7, 7, 7, 7, 7, 7, 7, 7, 7, 7, 8, 8, 8, 8, 8, 8, 8, 8, 8, 8, 8, 8, 8, 8, 8, 8, 8, 8, 8, 8, 8, 8, 8, 8, 8, 8, 8, 8, 8, 8, 8, 8, 8, 8, 8, 8, 8, 8, 8, 8, 8, 8, 8, 8, 8, 8, 8, 8, 8, 8, 8, 8, 8, 8, 8, 8, 8, 8, 8, 8, 8, 8, 8, 8, 8, 8, 8, 8, 8, 8, 8, 8, 8, 8, 8, 8, 8, 8, 8, 8, 8, 8, 8, 8, 8, 8, 8, 8, 8, 8, 8, 8, 8, 8, 8, 8, 8, 8, 8, 8, 8, 8, 8, 8, 8, 8, 8, 8, 8, 8, 8, 8, 8, 8, 8, 8, 8, 8, 8, 8, 8, 8, 8, 8, 8, 8, 8, 8]⟩ : ByteArray) ((a0) % 256)))))) else (none)) else (none)))) = some r := h
 clear h
 by_cases c2 : a0 ≥ 65536
 ·
  rw [if_pos c2] at H
  have c2b0 : decide (65536 ≤ a0) = true := decide_eq_true c2
  clear c2
  by_cases c3 : (a0 / 65536) ≥ 256
  ·
   rw [if_pos c3] at H
   have c3b0 : decide (256 ≤ (a0 / 65536)) = true := decide_eq_true c3
   clear c3
   obtain ⟨ji4, hji4⟩ : ∃ j_ : Int, (((a0 / 65536) / 256) % 256) = j_ := ⟨_, rfl⟩
   replace H : (if 0 ≤ (ji4) then (if (ji4) < 256 then (some (wrap64 ((16 + 8) + (wrap64 (bt (⟨#[0, 1, 2, 2, 3, 3, 3, 3, 4, 4, 4, 4, 4, 4, 4, 4, 5, 5, 5, 5, 5, 5, 5, 5, 5, 5, 5, 5, 5, 5, 5, 5, 6, 6, 6, 6, 6, 6, 6, 6, 6, 6, 6, 6, 6, 6, 6, 6, 6, 6, 6, 6, 6, 6, 6, 6, 6, 6, 6, 6, 6, 6, 6, 6, 7, 7, 7, 7, 7, 7, 7, 7, 7, 7, 7, 7, 7, 7, 7, 7, 7, 7, 7, 7, 7, 7, 7, 7, 7, 7, 7, 7, 7, 7, 7, 7, 7, 7, 7, 7, 7, 7, 7, 7, 7, 7, 7, 7, 7, 7, 7, 7, 7, 7, 7, 7, 7, 7, 7, 7, 7, 7, 7, 7, 7, 7, 7, 7, 8, 8, 8, 8, 8, 8, 8, 8, 8, 8, 8, 8, 8, 8, 8, 8, 8, 8, 8, 8, 8, 8, 8, 8, 8, 8, 8, 8, 8, 8, 8, 8, 8, 8, 8, 8, 8, 8, 8, 8, 8, 8, 8, 8, 8, 8, 8, 8, 8, 8, 8, 8, 8, 8, 8, 8, 8, 8, 8, 8, 8, 8, 8, 8, 8, 8, 8, 8, 8, 8, 8, 8, 8, 8, 8, 8, 8, 8, 8, 8, 8, 8, 8, 8, 8, 8, 8, 8, 8, 8, 8, 8, 8, 8, 8, 8, 8, 8, 8, 8, 8, 8, 8, 8, 8, 8, 8, 8, 8, 8, 8, 8, 8, 8, 8, 8, 8, 8, 8, 8, 8, 8, 8, 8, 8, 8, 8, 8]⟩ : ByteArray) (ji4)))))) else (none)) else (none)) = some r := by first | (rw [hji4] at H; exact H) | (simp only [hji4] at H ⊢; exact H)
   by_cases c5 : 0 ≤ (ji4)
   ·
    rw [if_pos c5] at H
    have c5b0 : decide (0 ≤ (ji4)) = true := decide_eq_true c5
    clear c5
    by_cases c6 : (ji4) < 256
    ·
     rw [if_pos c6] at H
     have c6b0 : decide ((ji4) < 256) = true := decide_eq_true c6
     clear c6
     obtain rfl := Option.some.inj H
     have p7 : 0 ≤ ((ji4) : Int) := of_decide_eq_true (by first | (with_reducible assumption) | assumption)
     have q7 : (ji4) < (256 : Int) := of_decide_eq_true (by first | (with_reducible assumption) | assumption)
     have hx7 := bt_at (⟨#[0, 1, 2, 2, 3, 3, 3, 3, 4, 4, 4, 4, 4, 4, 4, 4, 5, 5, 5, 5, 5, 5, 5, 5, 5, 5, 5, 5, 5, 5, 5, 5, 6, 6, 6, 6, 6, 6, 6, 6, 6, 6, 6, 6, 6, 6, 6, 6, 6, 6, 6, 6, 6, 6, 6, 6, 6, 6, 6, 6, 6, 6, 6, 6, 7, 7, 7, 7, 7, 7, 7, 7, 7, 7, 7, 7, 7, 7, 7, 7, 7, 7, 7, 7, 7, 7, 7, 7, 7, 7, 7, 7, 7, 7, 7, 7, 7, 7, 7, 7, 7, 7, 7, 7, 7, 7, 7, 7, 7, 7, 7, 7, 7, 7, 7, 7, 7, 7, 7, 7, 7, 7, 7, 7, 7, 7, 7, 7, 8, 8, 8, 8, 8, 8, 8, 8, 8, 8, 8, 8, 8, 8, 8, 8, 8, 8, 8, 8, 8, 8, 8, 8, 8, 8, 8, 8, 8, 8, 8, 8, 8, 8, 8, 8, 8, 8, 8, 8, 8, 8, 8, 8, 8, 8, 8, 8, 8, 8, 8, 8, 8, 8, 8, 8, 8, 8, 8, 8, 8, 8, 8, 8, 8, 8, 8, 8, 8, 8, 8, 8, 8, 8, 8, 8, 8, 8, 8, 8, 8, 8, 8, 8, 8, 8, 8, 8, 8, 8, 8, 8, 8, 8, 8, 8, 8, 8, 8, 8, 8, 8, 8, 8, 8, 8, 8, 8, 8, 8, 8, 8, 8, 8, 8, 8, 8, 8, 8, 8, 8, 8, 8, 8, 8, 8, 8, 8]⟩ : ByteArray) (ji4)
     replace p7 := eq_true p7
     replace q7 := eq_true q7
     go_enter Try.func181, Try.ntmps181
     go_wp2
     go_ret
     exact ⟨by first | rfl | (simp; done) | (simp only [← hji4] <;> (first | rfl | simp)) | (simp [*]; done), by repeat (first | exact Drawn0.refl _ | apply Drawn0.step)⟩
    ·
     rw [if_neg c6] at H
     exact absurd H (by simp)
   ·
    rw [if_neg c5] at H
    exact absurd H (by simp)
  ·
   rw [if_neg c3] at H
   have c3b0 : decide (256 ≤ (a0 / 65536)) = false := decide_eq_false c3
   clear c3
   obtain ⟨ji8, hji8⟩ : ∃ j_ : Int, ((a0 / 65536) % 256) = j_ := ⟨_, rfl⟩
   replace H : (if 0 ≤ (ji8) then (if (ji8) < 256 then (some (wrap64 (16 + (wrap64 (bt (⟨#[0, 1, 2, 2, 3, 3, 3, 3, 4, 4, 4, 4, 4, 4, 4, 4, 5, 5, 5, 5, 5, 5, 5, 5, 5, 5, 5, 5, 5, 5, 5, 5, 6, 6, 6, 6, 6, 6, 6, 6, 6, 6, 6, 6, 6, 6, 6, 6, 6, 6, 6, 6, 6, 6, 6, 6, 6, 6, 6, 6, 6, 6, 6, 6, 7, 7, 7, 7, 7, 7, 7, 7, 7, 7, 7, 7, 7, 7, 7, 7, 7, 7, 7, 7, 7, 7, 7, 7, 7, 7, 7, 7, 7, 7, 7, 7, 7, 7, 7, 7, 7, 7, 7, 7, 7, 7, 7, 7, 7, 7, 7, 7, 7, 7, 7, 7, 7, 7, 7, 7, 7, 7, 7, 7, 7, 7, 7, 7, 8, 8, 8, 8, 8, 8, 8, 8, 8, 8, 8, 8, 8, 8, 8, 8, 8, 8, 8, 8, 8, 8, 8, 8, 8, 8, 8, 8, 8, 8, 8, 8, 8, 8, 8, 8, 8, 8, 8, 8, 8, 8, 8, 8, 8, 8, 8, 8, 8, 8, 8, 8, 8, 8, 8, 8, 8, 8, 8, 8, 8, 8, 8, 8, 8, 8, 8, 8, 8, 8, 8, 8, 8, 8, 8, 8, 8, 8, 8, 8, 8, 8, 8, 8, 8, 8, 8, 8, 8, 8, 8, 8, 8, 8, 8, 8, 8, 8, 8, 8, 8, 8, 8, 8, 8, 8, 8, 8, 8, 8, 8, 8, 8, 8, 8, 8, 8, 8, 8, 8, 8, 8, 8, 8, 8, 8, 8, 8]⟩ : ByteArray) (ji8)))))) else (none)) else (none)) = some r := by first | (rw [hji8] at H; exact H) | (simp only [hji8] at H ⊢; exact H)
   by_cases c9 : 0 ≤ (ji8)
   ·
    rw [if_pos c9] at H
    have c9b0 : decide (0 ≤ (ji8)) = true := decide_eq_true c9
    clear c9
    by_cases c10 : (ji8) < 256
    ·
     rw [if_pos c10] at H
     have c10b0 : decide ((ji8) < 256) = true := decide_eq_true c10
     clear c10
     obtain rfl := Option.some.inj H
     have p11 : 0 ≤ ((ji8) : Int) := of_decide_eq_true (by first | (with_reducible assumption) | assumption)
     have q11 : (ji8) < (256 : Int) := of_decide_eq_true (by first | (with_reducible assumption) | assumption)
     have hx11 := bt_at (⟨#[0, 1, 2, 2, 3, 3, 3, 3, 4, 4, 4, 4, 4, 4, 4, 4, 5, 5, 5, 5, 5, 5, 5, 5, 5, 5, 5, 5, 5, 5, 5, 5, 6, 6, 6, 6, 6, 6, 6, 6, 6, 6, 6, 6, 6, 6, 6, 6, 6, 6, 6, 6, 6, 6, 6, 6, 6, 6, 6, 6, 6, 6, 6, 6, 7, 7, 7, 7, 7, 7, 7, 7, 7, 7, 7, 7, 7, 7, 7, 7, 7, 7, 7, 7, 7, 7, 7, 7, 7, 7, 7, 7, 7, 7, 7, 7, 7, 7, 7, 7, 7, 7, 7, 7, 7, 7, 7, 7, 7, 7, 7, 7, 7, 7, 7, 7, 7, 7, 7, 7, 7, 7, 7, 7, 7, 7, 7, 7, 8, 8, 8, 8, 8, 8, 8, 8, 8, 8, 8, 8, 8, 8, 8, 8, 8, 8, 8, 8, 8, 8, 8, 8, 8, 8, 8, 8, 8, 8, 8, 8, 8, 8, 8, 8, 8, 8, 8, 8, 8, 8, 8, 8, 8, 8, 8, 8, 8, 8, 8, 8, 8, 8, 8, 8, 8, 8, 8, 8, 8, 8, 8, 8, 8, 8, 8, 8, 8, 8, 8, 8, 8, 8, 8, 8, 8, 8, 8, 8, 8, 8, 8, 8, 8, 8, 8, 8, 8, 8, 8, 8, 8, 8, 8, 8, 8, 8, 8, 8, 8, 8, 8, 8, 8, 8, 8, 8, 8, 8, 8, 8, 8, 8, 8, 8, 8, 8, 8, 8, 8, 8, 8, 8, 8, 8, 8, 8]⟩ : ByteArray) (ji8)
     replace p11 := eq_true p11
     replace q11 := eq_true q11
     go_enter Try.func181, Try.ntmps181
     go_wp2
     go_ret
     exact ⟨by first | rfl | (simp; done) | (simp only [← hji8] <;> (first | rfl | simp)) | (simp [*]; done), by repeat (first | exact Drawn0.refl _ | apply Drawn0.step)⟩
    ·
     rw [if_neg c10] at H
     exact absurd H (by simp)
   ·
    rw [if_neg c9] at H
    exact absurd H (by simp)
 ·
  rw [if_neg c2] at H
  have c2b0 : decide (65536 ≤ a0) = false := decide_eq_false c2
  clear c2
  by_cases c12 : a0 ≥ 256
  ·
   rw [if_pos c12] at H
   have c12b0 : decide (256 ≤ a0) = true := decide_eq_true c12
   clear c12
   obtain ⟨ji13, hji13⟩ : ∃ j_ : Int, ((a0 / 256) % 256) = j_ := ⟨_, rfl⟩
   replace H : (if 0 ≤ (ji13) then (if (ji13) < 256 then (some (wrap64 ((0 + 8) + (wrap64 (bt (⟨#[0, 1, 2, 2, 3, 3, 3, 3, 4, 4, 4, 4, 4, 4, 4, 4, 5, 5, 5, 5, 5, 5, 5, 5, 5, 5, 5, 5, 5, 5, 5, 5, 6, 6, 6, 6, 6, 6, 6, 6, 6, 6, 6, 6, 6, 6, 6, 6, 6, 6, 6, 6, 6, 6, 6, 6, 6, 6, 6, 6, 6, 6, 6, 6, 7, 7, 7, 7, 7, 7, 7, 7, 7, 7, 7, 7, 7, 7, 7, 7, 7, 7, 7, 7, 7, 7, 7, 7, 7, 7, 7, 7, 7, 7, 7, 7, 7, 7, 7, 7, 7, 7, 7, 7, 7, 7, 7, 7, 7, 7, 7, 7, 7, 7, 7, 7, 7, 7, 7, 7, 7, 7, 7, 7, 7, 7, 7, 7, 8, 8, 8, 8, 8, 8, 8, 8, 8, 8, 8, 8, 8, 8, 8, 8, 8, 8, 8, 8, 8, 8, 8, 8, 8, 8, 8, 8, 8, 8, 8, 8, 8, 8, 8, 8, 8, 8, 8, 8, 8, 8, 8, 8, 8, 8, 8, 8, 8, 8, 8, 8, 8, 8, 8, 8, 8, 8, 8, 8, 8, 8, 8, 8, 8, 8, 8, 8, 8, 8, 8, 8, 8, 8, 8, 8, 8, 8, 8, 8, 8, 8, 8, 8, 8, 8, 8, 8, 8, 8, 8, 8, 8, 8, 8, 8, 8, 8, 8, 8, 8, 8, 8, 8, 8, 8, 8, 8, 8, 8, 8, 8, 8, 8, 8, 8, 8, 8, 8, 8, 8, 8, 8, 8, 8, 8, 8, 8]⟩ : ByteArray) (ji13)))))) else (none)) else (none)) = some r := by first | (rw [hji13] at H; exact H) | (simp only [hji13] at H ⊢; exact H)
   by_cases c14 : 0 ≤ (ji13)
   ·
    rw [if_pos c14] at H
    have c14b0 : decide (0 ≤ (ji13)) = true := decide_eq_true c14
    clear c14
    by_cases c15 : (ji13) < 256
    ·
     rw [if_pos c15] at H
     have c15b0 : decide ((ji13) < 256) = true := decide_eq_true c15
     clear c15
     obtain rfl := Option.some.inj H
     have p16 : 0 ≤ ((ji13) : Int) := of_decide_eq_true (by first | (with_reducible assumption) | assumption)
     have q16 : (ji13) < (256 : Int) := of_decide_eq_true (by first | (with_reducible assumption) | assumption)
     have hx16 := bt_at (⟨#[0, 1, 2, 2, 3, 3, 3, 3, 4, 4, 4, 4, 4, 4, 4, 4, 5, 5, 5, 5, 5, 5, 5, 5, 5, 5, 5, 5, 5, 5, 5, 5, 6, 6, 6, 6, 6, 6, 6, 6, 6, 6, 6, 6, 6, 6, 6, 6, 6, 6, 6, 6, 6, 6, 6, 6, 6, 6, 6, 6, 6, 6, 6, 6, 7, 7, 7, 7, 7, 7, 7, 7, 7, 7, 7, 7, 7, 7, 7, 7, 7, 7, 7, 7, 7, 7, 7, 7, 7, 7, 7, 7, 7, 7, 7, 7, 7, 7, 7, 7, 7, 7, 7, 7, 7, 7, 7, 7, 7, 7, 7, 7, 7, 7, 7, 7, 7, 7, 7, 7, 7, 7, 7, 7, 7, 7, 7, 7, 8, 8, 8, 8, 8, 8, 8, 8, 8, 8, 8, 8, 8, 8, 8, 8, 8, 8, 8, 8, 8, 8, 8, 8, 8, 8, 8, 8, 8, 8, 8, 8, 8, 8, 8, 8, 8, 8, 8, 8, 8, 8, 8, 8, 8, 8, 8, 8, 8, 8, 8, 8, 8, 8, 8, 8, 8, 8, 8, 8, 8, 8, 8, 8, 8, 8, 8, 8, 8, 8, 8, 8, 8, 8, 8, 8, 8, 8, 8, 8, 8, 8, 8, 8, 8, 8, 8, 8, 8, 8, 8, 8, 8, 8, 8, 8, 8, 8, 8, 8, 8, 8, 8, 8, 8, 8, 8, 8, 8, 8, 8, 8, 8, 8, 8, 8, 8, 8, 8, 8, 8, 8, 8, 8, 8, 8, 8, 8]⟩ : ByteArray) (ji13)
     replace p16 := eq_true p16
     replace q16 := eq_true q16
     go_enter Try.func181, Try.ntmps181
     go_wp2
     go_ret
     exact ⟨by first | rfl | (simp; done) | (simp only [← hji13] <;> (first | rfl | simp)) | (simp [*]; done), by repeat (first | exact Drawn0.refl _ | apply Drawn0.step)⟩
    ·
     rw [if_neg c15] at H
     exact absurd H (by simp)
   ·
    rw [if_neg c14] at H
    exact absurd H (by simp)
  ·
   rw [if_neg c12] at H
   have c12b0 : decide (256 ≤ a0) = false := decide_eq_false c12
   clear c12
   obtain ⟨ji17, hji17⟩ : ∃ j_ : Int, ((a0) % 256) = j_ := ⟨_, rfl⟩
   replace H : (if 0 ≤ (ji17) then (if (ji17) < 256 then (some (wrap64 (0 + (wrap64 (bt (⟨#[0, 1, 2, 2, 3, 3, 3, 3, 4, 4, 4, 4, 4, 4, 4, 4, 5, 5, 5, 5, 5, 5, 5, 5, 5, 5, 5, 5, 5, 5, 5, 5, 6, 6, 6, 6, 6, 6, 6, 6, 6, 6, 6, 6, 6, 6, 6, 6, 6, 6, 6, 6, 6, 6, 6, 6, 6, 6, 6, 6, 6, 6, 6, 6, 7, 7, 7, 7, 7, 7, 7, 7, 7, 7, 7, 7, 7, 7, 7, 7, 7, 7, 7, 7, 7, 7, 7, 7, 7, 7, 7, 7, 7, 7, 7, 7, 7, 7, 7, 7, 7, 7, 7, 7, 7, 7, 7, 7, 7, 7, 7, 7, 7, 7, 7, 7, 7, 7, 7, 7, 7, 7, 7, 7, 7, 7, 7, 7, 8, 8, 8, 8, 8, 8, 8, 8, 8, 8, 8, 8, 8, 8, 8, 8, 8, 8, 8, 8, 8, 8, 8, 8, 8, 8, 8, 8, 8, 8, 8, 8, 8, 8, 8, 8, 8, 8, 8, 8, 8, 8, 8, 8, 8, 8, 8, 8, 8, 8, 8, 8, 8, 8, 8, 8, 8, 8, 8, 8, 8, 8, 8, 8, 8, 8, 8, 8, 8, 8, 8, 8, 8, 8, 8, 8, 8, 8, 8, 8, 8, 8, 8, 8, 8, 8, 8, 8, 8, 8, 8, 8, 8, 8, 8, 8, 8, 8, 8, 8, 8, 8, 8, 8, 8, 8, 8, 8, 8, 8, 8, 8, 8, 8, 8, 8, 8, 8, 8, 8, 8, 8, 8, 8, 8, 8, 8, 8]⟩ : ByteArray) (ji17)))))) else (none)) else (none)) = some r := by first | (rw [hji17] at H; exact H) | (simp only [hji17] at H ⊢; exact H)
   by_cases c18 : 0 ≤ (ji17)
   ·
    rw [if_pos c18] at H
    have c18b0 : decide (0 ≤ (ji17)) = true := decide_eq_true c18
    clear c18
    by_cases c19 : (ji17) < 256
    ·
     rw [if_pos c19] at H
     have c19b0 : decide ((ji17) < 256) = true := decide_eq_true c19
     clear c19
     obtain rfl := Option.some.inj H
     have p20 : 0 ≤ ((ji17) : Int) := of_decide_eq_true (by first | (with_reducible assumption) | assumption)
     have q20 : (ji17) < (256 : Int) := of_decide_eq_true (by first | (with_reducible assumption) | assumption)
     have hx20 := bt_at (⟨#[0, 1, 2, 2, 3, 3, 3, 3, 4, 4, 4, 4, 4, 4, 4, 4, 5, 5, 5, 5, 5, 5, 5, 5, 5, 5, 5, 5, 5, 5, 5, 5, 6, 6, 6, 6, 6, 6, 6, 6, 6, 6, 6, 6, 6, 6, 6, 6, 6, 6, 6, 6, 6, 6, 6, 6, 6, 6, 6, 6, 6, 6, 6, 6, 7, 7, 7, 7, 7, 7, 7, 7, 7, 7, 7, 7, 7, 7, 7, 7, 7, 7, 7, 7, 7, 7, 7, 7, 7, 7, 7, 7, 7, 7, 7, 7, 7, 7, 7, 7, 7, 7, 7, 7, 7, 7, 7, 7, 7, 7, 7, 7, 7, 7, 7, 7, 7, 7, 7, 7, 7, 7, 7, 7, 7, 7, 7, 7, 8, 8, 8, 8, 8, 8, 8, 8, 8, 8, 8, 8, 8, 8, 8, 8, 8, 8, 8, 8, 8, 8, 8, 8, 8, 8, 8, 8, 8, 8, 8, 8, 8, 8, 8, 8, 8, 8, 8, 8, 8, 8, 8, 8, 8, 8, 8, 8, 8, 8, 8, 8, 8, 8, 8, 8, 8, 8, 8, 8, 8, 8, 8, 8, 8, 8, 8, 8, 8, 8, 8, 8, 8, 8, 8, 8, 8, 8, 8, 8, 8, 8, 8, 8, 8, 8, 8, 8, 8, 8, 8, 8, 8, 8, 8, 8, 8, 8, 8, 8, 8, 8, 8, 8, 8, 8, 8, 8, 8, 8, 8, 8, 8, 8, 8, 8, 8, 8, 8, 8, 8, 8, 8, 8, 8, 8, 8, 8]⟩ : ByteArray) (ji17)
     replace p20 := eq_true p20
     replace q20 := eq_true q20
     go_enter Try.func181, Try.ntmps181
     go_wp2
     go_ret
     exact ⟨by first | rfl | (simp; done) | (simp only [← hji17] <;> (first | rfl | simp)) | (simp [*]; done), by repeat (first | exact Drawn0.refl _ | apply Drawn0.step)⟩
    ·
     rw [if_neg c19] at H
     exact absurd H (by simp)
   ·
    rw [if_neg c18] at H
    exact absurd H (by simp)
end Go.Proofs.Ytecfdemglbfnoaa.PT
end
section
namespace Go.Proofs.Ytecfdemglbfnoaa.PT
open Go.RowKit Go.Proofs.YtecfdemglbfnoaaW.PrintWords Go.Proofs.YtecfdemglbfnoaaW.PrintLast Go.Proofs.YtecfdemglbfnoaaW.PrintMore
attribute [local go_sem] max2_int min2_int max_two min_two max_three min_three max_four min_four   -- for this text's walks alone
set_option linter.unusedVariables false
set_option linter.unusedSimpArgs false
def nat_Bits.f (k : Nat) (l0 : List Int) : Option (Int) := (nat_short.f k l0).bind fun t925 => (if (t925.length : Int) = 0 then (some 0) else (if 0 ≤ (wrap64 ((t925.length : Int) - 1)) then (if (wrap64 ((t925.length : Int) - 1)) < (t925.length : Int) then ((bits_Len32.f (rd t925 (wrap64 ((t925.length : Int) - 1)))).bind fun t929 => (some (wrap64 ((wrap64 (32 * (wrap64 ((t925.length : Int) - 1)))) + t929)))) else (none)) else (none)))
set_option maxHeartbeats 8000000 in
set_option maxRecDepth 100000 in
theorem nat_Bits.calls (k : Nat) (A0 : Option Addr) (c0 : Nat) (l0 : List Int) (r : Int) (w : World) (hr0 : Kd.C (Kd.int .u32) w A0 l0.length l0) (hc0 : l0.length ≤ c0) (h : nat_Bits.f k l0 = some r) :
 Calls Try.prog 154 #[.slice A0 l0.length c0] w fun e w' => e = .returned (.int .i64 r) ∧ Below w.heap.size w w' := by
 have HR0 := Aside0.mk hr0
 have HC0 := Aside0.mk hc0
 clear hr0 hc0
 have HB := Aside0.mk (Below.refl w.heap.size w)
 have H : ((nat_short.f k l0).bind fun t925 => (if (t925.length : Int) = 0 then (some 0) else (if 0 ≤ (wrap64 ((t925.length : Int) - 1)) then (if (wrap64 ((t925.length : Int) - 1)) < (t925.length : Int) then ((bits_Len32.f (rd t925 (wrap64 ((t925.length : Int) - 1)))).bind fun t929 => (some (wrap64 ((wrap64 (32 * (wrap64 ((t925.length : Int) - 1)))) + t929)))) else (none)) else (none)))) = some r := h
 clear h
 replace H := Option.bind_eq_some_iff.mp H
 obtain ⟨t925, A20, H⟩ := H
 replace H : (if (t925.length : Int) = 0 then (some 0) else (if 0 ≤ (wrap64 ((t925.length : Int) - 1)) then (if (wrap64 ((t925.length : Int) - 1)) < (t925.length : Int) then ((bits_Len32.f (rd t925 (wrap64 ((t925.length : Int) - 1)))).bind fun t929 => (some (wrap64 ((wrap64 (32 * (wrap64 ((t925.length : Int) - 1)))) + t929)))) else (none)) else (none))) = some r := H
 have A2 := Aside0.mk A20
 clear A20
 by_cases c3 : (t925.length : Int) = 0
 ·
  rw [if_pos c3] at H
  have c3b0 : ((t925.length : Int) == 0) = true := beq_iff_eq.mpr c3
  have c3b1 : ((t925.length : Int) != 0) = false := bne_eq_false_iff_eq.mpr c3
  clear c3
  obtain rfl := Option.some.inj H
  go_enter Try.func154, Try.ntmps154
  go_wp2_with (first | ((with_reducible refine gate_callee (f := 179) rfl ?_); refine goesL_ (some 4) rfl rfl Try.func179 (by kernel_rfl) rfl #[.slice A0 l0.length c0] rfl lu ?_; (with_reducible refine (nat_short.calls k (fun k_ => k_ < w.heap.size) _ _ l0 t925 _ ?side1 A2.out).mono ?_); (case side1 => exact Kd.V_mk HC0.out (Kd.F_below (Kd.C_F (Kd.heap_int .u32) HR0.out) (bu HB.out))); rintro e w4 ⟨v926, rfl, ho0, hb⟩; refine ⟨_, rfl, ?_⟩; have HO927 := Aside0.mk (Kd.V_lower (Kd.V_mono (ok' := fun k_ => True) ho0 (fun k_ hk_ => trivial)) (below_size (bu HB.out))); replace HB := Aside0.mk (below_step (bu HB.out) hb); (try clear hb); (try clear hb2); (try clear hk); (try clear hi); (try clear ho0); obtain ⟨Ao5, co5, eo5⟩ := Kd.V_slice HO927.out; subst eo5))
  go_ret
  exact ⟨by first | rfl | (simp [errW_none, errW_some] <;> rfl) | (simp [*, errW_none, errW_some] <;> rfl), by repeat (first | (with_reducible first | exact HB.out | apply below_alloc | apply pw_below_drewN | apply below_drew1) | exact HB.out)⟩
 ·
  rw [if_neg c3] at H
  have c3b0 : ((t925.length : Int) == 0) = false := beq_eq_false_iff_ne.mpr c3
  have c3b1 : ((t925.length : Int) != 0) = true := bne_iff_ne.mpr c3
  have c3b2 : ¬ (t925 = []) := fun h_ => c3 (by rw [h_]; rfl)
  obtain ⟨ji6, hji6⟩ : ∃ j_ : Int, (wrap64 ((t925.length : Int) - 1)) = j_ := ⟨_, rfl⟩
  replace H : (if 0 ≤ (ji6) then (if (ji6) < (t925.length : Int) then ((bits_Len32.f (rd t925 (ji6))).bind fun t929 => (some (wrap64 ((wrap64 (32 * (ji6))) + t929)))) else (none)) else (none)) = some r := by first | (rw [hji6] at H; exact H) | (simp only [hji6] at H ⊢; exact H)
  (try rw [hji6] at A2)
  have hji6w : (IntKind.i64.wrap ((t925.length : Int) - 1)) = ji6 := (i64_w _).trans hji6
  by_cases c7 : 0 ≤ (ji6)
  ·
   rw [if_pos c7] at H
   have c7b0 : decide (0 ≤ (ji6)) = true := decide_eq_true c7
   clear c7
   by_cases c8 : (ji6) < (t925.length : Int)
   ·
    rw [if_pos c8] at H
    have c8b0 : decide ((ji6) < (t925.length : Int)) = true := decide_eq_true c8
    clear c8
    replace H := Option.bind_eq_some_iff.mp H
    obtain ⟨t929, A90, H⟩ := H
    replace H : (some (wrap64 ((wrap64 (32 * (ji6))) + t929))) = some r := H
    have A9 := Aside0.mk A90
    clear A90
    obtain rfl := Option.some.inj H
    go_enter Try.func154, Try.ntmps154
    go_wp2_with (first | ((with_reducible refine gate_callee (f := 179) rfl ?_); refine goesL_ (some 4) rfl rfl Try.func179 (by kernel_rfl) rfl #[.slice A0 l0.length c0] rfl lu ?_; (with_reducible refine (nat_short.calls k (fun k_ => k_ < w.heap.size) _ _ l0 t925 _ ?side1 A2.out).mono ?_); (case side1 => exact Kd.V_mk HC0.out (Kd.F_below (Kd.C_F (Kd.heap_int .u32) HR0.out) (bu HB.out))); rintro e w10 ⟨v926, rfl, ho0, hb⟩; refine ⟨_, rfl, ?_⟩; have HO927 := Aside0.mk (Kd.V_lower (Kd.V_mono (ok' := fun k_ => True) ho0 (fun k_ hk_ => trivial)) (below_size (bu HB.out))); replace HB := Aside0.mk (below_step (bu HB.out) hb); (try clear hb); (try clear hb2); (try clear hk); (try clear hi); (try clear ho0); obtain ⟨Ao11, co11, eo11⟩ := Kd.V_slice HO927.out; subst eo11; have p928 : 0 ≤ ((ji6) : Int) := of_decide_eq_true (by first | (with_reducible assumption) | assumption); have q928 : (ji6) < (t925.length : Int) := of_decide_eq_true (by first | (with_reducible assumption) | assumption); obtain ⟨ad928, e928, hx928_0⟩ := Kd.at_int (Kd.V_reads' HO927.out).2.2 (ji6) p928 q928; cases e928; replace p928 := eq_true p928; replace q928 := eq_true q928) | ((with_reducible refine gate_callee (f := 181) rfl ?_); refine goesL_ (some 18) rfl rfl Try.func181 (by kernel_rfl) rfl #[.int .u32 (rd t925 (ji6))] rfl (by (try simp only [List.map_toArray, List.map_cons, List.map_nil]); first | done | (simp only [hji6]; rfl) | rfl | (simp only [List.length_drop, List.length_take]; rfl)) ?_; (with_reducible refine (bits_Len32.calls (rd t925 (ji6)) t929 _ A9.out).mono ?_); rintro e w' ⟨rfl, ⟨nd, rfl⟩⟩; refine ⟨_, rfl, ?_⟩))
    go_ret
    exact ⟨by first | rfl | (simp [errW_none, errW_some] <;> rfl) | (simp only [← hji6]; first | rfl | (simp [errW_none, errW_some] <;> rfl)) | (simp [*, errW_none, errW_some] <;> rfl), by repeat (first | (with_reducible first | exact HB.out | apply below_alloc | apply pw_below_drewN | apply below_drew1) | exact HB.out)⟩
   ·
    rw [if_neg c8] at H
    exact absurd H (by simp)
  ·
   rw [if_neg c7] at H
   exact absurd H (by simp)
end Go.Proofs.Ytecfdemglbfnoaa.PT
end
section
namespace Go.Proofs.Ytecfdemglbfnoaa.PT
open Go.RowKit Go.Proofs.YtecfdemglbfnoaaW.PrintWords Go.Proofs.YtecfdemglbfnoaaW.PrintLast Go.Proofs.YtecfdemglbfnoaaW.PrintMore
attribute [local go_sem] max2_int min2_int max_two min_two max_three min_three max_four min_four   -- for this text's walks alone
set_option linter.unusedVariables false
set_option linter.unusedSimpArgs false
def rational_one.f  : Option (List Int) := some (([1] : List Int))
set_option maxHeartbeats 8000000 in
set_option maxRecDepth 100000 in
theorem rational_one.calls  (r : List Int) (w : World) (h : rational_one.f  = some r) :
 Calls Try.prog 161 #[] w fun e w' => ∃ v0_ : Value, e = .returned (v0_) ∧ Kd.R (Kd.int .u32) 48 w' w.heap.size (fun _ => True) v0_ r ∧ Below w.heap.size w w' := by
 have HB := Aside0.mk (Below.refl w.heap.size w)
 have H : (some (([1] : List Int))) = some r := h
 clear h
 obtain ⟨y930, hy930⟩ : ∃ y_ : List Int, y_ = (([1] : List Int)) := ⟨_, rfl⟩
 replace H : (some y930) = some r := by first | (rw [hy930]; with_reducible exact H) | (have H2_ := (Option.bind_some _ _).symm.trans H; rw [hy930]; with_reducible exact H2_) | (have H2_ := (Option.bind_some _ _).symm.trans H; with_reducible exact H2_) | with_reducible exact H | (rw [hy930]; exact H) | exact H
 have Ny930 := Aside0.mk hy930
 clear hy930
 obtain rfl := Option.some.inj H
 go_enter Try.func161, Try.ntmps161
 go_wp2_with (first | ((with_reducible refine gate_dst (N := 1) rfl ?_); refine Kd.R_lit (Kd.int .u32) _ 48 ?hg (N := 1) ?hd (xs := ([1] : List Int)) (inner := [.int .u32 1]) (ok := fun _ => True) (okp := fun _ => True) ?hr ?hp (fun _ hk => hk) trivial (Below.refl _ _) (Nat.le_refl _) (by simp) ?_; (case hd => rfl); (case hg => rfl); (case hr => first | (go_simp; done) | (go_simp; rfl)); (case hp => exact (Reps.one (show Kd.M (Kd.int .u32) _ _ _ 1 [.int .u32 1] from rfl) (Reps.none _ _))); intro v931 w1 ho2 hb hg_ hnew_; clear hg_ hnew_; (first | rw [← Ny930.out] at ho2 | (simp only [Int.reduceToNat] at ho2; rw [← Ny930.out] at ho2)); have HO932 := Aside0.mk (Kd.R_lower ho2 (below_size (bu HB.out))); replace HB := Aside0.mk (below_step (bu HB.out) hb); clear hb ho2))
 go_ret
 exact ⟨_, by first | rfl | (simp [errW_none, errW_some] <;> rfl) | (simp [*, errW_none, errW_some] <;> rfl), by (with_reducible repeat (first | apply Kd.R_alloc | apply Kd.R_drewN | apply Kd.R_drew)); exact HO932.out, by repeat (first | (with_reducible first | exact HB.out | apply below_alloc | apply pw_below_drewN | apply below_drew1) | exact HB.out)⟩
end Go.Proofs.Ytecfdemglbfnoaa.PT
end
section
namespace Go.Proofs.Ytecfdemglbfnoaa.PT
open Go.RowKit Go.Proofs.YtecfdemglbfnoaaW.PrintWords Go.Proofs.YtecfdemglbfnoaaW.PrintLast Go.Proofs.YtecfdemglbfnoaaW.PrintMore
attribute [local go_sem] max2_int min2_int max_two min_two max_three min_three max_four min_four   -- for this text's walks alone
set_option linter.unusedVariables false
set_option linter.unusedSimpArgs false
def nat_Trim.f (k : Nat) (l0 : List Int) : Option (List Int) := (nat_short.f k l0).bind fun t263 => (if ([] : List Int).length + t263.length < 35184372088832 then (some (([] : List Int) ++ t263)) else (none))
set_option maxHeartbeats 8000000 in
set_option maxRecDepth 100000 in
theorem nat_Trim.calls (k : Nat) (A0 : Option Addr) (c0 : Nat) (l0 : List Int) (r : List Int) (w : World) (hr0 : Kd.C (Kd.int .u32) w A0 l0.length l0) (hc0 : l0.length ≤ c0) (h : nat_Trim.f k l0 = some r) :
 Calls Try.prog 177 #[.slice A0 l0.length c0] w fun e w' => ∃ v0_ : Value, e = .returned (v0_) ∧ Kd.R (Kd.int .u32) 48 w' w.heap.size (fun _ => True) v0_ r ∧ Below w.heap.size w w' := by
 have HR0 := Aside0.mk hr0
 have HC0 := Aside0.mk hc0
 clear hr0 hc0
 have HB := Aside0.mk (Below.refl w.heap.size w)
 have H : ((nat_short.f k l0).bind fun t263 => (if ([] : List Int).length + t263.length < 35184372088832 then (some (([] : List Int) ++ t263)) else (none))) = some r := h
 clear h
 replace H := Option.bind_eq_some_iff.mp H
 obtain ⟨t263, A20, H⟩ := H
 replace H : (if ([] : List Int).length + t263.length < 35184372088832 then (some (([] : List Int) ++ t263)) else (none)) = some r := H
 have A2 := Aside0.mk A20
 clear A20
 by_cases c3 : ([] : List Int).length + t263.length < 35184372088832
 ·
  rw [if_pos c3] at H
  have LMc3 := Aside0.mk c3
  clear c3
  obtain ⟨y266, hy266⟩ : ∃ y_ : List Int, y_ = (([] : List Int) ++ t263) := ⟨_, rfl⟩
  replace H : (some y266) = some r := by first | (rw [hy266]; with_reducible exact H) | (have H2_ := (Option.bind_some _ _).symm.trans H; rw [hy266]; with_reducible exact H2_) | (have H2_ := (Option.bind_some _ _).symm.trans H; with_reducible exact H2_) | with_reducible exact H | (rw [hy266]; exact H) | exact H
  have Ny266 := Aside0.mk hy266
  clear hy266
  obtain rfl := Option.some.inj H
  go_enter Try.func177, Try.ntmps177
  go_wp2_with (first | ((with_reducible refine gate_callee (f := 179) rfl ?_); refine goesL_ (some 4) rfl rfl Try.func179 (by kernel_rfl) rfl #[.slice A0 l0.length c0] rfl lu ?_; (with_reducible refine (nat_short.calls k (fun k_ => k_ < w.heap.size) _ _ l0 t263 _ ?side1 A2.out).mono ?_); (case side1 => exact Kd.V_mk HC0.out (Kd.F_below (Kd.C_F (Kd.heap_int .u32) HR0.out) (bu HB.out))); rintro e w4 ⟨v264, rfl, ho0, hb⟩; refine ⟨_, rfl, ?_⟩; have HO265 := Aside0.mk (Kd.V_lower (Kd.V_mono (ok' := fun k_ => True) ho0 (fun k_ hk_ => trivial)) (below_size (bu HB.out))); replace HB := Aside0.mk (below_step (bu HB.out) hb); (try clear hb); (try clear hb2); (try clear hk); (try clear hi); (try clear ho0); obtain ⟨Ao6, co6, eo6⟩ := Kd.V_slice HO265.out; subst eo6) | ((with_reducible refine gate_builtin (b := .append) (xs := #[.const (.slice none 0 0), .tmp 4]) rfl ?_); at_builtin; refine Kd.R_append_rows (Kd.int .u32) (w0 := w) w.heap.size rfl (.const (.slice none 0 0)) (.tmp 4) 42 48 (.int .u32 0) 4 rfl Try.underlying42 info48 rfl (by decide) (by omega) (.slice none 0 0) ([] : List Int) t263 _ _ _ (fun _ => True) (fun _ => False) rfl rfl ?aO ?aR (fun _ _ h => h) (fun _ h => h.elim) ?aF ?aB ?aS ?aL ?_; (case aR => repeat (first | exact (Kd.V_reads' HO265.out).2.2 | (with_reducible refine Kd.C_alloc ?_ _) | (with_reducible refine Kd.C_drewN ?_ _) | (with_reducible refine Kd.C_drew ?_))); (case aB => exact (bu HB.out)); (case aF => exact (fun _ _ => trivial)); (case aO => exact ((Kd.R_nil _ _ _ _ (fun _ => True)))); (case aS => exact (below_size (bu HB.out))); (case aL => have := LMc3.out; omega); intro v267 w5 ho hb hg hat; rw [← Ny266.out] at ho; replace HO265 := Aside0.mk (Kd.V_afterv (Kd.V_apart_nil (vu HO265.out)) hg hat); replace HB := Aside0.mk (hb); have HO268 := Aside0.mk (ho); clear ho hb hg hat))
  go_ret
  exact ⟨_, by first | rfl | (simp [errW_none, errW_some] <;> rfl) | (simp [*, errW_none, errW_some] <;> rfl), by (with_reducible repeat (first | apply Kd.R_alloc | apply Kd.R_drewN | apply Kd.R_drew)); exact HO268.out, by repeat (first | (with_reducible first | exact HB.out | apply below_alloc | apply pw_below_drewN | apply below_drew1) | exact HB.out)⟩
 ·
  rw [if_neg c3] at H
  exact absurd H (by simp)
end Go.Proofs.Ytecfdemglbfnoaa.PT
end
section
namespace Go.Proofs.Ytecfdemglbfnoaa.PT
open Go.RowKit Go.Proofs.YtecfdemglbfnoaaW.PrintWords Go.Proofs.YtecfdemglbfnoaaW.PrintLast Go.Proofs.YtecfdemglbfnoaaW.PrintMore
attribute [local go_sem] max2_int min2_int max_two min_two max_three min_three max_four min_four   -- for this text's walks alone
set_option linter.unusedVariables false
set_option linter.unusedSimpArgs false
def nat_Of.f (k : Nat) (a0 : Int) : Option (List Int) := (nat_Trim.f k (([(a0) % 4294967296, (a0 / 4294967296) % 4294967296] : List Int))).bind fun t272 => (some t272)
set_option maxHeartbeats 8000000 in
set_option maxRecDepth 100000 in
theorem nat_Of.calls (k : Nat) (a0 : Int) (r : List Int) (w : World) (h : nat_Of.f k a0 = some r) :
 Calls Try.prog 141 #[.int .u64 a0] w fun e w' => ∃ v0_ : Value, e = .returned (v0_) ∧ Kd.R (Kd.int .u32) 48 w' w.heap.size (fun _ => True) v0_ r ∧ Below w.heap.size w w' := by
 have HB := Aside0.mk (Below.refl w.heap.size w)
 have H : ((nat_Trim.f k (([(a0) % 4294967296, (a0 / 4294967296) % 4294967296] : List Int))).bind fun t272 => (some t272)) = some r := h
 clear h
 obtain ⟨y269, hy269⟩ : ∃ y_ : List Int, y_ = (([(a0) % 4294967296, (a0 / 4294967296) % 4294967296] : List Int)) := ⟨_, rfl⟩
 replace H : ((nat_Trim.f k y269).bind fun t272 => (some t272)) = some r := by first | (rw [hy269]; with_reducible exact H) | (have H2_ := (Option.bind_some _ _).symm.trans H; rw [hy269]; with_reducible exact H2_) | (have H2_ := (Option.bind_some _ _).symm.trans H; with_reducible exact H2_) | with_reducible exact H | (rw [hy269]; exact H) | exact H
 have Ny269 := Aside0.mk hy269
 clear hy269
 replace H := Option.bind_eq_some_iff.mp H
 obtain ⟨t272, A20, H⟩ := H
 replace H : (some t272) = some r := H
 have A2 := Aside0.mk A20
 clear A20
 obtain rfl := Option.some.inj H
 go_enter Try.func141, Try.ntmps141
 go_wp2_with (first | ((with_reducible refine gate_dst (N := 8) rfl ?_); refine Kd.R_lit (Kd.int .u32) _ 48 ?hg (N := 8) ?hd (xs := ([(a0) % 4294967296, (a0 / 4294967296) % 4294967296] : List Int)) (inner := [.int .u32 ((a0) % 4294967296), .int .u32 ((a0 / 4294967296) % 4294967296)]) (ok := fun _ => True) (okp := fun _ => True) ?hr ?hp (fun _ hk => hk) trivial (Below.refl _ _) (Nat.le_refl _) (by simp) ?_; (case hd => rfl); (case hg => rfl); (case hr => first | (go_simp; done) | (go_simp; rfl)); (case hp => exact (Reps.one (show Kd.M (Kd.int .u32) _ _ _ ((a0) % 4294967296) [.int .u32 ((a0) % 4294967296)] from rfl) (Reps.one (show Kd.M (Kd.int .u32) _ _ _ ((a0 / 4294967296) % 4294967296) [.int .u32 ((a0 / 4294967296) % 4294967296)] from rfl) (Reps.none _ _)))); intro v270 w3 ho4 hb hg_ hnew_; clear hg_ hnew_; (first | rw [← Ny269.out] at ho4 | (simp only [Int.reduceToNat] at ho4; rw [← Ny269.out] at ho4)); have HO271 := Aside0.mk (Kd.R_lower ho4 (below_size (bu HB.out))); replace HB := Aside0.mk (below_step (bu HB.out) hb); clear hb ho4; obtain ⟨Ao5, co5, eo5⟩ := Kd.R_slice HO271.out; subst eo5) | ((with_reducible refine gate_callee (f := 177) rfl ?_); refine goesL_ (some 9) rfl rfl Try.func177 (by kernel_rfl) rfl #[.slice Ao5 y269.length co5] rfl lu ?_; (with_reducible refine (nat_Trim.calls k _ _ y269 t272 _ ?side1 ?side2 A2.out).mono ?_); (case side1 => repeat (first | exact (Kd.R_reads' HO271.out).2.2 | (with_reducible refine Kd.C_alloc ?_ _) | (with_reducible refine Kd.C_drewN ?_ _) | (with_reducible refine Kd.C_drew ?_))); (case side2 => exact (Kd.R_reads' HO271.out).2.1); rintro e w6 ⟨v273, rfl, ho0, hb⟩; refine ⟨_, rfl, ?_⟩; have HO274 := Aside0.mk (Kd.R_lower (Kd.R_new' ho0 (Kd.R_lt (by (with_reducible repeat (first | apply Kd.R_alloc | apply Kd.R_drewN | apply Kd.R_drew)); exact HO271.out))) (below_size (bu HB.out))); replace HO271 := Aside0.mk (Kd.R_elder' (by (with_reducible repeat (first | apply Kd.R_alloc | apply Kd.R_drewN | apply Kd.R_drew)); exact HO271.out) (Kd.R_base ho0) hb); replace HB := Aside0.mk (below_step (bu HB.out) hb); (try clear hb); (try clear hb2); (try clear hk); (try clear hi); (try clear ho0)))
 go_ret
 exact ⟨_, by first | rfl | (simp [errW_none, errW_some] <;> rfl) | (simp [*, errW_none, errW_some] <;> rfl), by (with_reducible repeat (first | apply Kd.R_alloc | apply Kd.R_drewN | apply Kd.R_drew)); exact Kd.R_mono HO274.out (fun _ hk => trivial), by repeat (first | (with_reducible first | exact HB.out | apply below_alloc | apply pw_below_drewN | apply below_drew1) | exact HB.out)⟩
end Go.Proofs.Ytecfdemglbfnoaa.PT
end
