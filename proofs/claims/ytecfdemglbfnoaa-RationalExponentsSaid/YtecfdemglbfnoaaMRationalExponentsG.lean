/- Walks and plain facts for the law RationalExponents, several texts in one: each theorem says what it shows; no condition beyond those that it names. -/
import Derived.Test.YtecfdemglbfnoaaProg
import Derived.Below
import Derived.Deep.Draws
import Derived.Deep.AppendLies
import Derived.Maps.AppendAt
import Derived.OwnWalk
import Derived.Laws.BytesArg
import Derived.Laws.MakeOwn
import Derived.Laws.OwnMore
import Derived.Deep.OwnRows
import Derived.Tactics
import Derived.Lib.ConvBytes
import Derived.Laws.Slices
import Derived.WalkKit
import Derived.KernelRfl
import Derived.RowKit3
import Derived.Deep.LoopGhost
import Derived.Deep.QuietTactic
import Derived.BigQuiet
import Derived.WideLaws
import Derived.Deep.DeepCutAuto
import Derived.Deep.CutBlock
import Derived.Deep.RegionHeld3
import Derived.Laws.Rows
import Derived.Lib.AppendStr
import Derived.ArgAppend
import Derived.Laws.IdiomCopy
import Derived.OrdersHeld
import Derived.Laws.BitsLemmas
import Derived.RowKit
import Derived.Test.YtecfdemglbfnoaaMRationalExponentsF
section
namespace Go.Proofs.Ytecfdemglbfnoaa.PT
open Go.RowKit Go.Proofs.YtecfdemglbfnoaaW.PrintWords Go.Proofs.YtecfdemglbfnoaaW.PrintLast Go.Proofs.YtecfdemglbfnoaaW.PrintMore
attribute [local go_sem] max2_int min2_int max_two min_two max_three min_three max_four min_four   -- for this text's walks alone
set_option linter.unusedVariables false
set_option linter.unusedSimpArgs false
def errW : Option Int → Value
 | none => .nilIface
 | some c => .iface 0 (.int .i64 c)
theorem errW_none : errW none = .nilIface := rfl
theorem errW_some (c : Int) : errW (some c) = .iface 0 (.int .i64 c) := rfl
theorem info48 : (Try.prog.info? 48).map (fun i => (i.zero, i.size, i.bytes)) = some (some (.int .u32 0), 1, 4) := by kernel_rfl
structure S124 where
 f0 : Int
 f1 : Int
 f2 : Int
def rd_L4 (xs : List (List Int)) (i : Int) : (List Int) := xs.getD i.toNat ([] : List Int)
theorem at_L4 {w : World} {A : Option Addr} {n : Nat} {xs : List (List Int)} (h : Kd.C (Kd.slice 48 (Kd.int .u32)) w A n xs) (i : Int) (h0 : 0 ≤ i) (h1 : i < n) : ∃ ad A0 c0, A = some ad ∧ w.cell? (ad.add i.toNat) = some (.slice A0 (rd_L4 xs i).length c0) ∧ (rd_L4 xs i).length ≤ c0 ∧ (Kd.int .u32).C w A0 (rd_L4 xs i).length (rd_L4 xs i) := by
 obtain ⟨ad, c, e, _, hK, hc0⟩ := Kd.C_get h ([] : List Int) i h0 h1
 have hc : ∀ j u, c[j]? = some u → w.cell? (ad.add (i.toNat * 1 + j)) = some u := hc0
 obtain ⟨A0, c0, rfl, l0, g0⟩ := hK
 exact ⟨ad, A0, c0, e, by have hq := hc 0 _ rfl; rwa [Nat.mul_one, Nat.add_zero] at hq, l0, g0⟩
structure S67 where
 f0 : Bool
 f1 : (List Int)
 f2 : (List Int)
def z67 : S67 := ⟨false, ([] : List Int), ([] : List Int)⟩
def k67 : Kd S67 := Kd.iso (Kd.pair Kd.bool (Kd.pair (Kd.slice 48 (Kd.int .u32)) (Kd.slice 48 (Kd.int .u32)))) (fun x : S67 => (x.f0, x.f1, x.f2))
theorem k67_open {w : World} {x : S67} {cs : List Value} (h : k67.K w x cs) : ∃ A1 c1 A2 c2, cs = [.bool x.f0, .slice A1 x.f1.length c1, .slice A2 x.f2.length c2] ∧ x.f1.length ≤ c1 ∧ (Kd.int .u32).C w A1 x.f1.length x.f1 ∧ x.f2.length ≤ c2 ∧ (Kd.int .u32).C w A2 x.f2.length x.f2 := by
 obtain ⟨_, _, rfl, rfl, ⟨_, _, rfl, ⟨A1, c1, rfl, l1, g1⟩, ⟨A2, c2, rfl, l2, g2⟩⟩⟩ := h
 exact ⟨A1, c1, A2, c2, rfl, l1, g1, l2, g2⟩
theorem k67_mk (w : World) (x : S67) {A1 : Option Addr} {c1 : Nat} (l1 : x.f1.length ≤ c1) (g1 : (Kd.int .u32).C w A1 x.f1.length x.f1) {A2 : Option Addr} {c2 : Nat} (l2 : x.f2.length ≤ c2) (g2 : (Kd.int .u32).C w A2 x.f2.length x.f2) : k67.K w x [.bool x.f0, .slice A1 x.f1.length c1, .slice A2 x.f2.length c2] := ⟨[.bool x.f0], [.slice A1 x.f1.length c1, .slice A2 x.f2.length c2], rfl, rfl, ⟨[.slice A1 x.f1.length c1], [.slice A2 x.f2.length c2], rfl, ⟨A1, c1, rfl, l1, g1⟩, ⟨A2, c2, rfl, l2, g2⟩⟩⟩
theorem k67_openF {W : World} {ok : Nat → Prop} {x : S67} {cs : List Value} (h : Kd.FK k67 W ok x cs) : ∃ A1 c1 A2 c2, cs = [.bool x.f0, .slice A1 x.f1.length c1, .slice A2 x.f2.length c2] ∧ x.f1.length ≤ c1 ∧ Kd.F (Kd.int .u32) W ok A1 x.f1.length x.f1 ∧ x.f2.length ≤ c2 ∧ Kd.F (Kd.int .u32) W ok A2 x.f2.length x.f2 := by
 obtain ⟨A1, c1, A2, c2, rfl, l1, _, l2, _⟩ := k67_open (Kd.FK_now h)
 exact ⟨A1, c1, A2, c2, rfl, l1, (fun W' hW => by obtain ⟨A1_, c1_, A2_, c2_, he, l1_, g1_, l2_, g2_⟩ := k67_open (h W' hW); injection (Option.some.inj (show some (Value.slice A1 x.f1.length c1) = some (Value.slice A1_ x.f1.length c1_) from congrArg (fun l => l[1]?) he)) with ha_ _ _; rw [ha_]; exact g1_), l2, (fun W' hW => by obtain ⟨A1_, c1_, A2_, c2_, he, l1_, g1_, l2_, g2_⟩ := k67_open (h W' hW); injection (Option.some.inj (show some (Value.slice A2 x.f2.length c2) = some (Value.slice A2_ x.f2.length c2_) from congrArg (fun l => l[2]?) he)) with ha_ _ _; rw [ha_]; exact g2_)⟩
theorem k67_mkF (W : World) (ok : Nat → Prop) (x : S67) {A1 : Option Addr} {c1 : Nat} (l1 : x.f1.length ≤ c1) (g1 : Kd.F (Kd.int .u32) W ok A1 x.f1.length x.f1) {A2 : Option Addr} {c2 : Nat} (l2 : x.f2.length ≤ c2) (g2 : Kd.F (Kd.int .u32) W ok A2 x.f2.length x.f2) : Kd.FK k67 W ok x [.bool x.f0, .slice A1 x.f1.length c1, .slice A2 x.f2.length c2] := fun W2 hW => k67_mk W2 x l1 (g1 W2 hW) l2 (g2 W2 hW)
def rd_T67 (xs : List S67) (i : Int) : S67 := xs.getD i.toNat z67
theorem at_T67 {w : World} {A : Option Addr} {n : Nat} {xs : List S67} (h : Kd.C k67 w A n xs) (i : Int) (h0 : 0 ≤ i) (h1 : i < n) : ∃ ad A1 c1 A2 c2, A = some ad ∧ w.cell? (ad.add (i.toNat * 3)) = some (.bool (rd_T67 xs i).f0) ∧ w.cell? ⟨(ad.add (i.toNat * 3)).block, (ad.add (i.toNat * 3)).off + 1, none⟩ = some (.slice A1 (rd_T67 xs i).f1.length c1) ∧ w.cell? ⟨(ad.add (i.toNat * 3)).block, (ad.add (i.toNat * 3)).off + 2, none⟩ = some (.slice A2 (rd_T67 xs i).f2.length c2) ∧ (rd_T67 xs i).f1.length ≤ c1 ∧ (Kd.int .u32).C w A1 (rd_T67 xs i).f1.length (rd_T67 xs i).f1 ∧ (rd_T67 xs i).f2.length ≤ c2 ∧ (Kd.int .u32).C w A2 (rd_T67 xs i).f2.length (rd_T67 xs i).f2 := by
 obtain ⟨ad, c, e, _, hK, hc0⟩ := Kd.C_get h z67 i h0 h1
 have hc : ∀ j u, c[j]? = some u → w.cell? (ad.add (i.toNat * 3 + j)) = some u := hc0
 obtain ⟨A1, c1, A2, c2, rfl, l1, g1, l2, g2⟩ := k67_open hK
 exact ⟨ad, A1, c1, A2, c2, e, hc 0 _ rfl, by rw [← add_field _ _ 1 (by omega)]; exact hc 1 _ rfl, by rw [← add_field _ _ 2 (by omega)]; exact hc 2 _ rfl, l1, g1, l2, g2⟩
structure S53 where
 f0 : Int
 f1 : (List Int)
end Go.Proofs.Ytecfdemglbfnoaa.PT
end
section
namespace Go.Proofs.Ytecfdemglbfnoaa.PT
open Go.RowKit Go.Proofs.YtecfdemglbfnoaaW.PrintWords Go.Proofs.YtecfdemglbfnoaaW.PrintLast Go.Proofs.YtecfdemglbfnoaaW.PrintMore
attribute [local go_sem] max2_int min2_int max_two min_two max_three min_three max_four min_four   -- for this text's walks alone
set_option linter.unusedVariables false
set_option linter.unusedSimpArgs false
def codewrightref01_Same.l0 : Nat → List Int → List Int → Int → Option (Bool)
 | 0, _, _, _ => none
 | k + 1, x0, x1, x5 => if x5 < (x0.length : Int) then (if 0 ≤ x5 then (if x5 < (x1.length : Int) then (if (rd x0 x5) = (rd x1 x5) then (codewrightref01_Same.l0 k x0 x1 (wrap64 (x5 + 1))) else (some false)) else (none)) else (none)) else (some true)
def codewrightref01_Same.f (k : Nat) (l0 : List Int) (l1 : List Int) : Option (Bool) := if (l0.length : Int) = (l1.length : Int) then (codewrightref01_Same.l0 k l0 l1 0) else (some false)
set_option maxHeartbeats 8000000 in
set_option maxRecDepth 100000 in
theorem codewrightref01_Same.calls (k : Nat) (A0 : Option Addr) (c0 : Nat) (l0 : List Int) (A1 : Option Addr) (c1 : Nat) (l1 : List Int) (r : Bool) (w : World) (hr0 : Kd.C (Kd.int .u32) w A0 l0.length l0) (hc0 : l0.length ≤ c0) (hr1 : Kd.C (Kd.int .u32) w A1 l1.length l1) (hc1 : l1.length ≤ c1) (h : codewrightref01_Same.f k l0 l1 = some r) :
 Calls Try.prog 51 #[.slice A0 l0.length c0, .slice A1 l1.length c1] w fun e w' => e = .returned (.bool r) ∧ Drawn0 w w' := by
 have HR0 := Aside0.mk hr0
 have HC0 := Aside0.mk hc0
 clear hr0 hc0
 have HR1 := Aside0.mk hr1
 have HC1 := Aside0.mk hc1
 clear hr1 hc1
 have H : (if (l0.length : Int) = (l1.length : Int) then (codewrightref01_Same.l0 k l0 l1 0) else (some false)) = some r := h
 clear h
 by_cases c3 : (l0.length : Int) = (l1.length : Int)
 ·
  rw [if_pos c3] at H
  have c3b0 : ((l0.length : Int) == (l1.length : Int)) = true := beq_iff_eq.mpr c3
  have c3b1 : ((l0.length : Int) != (l1.length : Int)) = false := bne_eq_false_iff_eq.mpr c3
  have c3b2 : (l0.length == l1.length) = true := by first | simpa using c3 | (simp at c3 ⊢; omega)
  clear c3
  have H' := Aside0.mk H
  clear H
  go_enter Try.func51, Try.ntmps51
  go_wp2
  repeat (go_quiet (fail); try go_wp2)
  go_loopg [5] k (fun kq v5 w' => ∃ (x5_1 : Int), v5 = .int .i64 x5_1 ∧ Aside0 (codewrightref01_Same.l0 kq l0 l1 x5_1 = some r) ∧ Aside0 (kq ≤ k) ∧ Drawn0 w w')
  case atStart => exact ⟨(0), (by first | rfl | (simp; done) | (simp [*]; done)), H', ⟨Nat.le_refl _⟩, by repeat (first | exact Drawn0.refl _ | apply Drawn0.step)⟩
  case round =>
   clear H'
   try clear c1
   try clear p2
   try clear c3
   try clear c3b0
   try clear c3b1
   try clear c3b2
   obtain ⟨x5_1, rfl, HA, HK1, ⟨m1, rfl⟩⟩ := hrel
   cases gk with
   | zero => exact absurd HA.out (by simp [codewrightref01_Same.l0])
   | succ k1 =>
    have H := HA.out
    clear HA
    simp only [codewrightref01_Same.l0] at H
    by_cases c4 : x5_1 < (l0.length : Int)
    ·
     rw [if_pos c4] at H
     have c4b0 : decide (x5_1 < (l0.length : Int)) = true := decide_eq_true c4
     clear c4
     by_cases c5 : 0 ≤ x5_1
     ·
      rw [if_pos c5] at H
      have c5b0 : decide (0 ≤ x5_1) = true := decide_eq_true c5
      clear c5
      by_cases c6 : x5_1 < (l1.length : Int)
      ·
       rw [if_pos c6] at H
       have c6b0 : decide (x5_1 < (l1.length : Int)) = true := decide_eq_true c6
       clear c6
       by_cases c7 : (rd l0 x5_1) = (rd l1 x5_1)
       ·
        rw [if_pos c7] at H
        have c7b0 : ((rd l0 x5_1) == (rd l1 x5_1)) = true := beq_iff_eq.mpr c7
        have c7b1 : ((rd l0 x5_1) != (rd l1 x5_1)) = false := bne_eq_false_iff_eq.mpr c7
        clear c7
        have H' := Aside0.mk H
        clear H
        have p250 : 0 ≤ (x5_1 : Int) := of_decide_eq_true (by first | (with_reducible assumption) | assumption)
        have q250 : x5_1 < (l0.length : Int) := of_decide_eq_true (by first | (with_reducible assumption) | assumption)
        obtain ⟨ad250, e250, hx250_0⟩ := Kd.at_int HR0.out x5_1 p250 q250
        cases e250
        replace p250 := eq_true p250
        replace q250 := eq_true q250
        have p251 : 0 ≤ (x5_1 : Int) := of_decide_eq_true (by first | (with_reducible assumption) | assumption)
        have q251 : x5_1 < (l1.length : Int) := of_decide_eq_true (by first | (with_reducible assumption) | assumption)
        obtain ⟨ad251, e251, hx251_0⟩ := Kd.at_int HR1.out x5_1 p251 q251
        cases e251
        replace p251 := eq_true p251
        replace q251 := eq_true q251
        go_wp2
        repeat (go_quiet (fail); try go_wp2)
        go_roundg k1
        case measure => have := HK1.out; omega
        case rel => exact ⟨(wrap64 (x5_1 + 1)), (by first | rfl | (simp; done) | (simp [*]; done)), H', ⟨by have := HK1.out; omega⟩, by repeat (first | exact Drawn0.refl _ | apply Drawn0.step)⟩
       ·
        rw [if_neg c7] at H
        have c7b0 : ((rd l0 x5_1) == (rd l1 x5_1)) = false := beq_eq_false_iff_ne.mpr c7
        have c7b1 : ((rd l0 x5_1) != (rd l1 x5_1)) = true := bne_iff_ne.mpr c7
        obtain rfl := Option.some.inj H
        have p250 : 0 ≤ (x5_1 : Int) := of_decide_eq_true (by first | (with_reducible assumption) | assumption)
        have q250 : x5_1 < (l0.length : Int) := of_decide_eq_true (by first | (with_reducible assumption) | assumption)
        obtain ⟨ad250, e250, hx250_0⟩ := Kd.at_int HR0.out x5_1 p250 q250
        cases e250
        replace p250 := eq_true p250
        replace q250 := eq_true q250
        have p251 : 0 ≤ (x5_1 : Int) := of_decide_eq_true (by first | (with_reducible assumption) | assumption)
        have q251 : x5_1 < (l1.length : Int) := of_decide_eq_true (by first | (with_reducible assumption) | assumption)
        obtain ⟨ad251, e251, hx251_0⟩ := Kd.at_int HR1.out x5_1 p251 q251
        cases e251
        replace p251 := eq_true p251
        replace q251 := eq_true q251
        go_wp2
        repeat (go_quiet (fail); try go_wp2)
        go_ret
        exact ⟨by first | rfl | (simp; done) | (simp [*]; done), by repeat (first | exact Drawn0.refl _ | apply Drawn0.step)⟩
      ·
       rw [if_neg c6] at H
       exact absurd H (by simp)
     ·
      rw [if_neg c5] at H
      exact absurd H (by simp)
    ·
     rw [if_neg c4] at H
     have c4b0 : decide (x5_1 < (l0.length : Int)) = false := decide_eq_false c4
     clear c4
     obtain rfl := Option.some.inj H
     go_wp2
     repeat (go_quiet (fail); try go_wp2)
     go_ret
     exact ⟨by first | rfl | (simp; done) | (simp [*]; done), by repeat (first | exact Drawn0.refl _ | apply Drawn0.step)⟩
 ·
  rw [if_neg c3] at H
  have c3b0 : ((l0.length : Int) == (l1.length : Int)) = false := beq_eq_false_iff_ne.mpr c3
  have c3b1 : ((l0.length : Int) != (l1.length : Int)) = true := bne_iff_ne.mpr c3
  have c3b2 : (l0.length == l1.length) = false := by first | simpa using c3 | (simp at c3 ⊢; omega)
  obtain rfl := Option.some.inj H
  go_enter Try.func51, Try.ntmps51
  go_wp2
  repeat (go_quiet (fail); try go_wp2)
  go_ret
  exact ⟨by first | rfl | (simp; done) | (simp [*]; done), by repeat (first | exact Drawn0.refl _ | apply Drawn0.step)⟩
end Go.Proofs.Ytecfdemglbfnoaa.PT
end
section
namespace Go.Proofs.Ytecfdemglbfnoaa.PT
open Go.RowKit Go.Proofs.YtecfdemglbfnoaaW.PrintWords Go.Proofs.YtecfdemglbfnoaaW.PrintLast Go.Proofs.YtecfdemglbfnoaaW.PrintMore
attribute [local go_sem] max2_int min2_int max_two min_two max_three min_three max_four min_four   -- for this text's walks alone
set_option linter.unusedVariables false
set_option linter.unusedSimpArgs false
def codewrightref02_Same.f (k : Nat) (a0_0 : Bool) (l0_1 : List Int) (l0_2 : List Int) (a1_0 : Bool) (l1_1 : List Int) (l1_2 : List Int) : Option (Bool) := if (a0_0 == a1_0) = true then ((codewrightref01_Same.f k l0_1 l1_1).bind fun t1147 => (if t1147 = true then ((codewrightref01_Same.f k l0_2 l1_2).bind fun t1148 => (some t1148)) else (some false))) else (some false)
set_option maxHeartbeats 8000000 in
set_option maxRecDepth 100000 in
theorem codewrightref02_Same.calls (k : Nat) (a0_0 : Bool) (A0_1 : Option Addr) (c0_1 : Nat) (l0_1 : List Int) (A0_2 : Option Addr) (c0_2 : Nat) (l0_2 : List Int) (a1_0 : Bool) (A1_1 : Option Addr) (c1_1 : Nat) (l1_1 : List Int) (A1_2 : Option Addr) (c1_2 : Nat) (l1_2 : List Int) (r : Bool) (w : World) (hr0_1 : Kd.C (Kd.int .u32) w A0_1 l0_1.length l0_1) (hc0_1 : l0_1.length ≤ c0_1) (hr0_2 : Kd.C (Kd.int .u32) w A0_2 l0_2.length l0_2) (hc0_2 : l0_2.length ≤ c0_2) (hr1_1 : Kd.C (Kd.int .u32) w A1_1 l1_1.length l1_1) (hc1_1 : l1_1.length ≤ c1_1) (hr1_2 : Kd.C (Kd.int .u32) w A1_2 l1_2.length l1_2) (hc1_2 : l1_2.length ≤ c1_2) (h : codewrightref02_Same.f k a0_0 l0_1 l0_2 a1_0 l1_1 l1_2 = some r) :
 Calls Try.prog 110 #[.agg #[.bool a0_0, .slice A0_1 l0_1.length c0_1, .slice A0_2 l0_2.length c0_2], .agg #[.bool a1_0, .slice A1_1 l1_1.length c1_1, .slice A1_2 l1_2.length c1_2]] w fun e w' => e = .returned (.bool r) ∧ Below w.heap.size w w' := by
 have hu67 := Try.underlying67
 have HR0_1 := Aside0.mk hr0_1
 have HC0_1 := Aside0.mk hc0_1
 clear hr0_1 hc0_1
 have HR0_2 := Aside0.mk hr0_2
 have HC0_2 := Aside0.mk hc0_2
 clear hr0_2 hc0_2
 have HR1_1 := Aside0.mk hr1_1
 have HC1_1 := Aside0.mk hc1_1
 clear hr1_1 hc1_1
 have HR1_2 := Aside0.mk hr1_2
 have HC1_2 := Aside0.mk hc1_2
 clear hr1_2 hc1_2
 have HB := Aside0.mk (Below.refl w.heap.size w)
 have H : (if (a0_0 == a1_0) = true then ((codewrightref01_Same.f k l0_1 l1_1).bind fun t1147 => (if t1147 = true then ((codewrightref01_Same.f k l0_2 l1_2).bind fun t1148 => (some t1148)) else (some false))) else (some false)) = some r := h
 clear h
 by_cases c3 : (a0_0 == a1_0) = true
 ·
  rw [if_pos c3] at H
  have c3b0 : (a0_0 == a1_0) = true := c3
  (try (have c3b1 : decide (a0_0 = a1_0) = true := by simpa using c3))
  (try (have c3b2 : (a0_0 == a1_0) = true := by simpa using c3))
  clear c3
  replace H := Option.bind_eq_some_iff.mp H
  obtain ⟨t1147, A40, H⟩ := H
  replace H : (if t1147 = true then ((codewrightref01_Same.f k l0_2 l1_2).bind fun t1148 => (some t1148)) else (some false)) = some r := H
  have A4 := Aside0.mk A40
  clear A40
  by_cases c5 : t1147 = true
  ·
   subst c5
   have H1 : ((codewrightref01_Same.f k l0_2 l1_2).bind fun t1148 => (some t1148)) = some r := by rw [if_pos rfl] at H; exact H
   clear H
   have H := H1
   clear H1
   replace H := Option.bind_eq_some_iff.mp H
   obtain ⟨t1148, A60, H⟩ := H
   replace H : (some t1148) = some r := H
   have A6 := Aside0.mk A60
   clear A60
   obtain rfl := Option.some.inj H
   go_enter Try.func110, Try.ntmps110
   go_wp2_with (first | ((with_reducible refine gate_dst (N := 2) rfl ?_); refine box_event ?hg (N := 2) ?hd (cs := #[.bool a0_0, .slice A0_1 l0_1.length c0_1, .slice A0_2 l0_2.length c0_2]) (t := 67) ?hr ?_; (case hd => rfl); (case hg => rfl); (case hr => first | (go_simp; done) | (go_simp; rfl)); intro gb1145 hg w7 hbox hb; have BK1145 := Aside0.mk (hbox); have GW1145 := Aside0.mk ((by rw [hg]; exact (below_size (bu HB.out)) : w.heap.size ≤ gb1145)); have GE1145 := Aside0.mk ((by rw [hg]; exact (below_size (bu HB.out)) : w.heap.size ≤ gb1145)); replace HB := Aside0.mk (below_step (bu HB.out) hb); clear hb hbox hg) | ((with_reducible refine gate_dst (N := 3) rfl ?_); refine box_event ?hg (N := 3) ?hd (cs := #[.bool a1_0, .slice A1_1 l1_1.length c1_1, .slice A1_2 l1_2.length c1_2]) (t := 67) ?hr ?_; (case hd => rfl); (case hg => rfl); (case hr => first | (go_simp; done) | (go_simp; rfl)); intro gb1146 hg w8 hbox hb; have BK1146 := Aside0.mk (hbox); have GW1146 := Aside0.mk ((by rw [hg]; exact (below_size (bu1 HB.out GE1145.out)) : w.heap.size ≤ gb1146)); have GE1146 := Aside0.mk ((by rw [hg]; exact (below_size (bu1 HB.out GE1145.out)) : w.heap.size ≤ gb1146)); replace HB := Aside0.mk (below_step (bu1 HB.out GE1145.out) hb); have NB1145_1146 := Aside0.mk ((by rw [hg]; exact Nat.ne_of_lt (blk_lt (g := gb1145) (o := .cells #[.bool a0_0, .slice A0_1 l0_1.length c0_1, .slice A0_2 l0_2.length c0_2] 67 (0, 0)) (ku BK1145.out)) : gb1145 ≠ gb1146)); have NB1146_1145 := Aside0.mk ((by rw [hg]; exact Nat.ne_of_gt (blk_lt (g := gb1145) (o := .cells #[.bool a0_0, .slice A0_1 l0_1.length c0_1, .slice A0_2 l0_2.length c0_2] 67 (0, 0)) (ku BK1145.out)) : gb1146 ≠ gb1145)); replace BK1145 := Aside0.mk (blk_below (g := gb1145) (o := .cells #[.bool a0_0, .slice A0_1 l0_1.length c0_1, .slice A0_2 l0_2.length c0_2] 67 (0, 0)) (ku BK1145.out) hb); clear hb hbox hg; have hnb9 := NB1145_1146.out; have hnc9 := NB1146_1145.out; have hcz10_0 : w8.cell? ⟨gb1145, 0, none⟩ = some (.bool a0_0) := (blk_cell BK1145.out 0).trans rfl; have hcz10_1 : w8.cell? ⟨gb1145, 1, none⟩ = some (.slice A0_1 l0_1.length c0_1) := (blk_cell BK1145.out 1).trans rfl; have hcz10_2 : w8.cell? ⟨gb1145, 2, none⟩ = some (.slice A0_2 l0_2.length c0_2) := (blk_cell BK1145.out 2).trans rfl; have hfz10_0 := blk_frozen BK1145.out 0; have hfz10_1 := blk_frozen BK1145.out 1; have hfz10_2 := blk_frozen BK1145.out 2; have hcz11_0 : w8.cell? ⟨gb1146, 0, none⟩ = some (.bool a1_0) := (blk_cell BK1146.out 0).trans rfl; have hcz11_1 : w8.cell? ⟨gb1146, 1, none⟩ = some (.slice A1_1 l1_1.length c1_1) := (blk_cell BK1146.out 1).trans rfl; have hcz11_2 : w8.cell? ⟨gb1146, 2, none⟩ = some (.slice A1_2 l1_2.length c1_2) := (blk_cell BK1146.out 2).trans rfl; have hfz11_0 := blk_frozen BK1146.out 0; have hfz11_1 := blk_frozen BK1146.out 1; have hfz11_2 := blk_frozen BK1146.out 2) | (go_at_call 51; (with_reducible refine (codewrightref01_Same.calls k _ _ l0_1 _ _ l1_1 true _ ?side1 ?side2 ?side3 ?side4 A4.out).mono ?_); (case side1 => repeat (first | exact (Kd.C_below HR0_1.out HB.out) | (with_reducible refine Kd.C_alloc ?_ _) | (with_reducible refine Kd.C_drewN ?_ _) | (with_reducible refine Kd.C_drew ?_))); (case side2 => exact HC0_1.out); (case side3 => repeat (first | exact (Kd.C_below HR1_1.out HB.out) | (with_reducible refine Kd.C_alloc ?_ _) | (with_reducible refine Kd.C_drewN ?_ _) | (with_reducible refine Kd.C_drew ?_))); (case side4 => exact HC1_1.out); rintro e w' ⟨rfl, ⟨nd, rfl⟩⟩) | (go_at_call 51; (with_reducible refine (codewrightref01_Same.calls k _ _ l0_2 _ _ l1_2 t1148 _ ?side1 ?side2 ?side3 ?side4 A6.out).mono ?_); (case side1 => repeat (first | exact (Kd.C_below HR0_2.out (bu2 HB.out GE1145.out GE1146.out)) | (with_reducible refine Kd.C_alloc ?_ _) | (with_reducible refine Kd.C_drewN ?_ _) | (with_reducible refine Kd.C_drew ?_))); (case side2 => exact HC0_2.out); (case side3 => repeat (first | exact (Kd.C_below HR1_2.out (bu2 HB.out GE1145.out GE1146.out)) | (with_reducible refine Kd.C_alloc ?_ _) | (with_reducible refine Kd.C_drewN ?_ _) | (with_reducible refine Kd.C_drew ?_))); (case side4 => exact HC1_2.out); rintro e w' ⟨rfl, ⟨nd, rfl⟩⟩))
   go_ret
   exact ⟨by first | rfl | (simp [errW_none, errW_some] <;> rfl) | (simp [*, errW_none, errW_some] <;> rfl), by repeat (first | (with_reducible first | exact HB.out | apply below_alloc | apply pw_below_drewN | apply below_drew1 | refine below_set ?_ GE1145.out | refine below_set ?_ GE1146.out) | exact HB.out)⟩
  ·
   replace c5 := Bool.eq_false_iff.mpr c5
   subst c5
   have H1 : (some false) = some r := by rw [if_neg (show ¬ (false = true) by decide)] at H; exact H
   clear H
   have H := H1
   clear H1
   obtain rfl := Option.some.inj H
   go_enter Try.func110, Try.ntmps110
   go_wp2_with (first | ((with_reducible refine gate_dst (N := 2) rfl ?_); refine box_event ?hg (N := 2) ?hd (cs := #[.bool a0_0, .slice A0_1 l0_1.length c0_1, .slice A0_2 l0_2.length c0_2]) (t := 67) ?hr ?_; (case hd => rfl); (case hg => rfl); (case hr => first | (go_simp; done) | (go_simp; rfl)); intro gb1145 hg w12 hbox hb; have BK1145 := Aside0.mk (hbox); have GW1145 := Aside0.mk ((by rw [hg]; exact (below_size (bu HB.out)) : w.heap.size ≤ gb1145)); have GE1145 := Aside0.mk ((by rw [hg]; exact (below_size (bu HB.out)) : w.heap.size ≤ gb1145)); replace HB := Aside0.mk (below_step (bu HB.out) hb); clear hb hbox hg) | ((with_reducible refine gate_dst (N := 3) rfl ?_); refine box_event ?hg (N := 3) ?hd (cs := #[.bool a1_0, .slice A1_1 l1_1.length c1_1, .slice A1_2 l1_2.length c1_2]) (t := 67) ?hr ?_; (case hd => rfl); (case hg => rfl); (case hr => first | (go_simp; done) | (go_simp; rfl)); intro gb1146 hg w13 hbox hb; have BK1146 := Aside0.mk (hbox); have GW1146 := Aside0.mk ((by rw [hg]; exact (below_size (bu1 HB.out GE1145.out)) : w.heap.size ≤ gb1146)); have GE1146 := Aside0.mk ((by rw [hg]; exact (below_size (bu1 HB.out GE1145.out)) : w.heap.size ≤ gb1146)); replace HB := Aside0.mk (below_step (bu1 HB.out GE1145.out) hb); have NB1145_1146 := Aside0.mk ((by rw [hg]; exact Nat.ne_of_lt (blk_lt (g := gb1145) (o := .cells #[.bool a0_0, .slice A0_1 l0_1.length c0_1, .slice A0_2 l0_2.length c0_2] 67 (0, 0)) (ku BK1145.out)) : gb1145 ≠ gb1146)); have NB1146_1145 := Aside0.mk ((by rw [hg]; exact Nat.ne_of_gt (blk_lt (g := gb1145) (o := .cells #[.bool a0_0, .slice A0_1 l0_1.length c0_1, .slice A0_2 l0_2.length c0_2] 67 (0, 0)) (ku BK1145.out)) : gb1146 ≠ gb1145)); replace BK1145 := Aside0.mk (blk_below (g := gb1145) (o := .cells #[.bool a0_0, .slice A0_1 l0_1.length c0_1, .slice A0_2 l0_2.length c0_2] 67 (0, 0)) (ku BK1145.out) hb); clear hb hbox hg; have hnb14 := NB1145_1146.out; have hnc14 := NB1146_1145.out; have hcz15_0 : w13.cell? ⟨gb1145, 0, none⟩ = some (.bool a0_0) := (blk_cell BK1145.out 0).trans rfl; have hcz15_1 : w13.cell? ⟨gb1145, 1, none⟩ = some (.slice A0_1 l0_1.length c0_1) := (blk_cell BK1145.out 1).trans rfl; have hcz15_2 : w13.cell? ⟨gb1145, 2, none⟩ = some (.slice A0_2 l0_2.length c0_2) := (blk_cell BK1145.out 2).trans rfl; have hfz15_0 := blk_frozen BK1145.out 0; have hfz15_1 := blk_frozen BK1145.out 1; have hfz15_2 := blk_frozen BK1145.out 2; have hcz16_0 : w13.cell? ⟨gb1146, 0, none⟩ = some (.bool a1_0) := (blk_cell BK1146.out 0).trans rfl; have hcz16_1 : w13.cell? ⟨gb1146, 1, none⟩ = some (.slice A1_1 l1_1.length c1_1) := (blk_cell BK1146.out 1).trans rfl; have hcz16_2 : w13.cell? ⟨gb1146, 2, none⟩ = some (.slice A1_2 l1_2.length c1_2) := (blk_cell BK1146.out 2).trans rfl; have hfz16_0 := blk_frozen BK1146.out 0; have hfz16_1 := blk_frozen BK1146.out 1; have hfz16_2 := blk_frozen BK1146.out 2) | (go_at_call 51; (with_reducible refine (codewrightref01_Same.calls k _ _ l0_1 _ _ l1_1 false _ ?side1 ?side2 ?side3 ?side4 A4.out).mono ?_); (case side1 => repeat (first | exact (Kd.C_below HR0_1.out HB.out) | (with_reducible refine Kd.C_alloc ?_ _) | (with_reducible refine Kd.C_drewN ?_ _) | (with_reducible refine Kd.C_drew ?_))); (case side2 => exact HC0_1.out); (case side3 => repeat (first | exact (Kd.C_below HR1_1.out HB.out) | (with_reducible refine Kd.C_alloc ?_ _) | (with_reducible refine Kd.C_drewN ?_ _) | (with_reducible refine Kd.C_drew ?_))); (case side4 => exact HC1_1.out); rintro e w' ⟨rfl, ⟨nd, rfl⟩⟩))
   go_ret
   exact ⟨by first | rfl | (simp [errW_none, errW_some] <;> rfl) | (simp [*, errW_none, errW_some] <;> rfl), by repeat (first | (with_reducible first | exact HB.out | apply below_alloc | apply pw_below_drewN | apply below_drew1 | refine below_set ?_ GE1145.out | refine below_set ?_ GE1146.out) | exact HB.out)⟩
 ·
  rw [if_neg c3] at H
  have c3b0 : (a0_0 == a1_0) = false := by simpa using c3
  (try (have c3b1 : decide (a0_0 = a1_0) = false := by simpa using c3))
  (try (have c3b2 : (a0_0 == a1_0) = false := by simpa using c3))
  (try (have c3b3 : ¬ (a0_0 = a1_0) := by simpa using c3))
  clear c3
  obtain rfl := Option.some.inj H
  go_enter Try.func110, Try.ntmps110
  go_wp2_with (first | ((with_reducible refine gate_dst (N := 2) rfl ?_); refine box_event ?hg (N := 2) ?hd (cs := #[.bool a0_0, .slice A0_1 l0_1.length c0_1, .slice A0_2 l0_2.length c0_2]) (t := 67) ?hr ?_; (case hd => rfl); (case hg => rfl); (case hr => first | (go_simp; done) | (go_simp; rfl)); intro gb1145 hg w17 hbox hb; have BK1145 := Aside0.mk (hbox); have GW1145 := Aside0.mk ((by rw [hg]; exact (below_size (bu HB.out)) : w.heap.size ≤ gb1145)); have GE1145 := Aside0.mk ((by rw [hg]; exact (below_size (bu HB.out)) : w.heap.size ≤ gb1145)); replace HB := Aside0.mk (below_step (bu HB.out) hb); clear hb hbox hg) | ((with_reducible refine gate_dst (N := 3) rfl ?_); refine box_event ?hg (N := 3) ?hd (cs := #[.bool a1_0, .slice A1_1 l1_1.length c1_1, .slice A1_2 l1_2.length c1_2]) (t := 67) ?hr ?_; (case hd => rfl); (case hg => rfl); (case hr => first | (go_simp; done) | (go_simp; rfl)); intro gb1146 hg w18 hbox hb; have BK1146 := Aside0.mk (hbox); have GW1146 := Aside0.mk ((by rw [hg]; exact (below_size (bu1 HB.out GE1145.out)) : w.heap.size ≤ gb1146)); have GE1146 := Aside0.mk ((by rw [hg]; exact (below_size (bu1 HB.out GE1145.out)) : w.heap.size ≤ gb1146)); replace HB := Aside0.mk (below_step (bu1 HB.out GE1145.out) hb); have NB1145_1146 := Aside0.mk ((by rw [hg]; exact Nat.ne_of_lt (blk_lt (g := gb1145) (o := .cells #[.bool a0_0, .slice A0_1 l0_1.length c0_1, .slice A0_2 l0_2.length c0_2] 67 (0, 0)) (ku BK1145.out)) : gb1145 ≠ gb1146)); have NB1146_1145 := Aside0.mk ((by rw [hg]; exact Nat.ne_of_gt (blk_lt (g := gb1145) (o := .cells #[.bool a0_0, .slice A0_1 l0_1.length c0_1, .slice A0_2 l0_2.length c0_2] 67 (0, 0)) (ku BK1145.out)) : gb1146 ≠ gb1145)); replace BK1145 := Aside0.mk (blk_below (g := gb1145) (o := .cells #[.bool a0_0, .slice A0_1 l0_1.length c0_1, .slice A0_2 l0_2.length c0_2] 67 (0, 0)) (ku BK1145.out) hb); clear hb hbox hg; have hnb19 := NB1145_1146.out; have hnc19 := NB1146_1145.out; have hcz20_0 : w18.cell? ⟨gb1145, 0, none⟩ = some (.bool a0_0) := (blk_cell BK1145.out 0).trans rfl; have hcz20_1 : w18.cell? ⟨gb1145, 1, none⟩ = some (.slice A0_1 l0_1.length c0_1) := (blk_cell BK1145.out 1).trans rfl; have hcz20_2 : w18.cell? ⟨gb1145, 2, none⟩ = some (.slice A0_2 l0_2.length c0_2) := (blk_cell BK1145.out 2).trans rfl; have hfz20_0 := blk_frozen BK1145.out 0; have hfz20_1 := blk_frozen BK1145.out 1; have hfz20_2 := blk_frozen BK1145.out 2; have hcz21_0 : w18.cell? ⟨gb1146, 0, none⟩ = some (.bool a1_0) := (blk_cell BK1146.out 0).trans rfl; have hcz21_1 : w18.cell? ⟨gb1146, 1, none⟩ = some (.slice A1_1 l1_1.length c1_1) := (blk_cell BK1146.out 1).trans rfl; have hcz21_2 : w18.cell? ⟨gb1146, 2, none⟩ = some (.slice A1_2 l1_2.length c1_2) := (blk_cell BK1146.out 2).trans rfl; have hfz21_0 := blk_frozen BK1146.out 0; have hfz21_1 := blk_frozen BK1146.out 1; have hfz21_2 := blk_frozen BK1146.out 2))
  go_ret
  exact ⟨by first | rfl | (simp [errW_none, errW_some] <;> rfl) | (simp [*, errW_none, errW_some] <;> rfl), by repeat (first | (with_reducible first | exact HB.out | apply below_alloc | apply pw_below_drewN | apply below_drew1 | refine below_set ?_ GE1145.out | refine below_set ?_ GE1146.out) | exact HB.out)⟩
end Go.Proofs.Ytecfdemglbfnoaa.PT
end
section
namespace Go.Proofs.Ytecfdemglbfnoaa.PT
open Go.RowKit Go.Proofs.YtecfdemglbfnoaaW.PrintWords Go.Proofs.YtecfdemglbfnoaaW.PrintLast Go.Proofs.YtecfdemglbfnoaaW.PrintMore
attribute [local go_sem] max2_int min2_int max_two min_two max_three min_three max_four min_four   -- for this text's walks alone
set_option linter.unusedVariables false
set_option linter.unusedSimpArgs false
def codewrightlaw02_same.f (k : Nat) (a0_0 : Bool) (l0_1 : List Int) (l0_2 : List Int) (a1_0 : Bool) (l1_1 : List Int) (l1_2 : List Int) : Option (Bool) := (codewrightref02_Same.f k a0_0 l0_1 l0_2 a1_0 l1_1 l1_2).bind fun t1151 => (some t1151)
set_option maxHeartbeats 8000000 in
set_option maxRecDepth 100000 in
theorem codewrightlaw02_same.calls (k : Nat) (a0_0 : Bool) (A0_1 : Option Addr) (c0_1 : Nat) (l0_1 : List Int) (A0_2 : Option Addr) (c0_2 : Nat) (l0_2 : List Int) (a1_0 : Bool) (A1_1 : Option Addr) (c1_1 : Nat) (l1_1 : List Int) (A1_2 : Option Addr) (c1_2 : Nat) (l1_2 : List Int) (r : Bool) (w : World) (hr0_1 : Kd.C (Kd.int .u32) w A0_1 l0_1.length l0_1) (hc0_1 : l0_1.length ≤ c0_1) (hr0_2 : Kd.C (Kd.int .u32) w A0_2 l0_2.length l0_2) (hc0_2 : l0_2.length ≤ c0_2) (hr1_1 : Kd.C (Kd.int .u32) w A1_1 l1_1.length l1_1) (hc1_1 : l1_1.length ≤ c1_1) (hr1_2 : Kd.C (Kd.int .u32) w A1_2 l1_2.length l1_2) (hc1_2 : l1_2.length ≤ c1_2) (h : codewrightlaw02_same.f k a0_0 l0_1 l0_2 a1_0 l1_1 l1_2 = some r) :
 Calls Try.prog 83 #[.agg #[.bool a0_0, .slice A0_1 l0_1.length c0_1, .slice A0_2 l0_2.length c0_2], .agg #[.bool a1_0, .slice A1_1 l1_1.length c1_1, .slice A1_2 l1_2.length c1_2]] w fun e w' => e = .returned (.bool r) ∧ Below w.heap.size w w' := by
 have hu67 := Try.underlying67
 have HR0_1 := Aside0.mk hr0_1
 have HC0_1 := Aside0.mk hc0_1
 clear hr0_1 hc0_1
 have HR0_2 := Aside0.mk hr0_2
 have HC0_2 := Aside0.mk hc0_2
 clear hr0_2 hc0_2
 have HR1_1 := Aside0.mk hr1_1
 have HC1_1 := Aside0.mk hc1_1
 clear hr1_1 hc1_1
 have HR1_2 := Aside0.mk hr1_2
 have HC1_2 := Aside0.mk hc1_2
 clear hr1_2 hc1_2
 have HB := Aside0.mk (Below.refl w.heap.size w)
 have H : ((codewrightref02_Same.f k a0_0 l0_1 l0_2 a1_0 l1_1 l1_2).bind fun t1151 => (some t1151)) = some r := h
 clear h
 replace H := Option.bind_eq_some_iff.mp H
 obtain ⟨t1151, A30, H⟩ := H
 replace H : (some t1151) = some r := H
 have A3 := Aside0.mk A30
 clear A30
 obtain rfl := Option.some.inj H
 go_enter Try.func83, Try.ntmps83
 go_wp2_with (first | ((with_reducible refine gate_dst (N := 2) rfl ?_); refine box_event ?hg (N := 2) ?hd (cs := #[.bool a0_0, .slice A0_1 l0_1.length c0_1, .slice A0_2 l0_2.length c0_2]) (t := 67) ?hr ?_; (case hd => rfl); (case hg => rfl); (case hr => first | (go_simp; done) | (go_simp; rfl)); intro gb1149 hg w4 hbox hb; have BK1149 := Aside0.mk (hbox); have GW1149 := Aside0.mk ((by rw [hg]; exact (below_size (bu HB.out)) : w.heap.size ≤ gb1149)); have GE1149 := Aside0.mk ((by rw [hg]; exact (below_size (bu HB.out)) : w.heap.size ≤ gb1149)); replace HB := Aside0.mk (below_step (bu HB.out) hb); clear hb hbox hg) | ((with_reducible refine gate_dst (N := 3) rfl ?_); refine box_event ?hg (N := 3) ?hd (cs := #[.bool a1_0, .slice A1_1 l1_1.length c1_1, .slice A1_2 l1_2.length c1_2]) (t := 67) ?hr ?_; (case hd => rfl); (case hg => rfl); (case hr => first | (go_simp; done) | (go_simp; rfl)); intro gb1150 hg w5 hbox hb; have BK1150 := Aside0.mk (hbox); have GW1150 := Aside0.mk ((by rw [hg]; exact (below_size (bu1 HB.out GE1149.out)) : w.heap.size ≤ gb1150)); have GE1150 := Aside0.mk ((by rw [hg]; exact (below_size (bu1 HB.out GE1149.out)) : w.heap.size ≤ gb1150)); replace HB := Aside0.mk (below_step (bu1 HB.out GE1149.out) hb); have NB1149_1150 := Aside0.mk ((by rw [hg]; exact Nat.ne_of_lt (blk_lt (g := gb1149) (o := .cells #[.bool a0_0, .slice A0_1 l0_1.length c0_1, .slice A0_2 l0_2.length c0_2] 67 (0, 0)) (ku BK1149.out)) : gb1149 ≠ gb1150)); have NB1150_1149 := Aside0.mk ((by rw [hg]; exact Nat.ne_of_gt (blk_lt (g := gb1149) (o := .cells #[.bool a0_0, .slice A0_1 l0_1.length c0_1, .slice A0_2 l0_2.length c0_2] 67 (0, 0)) (ku BK1149.out)) : gb1150 ≠ gb1149)); replace BK1149 := Aside0.mk (blk_below (g := gb1149) (o := .cells #[.bool a0_0, .slice A0_1 l0_1.length c0_1, .slice A0_2 l0_2.length c0_2] 67 (0, 0)) (ku BK1149.out) hb); clear hb hbox hg; have hnb6 := NB1149_1150.out; have hnc6 := NB1150_1149.out; have hcz7_0 : w5.cell? ⟨gb1149, 0, none⟩ = some (.bool a0_0) := (blk_cell BK1149.out 0).trans rfl; have hcz7_1 : w5.cell? ⟨gb1149, 1, none⟩ = some (.slice A0_1 l0_1.length c0_1) := (blk_cell BK1149.out 1).trans rfl; have hcz7_2 : w5.cell? ⟨gb1149, 2, none⟩ = some (.slice A0_2 l0_2.length c0_2) := (blk_cell BK1149.out 2).trans rfl; have hfz7_0 := blk_frozen BK1149.out 0; have hfz7_1 := blk_frozen BK1149.out 1; have hfz7_2 := blk_frozen BK1149.out 2; have hcz8_0 : w5.cell? ⟨gb1150, 0, none⟩ = some (.bool a1_0) := (blk_cell BK1150.out 0).trans rfl; have hcz8_1 : w5.cell? ⟨gb1150, 1, none⟩ = some (.slice A1_1 l1_1.length c1_1) := (blk_cell BK1150.out 1).trans rfl; have hcz8_2 : w5.cell? ⟨gb1150, 2, none⟩ = some (.slice A1_2 l1_2.length c1_2) := (blk_cell BK1150.out 2).trans rfl; have hfz8_0 := blk_frozen BK1150.out 0; have hfz8_1 := blk_frozen BK1150.out 1; have hfz8_2 := blk_frozen BK1150.out 2) | ((with_reducible refine gate_callee (f := 110) rfl ?_); refine goesL_ (some 7) rfl rfl Try.func110 (by kernel_rfl) rfl #[.agg #[.bool a0_0, .slice A0_1 l0_1.length c0_1, .slice A0_2 l0_2.length c0_2], .agg #[.bool a1_0, .slice A1_1 l1_1.length c1_1, .slice A1_2 l1_2.length c1_2]] rfl lu ?_; (with_reducible refine (codewrightref02_Same.calls k a0_0 _ _ l0_1 _ _ l0_2 a1_0 _ _ l1_1 _ _ l1_2 t1151 _ ?side1 ?side2 ?side3 ?side4 ?side5 ?side6 ?side7 ?side8 A3.out).mono ?_); (case side1 => repeat (first | exact (Kd.C_below HR0_1.out HB.out) | (with_reducible refine Kd.C_alloc ?_ _) | (with_reducible refine Kd.C_drewN ?_ _) | (with_reducible refine Kd.C_drew ?_))); (case side2 => exact HC0_1.out); (case side3 => repeat (first | exact (Kd.C_below HR0_2.out HB.out) | (with_reducible refine Kd.C_alloc ?_ _) | (with_reducible refine Kd.C_drewN ?_ _) | (with_reducible refine Kd.C_drew ?_))); (case side4 => exact HC0_2.out); (case side5 => repeat (first | exact (Kd.C_below HR1_1.out HB.out) | (with_reducible refine Kd.C_alloc ?_ _) | (with_reducible refine Kd.C_drewN ?_ _) | (with_reducible refine Kd.C_drew ?_))); (case side6 => exact HC1_1.out); (case side7 => repeat (first | exact (Kd.C_below HR1_2.out HB.out) | (with_reducible refine Kd.C_alloc ?_ _) | (with_reducible refine Kd.C_drewN ?_ _) | (with_reducible refine Kd.C_drew ?_))); (case side8 => exact HC1_2.out); rintro e w9 ⟨rfl, hb⟩; refine ⟨_, rfl, ?_⟩; replace BK1149 := Aside0.mk (blk_below (g := gb1149) (o := .cells #[.bool a0_0, .slice A0_1 l0_1.length c0_1, .slice A0_2 l0_2.length c0_2] 67 (0, 0)) (ku BK1149.out) hb); replace BK1150 := Aside0.mk (blk_below (g := gb1150) (o := .cells #[.bool a1_0, .slice A1_1 l1_1.length c1_1, .slice A1_2 l1_2.length c1_2] 67 (0, 0)) (ku BK1150.out) hb); replace HB := Aside0.mk (below_step (bu2 HB.out GE1149.out GE1150.out) hb); (try clear hb); (try clear hb2); (try clear hk); (try clear hi)))
 go_ret
 exact ⟨by first | rfl | (simp [errW_none, errW_some] <;> rfl) | (simp [*, errW_none, errW_some] <;> rfl), by repeat (first | (with_reducible first | exact HB.out | apply below_alloc | apply pw_below_drewN | apply below_drew1 | refine below_set ?_ GE1149.out | refine below_set ?_ GE1150.out) | exact HB.out)⟩
end Go.Proofs.Ytecfdemglbfnoaa.PT
end
section
namespace Go.Proofs.Ytecfdemglbfnoaa.PT
open Go.RowKit Go.Proofs.YtecfdemglbfnoaaW.PrintWords Go.Proofs.YtecfdemglbfnoaaW.PrintLast Go.Proofs.YtecfdemglbfnoaaW.PrintMore
attribute [local go_sem] max2_int min2_int max_two min_two max_three min_three max_four min_four   -- for this text's walks alone
set_option linter.unusedVariables false
set_option linter.unusedSimpArgs false
def codewrightlaw02_long.l0 : Nat → Int → List (S67) → Int → Option (Bool)
 | 0, _, _, _ => none
 | k + 1, x0, x1, x5 => if x5 < (x1.length : Int) then (if 0 ≤ x5 then (if (wrap64 ((((rd_T67 x1 x5).f1).length : Int) + (((rd_T67 x1 x5).f2).length : Int))) > x0 then (some true) else (codewrightlaw02_long.l0 k x0 x1 (wrap64 (x5 + 1)))) else (none)) else (some false)
def codewrightlaw02_long.f (k : Nat) (a0 : Int) (l1 : List (S67)) : Option (Bool) := codewrightlaw02_long.l0 k a0 l1 0
set_option maxHeartbeats 8000000 in
set_option maxRecDepth 100000 in
theorem codewrightlaw02_long.calls (k : Nat) (a0 : Int) (A1 : Option Addr) (c1 : Nat) (l1 : List (S67)) (r : Bool) (w : World) (hr1 : Kd.C k67 w A1 l1.length l1) (hc1 : l1.length ≤ c1) (h : codewrightlaw02_long.f k a0 l1 = some r) :
 Calls Try.prog 86 #[.int .i64 a0, .slice A1 l1.length c1] w fun e w' => e = .returned (.bool r) ∧ Drawn0 w w' := by
 have HR1 := Aside0.mk hr1
 have HC1 := Aside0.mk hc1
 clear hr1 hc1
 have H : (codewrightlaw02_long.l0 k a0 l1 0) = some r := h
 clear h
 have H' := Aside0.mk H
 clear H
 go_enter Try.func86, Try.ntmps86
 go_wp2
 repeat (go_quiet (fail); try go_wp2)
 go_loopg [5] k (fun kq v5 w' => ∃ (x5_1 : Int), v5 = .int .i64 x5_1 ∧ Aside0 (codewrightlaw02_long.l0 kq a0 l1 x5_1 = some r) ∧ Aside0 (kq ≤ k) ∧ Drawn0 w w')
 case atStart => exact ⟨(0), (by first | rfl | (simp; done) | (simp [*]; done)), H', ⟨Nat.le_refl _⟩, by repeat (first | exact Drawn0.refl _ | apply Drawn0.step)⟩
 case round =>
  clear H'
  try clear c1
  try clear p2
  obtain ⟨x5_1, rfl, HA, HK1, ⟨m1, rfl⟩⟩ := hrel
  cases gk with
  | zero => exact absurd HA.out (by simp [codewrightlaw02_long.l0])
  | succ k1 =>
   have H := HA.out
   clear HA
   simp only [codewrightlaw02_long.l0] at H
   by_cases c3 : x5_1 < (l1.length : Int)
   ·
    rw [if_pos c3] at H
    have c3b0 : decide (x5_1 < (l1.length : Int)) = true := decide_eq_true c3
    clear c3
    by_cases c4 : 0 ≤ x5_1
    ·
     rw [if_pos c4] at H
     have c4b0 : decide (0 ≤ x5_1) = true := decide_eq_true c4
     clear c4
     by_cases c5 : (wrap64 ((((rd_T67 l1 x5_1).f1).length : Int) + (((rd_T67 l1 x5_1).f2).length : Int))) > a0
     ·
      rw [if_pos c5] at H
      have c5b0 : decide (a0 < (wrap64 ((((rd_T67 l1 x5_1).f1).length : Int) + (((rd_T67 l1 x5_1).f2).length : Int)))) = true := decide_eq_true c5
      clear c5
      obtain rfl := Option.some.inj H
      have p1252 : 0 ≤ (x5_1 : Int) := of_decide_eq_true (by first | (with_reducible assumption) | assumption)
      have q1252 : x5_1 < (l1.length : Int) := of_decide_eq_true (by first | (with_reducible assumption) | assumption)
      obtain ⟨ad1252, A1252_1, c1252_1, A1252_2, c1252_2, e1252, hx1252_0, hx1252_1, hx1252_2, hl1252_1, hi1252_1, hl1252_2, hi1252_2⟩ := at_T67 HR1.out x5_1 p1252 q1252
      cases e1252
      have HR1252_1 := Aside0.mk hi1252_1
      have HC1252_1 := Aside0.mk hl1252_1
      clear hi1252_1 hl1252_1
      have HR1252_2 := Aside0.mk hi1252_2
      have HC1252_2 := Aside0.mk hl1252_2
      clear hi1252_2 hl1252_2
      replace p1252 := eq_true p1252
      replace q1252 := eq_true q1252
      have p1253 : 0 ≤ (x5_1 : Int) := of_decide_eq_true (by first | (with_reducible assumption) | assumption)
      have q1253 : x5_1 < (l1.length : Int) := of_decide_eq_true (by first | (with_reducible assumption) | assumption)
      obtain ⟨ad1253, A1253_1, c1253_1, A1253_2, c1253_2, e1253, hx1253_0, hx1253_1, hx1253_2, hl1253_1, hi1253_1, hl1253_2, hi1253_2⟩ := at_T67 HR1.out x5_1 p1253 q1253
      obtain rfl : ad1252 = ad1253 := (by injection e1253)
      have HR1253_1 := Aside0.mk hi1253_1
      have HC1253_1 := Aside0.mk hl1253_1
      clear hi1253_1 hl1253_1
      have HR1253_2 := Aside0.mk hi1253_2
      have HC1253_2 := Aside0.mk hl1253_2
      clear hi1253_2 hl1253_2
      replace p1253 := eq_true p1253
      replace q1253 := eq_true q1253
      have ea_ := Option.some.inj (hx1252_1.symm.trans hx1253_1)
      injection ea_ with ea_ en_ ec_
      subst ea_
      subst ec_
      clear en_
      have ea_ := Option.some.inj (hx1252_2.symm.trans hx1253_2)
      injection ea_ with ea_ en_ ec_
      subst ea_
      subst ec_
      clear en_
      go_wp2
      repeat (go_quiet (fail); try go_wp2)
      go_ret
      exact ⟨by first | rfl | (simp; done) | (simp [*]; done), by repeat (first | exact Drawn0.refl _ | apply Drawn0.step)⟩
     ·
      rw [if_neg c5] at H
      have c5b0 : decide (a0 < (wrap64 ((((rd_T67 l1 x5_1).f1).length : Int) + (((rd_T67 l1 x5_1).f2).length : Int)))) = false := decide_eq_false c5
      clear c5
      have H' := Aside0.mk H
      clear H
      have p1252 : 0 ≤ (x5_1 : Int) := of_decide_eq_true (by first | (with_reducible assumption) | assumption)
      have q1252 : x5_1 < (l1.length : Int) := of_decide_eq_true (by first | (with_reducible assumption) | assumption)
      obtain ⟨ad1252, A1252_1, c1252_1, A1252_2, c1252_2, e1252, hx1252_0, hx1252_1, hx1252_2, hl1252_1, hi1252_1, hl1252_2, hi1252_2⟩ := at_T67 HR1.out x5_1 p1252 q1252
      cases e1252
      have HR1252_1 := Aside0.mk hi1252_1
      have HC1252_1 := Aside0.mk hl1252_1
      clear hi1252_1 hl1252_1
      have HR1252_2 := Aside0.mk hi1252_2
      have HC1252_2 := Aside0.mk hl1252_2
      clear hi1252_2 hl1252_2
      replace p1252 := eq_true p1252
      replace q1252 := eq_true q1252
      have p1253 : 0 ≤ (x5_1 : Int) := of_decide_eq_true (by first | (with_reducible assumption) | assumption)
      have q1253 : x5_1 < (l1.length : Int) := of_decide_eq_true (by first | (with_reducible assumption) | assumption)
      obtain ⟨ad1253, A1253_1, c1253_1, A1253_2, c1253_2, e1253, hx1253_0, hx1253_1, hx1253_2, hl1253_1, hi1253_1, hl1253_2, hi1253_2⟩ := at_T67 HR1.out x5_1 p1253 q1253
      obtain rfl : ad1252 = ad1253 := (by injection e1253)
      have HR1253_1 := Aside0.mk hi1253_1
      have HC1253_1 := Aside0.mk hl1253_1
      clear hi1253_1 hl1253_1
      have HR1253_2 := Aside0.mk hi1253_2
      have HC1253_2 := Aside0.mk hl1253_2
      clear hi1253_2 hl1253_2
      replace p1253 := eq_true p1253
      replace q1253 := eq_true q1253
      have ea_ := Option.some.inj (hx1252_1.symm.trans hx1253_1)
      injection ea_ with ea_ en_ ec_
      subst ea_
      subst ec_
      clear en_
      have ea_ := Option.some.inj (hx1252_2.symm.trans hx1253_2)
      injection ea_ with ea_ en_ ec_
      subst ea_
      subst ec_
      clear en_
      go_wp2
      repeat (go_quiet (fail); try go_wp2)
      go_roundg k1
      case measure => have := HK1.out; omega
      case rel => exact ⟨(wrap64 (x5_1 + 1)), (by first | rfl | (simp; done) | (simp [*]; done)), H', ⟨by have := HK1.out; omega⟩, by repeat (first | exact Drawn0.refl _ | apply Drawn0.step)⟩
    ·
     rw [if_neg c4] at H
     exact absurd H (by simp)
   ·
    rw [if_neg c3] at H
    have c3b0 : decide (x5_1 < (l1.length : Int)) = false := decide_eq_false c3
    clear c3
    obtain rfl := Option.some.inj H
    go_wp2
    repeat (go_quiet (fail); try go_wp2)
    go_ret
    exact ⟨by first | rfl | (simp; done) | (simp [*]; done), by repeat (first | exact Drawn0.refl _ | apply Drawn0.step)⟩
end Go.Proofs.Ytecfdemglbfnoaa.PT
end
section
namespace Go.Proofs.Ytecfdemglbfnoaa.PT
open Go.RowKit Go.Proofs.YtecfdemglbfnoaaW.PrintWords Go.Proofs.YtecfdemglbfnoaaW.PrintLast Go.Proofs.YtecfdemglbfnoaaW.PrintMore
attribute [local go_sem] max2_int min2_int max_two min_two max_three min_three max_four min_four   -- for this text's walks alone
set_option linter.unusedVariables false
set_option linter.unusedSimpArgs false
def nat_short.l0 : Nat → List Int → Int → Option (List Int)
 | 0, _, _ => none
 | k + 1, x0, x3 => if x3 > 0 then (if 0 ≤ (wrap64 (x3 - 1)) then (if (wrap64 (x3 - 1)) < (x0.length : Int) then (if (rd x0 (wrap64 (x3 - 1))) = 0 then (nat_short.l0 k x0 (wrap64 (x3 - 1))) else (if 0 ≤ x3 then (if x3 ≤ (x0.length : Int) then (some (x0.take (x3 : Int).toNat)) else (none)) else (none))) else (none)) else (none)) else (if 0 ≤ x3 then (if x3 ≤ (x0.length : Int) then (some (x0.take (x3 : Int).toNat)) else (none)) else (none))
def nat_short.f (k : Nat) (l0 : List Int) : Option (List Int) := nat_short.l0 k l0 (l0.length : Int)
set_option maxHeartbeats 8000000 in
set_option maxRecDepth 100000 in
theorem nat_short.calls (k : Nat) (P0_ : Nat → Prop) (A0 : Option Addr) (c0 : Nat) (l0 : List Int) (r : List Int) (w : World) (hs0 : Kd.V (Kd.int .u32) 48 w w.heap.size (fun k_ => P0_ k_) (.slice A0 l0.length c0) l0) (h : nat_short.f k l0 = some r) :
 Calls Try.prog 179 #[.slice A0 l0.length c0] w fun e w' => ∃ v0_ : Value, e = .returned (v0_) ∧ Kd.V (Kd.int .u32) 48 w' w.heap.size (fun k_ => (P0_ k_ ∨ w.heap.size ≤ k_)) v0_ r ∧ Below w.heap.size w w' := by
 have HO0 := Aside0.mk (show Kd.V (Kd.int .u32) 48 w w.heap.size (fun k_ => (P0_ k_ ∨ w.heap.size ≤ k_)) (.slice A0 l0.length c0) l0 from Kd.V_mono hs0 (fun k_ hk => .inl hk))
 have HB := Aside0.mk (Below.refl w.heap.size w)
 have H : (nat_short.l0 k l0 (l0.length : Int)) = some r := h
 clear h
 have H' := Aside0.mk H
 clear H
 go_enter Try.func179, Try.ntmps179
 go_wp2
 go_loopg [3] k (fun kq v3 w' => ∃ (x3_1 : Int), v3 = .int .i64 x3_1 ∧ Aside0 (nat_short.l0 kq l0 x3_1 = some r) ∧ Aside0 (kq ≤ k) ∧ Aside0 (Kd.V (Kd.int .u32) 48 w' w.heap.size (fun k_ => (P0_ k_ ∨ w.heap.size ≤ k_)) (.slice A0 l0.length c0) l0) ∧ Aside0 (Below w.heap.size w w'))
 case atStart => exact ⟨((l0.length : Int)), (by first | rfl | (simp; done) | (simp [*]; done)), H', ⟨Nat.le_refl _⟩, ⟨by (with_reducible repeat (first | apply Kd.V_alloc | apply Kd.V_drewN | apply Kd.V_drew)); exact HO0.out⟩, ⟨by repeat (first | (with_reducible first | exact HB.out | apply below_alloc | apply pw_below_drewN | apply below_drew1) | exact HB.out)⟩⟩
 case round =>
  clear H'
  try clear c1
  obtain ⟨x3_1, rfl, HA, HK1, HO_0, HB⟩ := hrel
  cases gk with
  | zero => exact absurd HA.out (by simp [nat_short.l0])
  | succ k1 =>
   have H := HA.out
   clear HA
   simp only [nat_short.l0] at H
   by_cases c2 : x3_1 > 0
   ·
    rw [if_pos c2] at H
    have c2b0 : decide (0 < x3_1) = true := decide_eq_true c2
    clear c2
    obtain ⟨ji3, hji3⟩ : ∃ j_ : Int, (wrap64 (x3_1 - 1)) = j_ := ⟨_, rfl⟩
    replace H : (if 0 ≤ (ji3) then (if (ji3) < (l0.length : Int) then (if (rd l0 (ji3)) = 0 then (nat_short.l0 k1 l0 ji3) else (if 0 ≤ x3_1 then (if x3_1 ≤ (l0.length : Int) then (some (l0.take (x3_1 : Int).toNat)) else (none)) else (none))) else (none)) else (none)) = some r := by first | (rw [hji3] at H; exact H) | (simp only [hji3] at H ⊢; exact H)
    have hji3w : (IntKind.i64.wrap (x3_1 - 1)) = ji3 := (i64_w _).trans hji3
    by_cases c4 : 0 ≤ (ji3)
    ·
     rw [if_pos c4] at H
     have c4b0 : decide (0 ≤ (ji3)) = true := decide_eq_true c4
     clear c4
     by_cases c5 : (ji3) < (l0.length : Int)
     ·
      rw [if_pos c5] at H
      have c5b0 : decide ((ji3) < (l0.length : Int)) = true := decide_eq_true c5
      clear c5
      by_cases c6 : (rd l0 (ji3)) = 0
      ·
       rw [if_pos c6] at H
       have c6b0 : ((rd l0 (ji3)) == 0) = true := beq_iff_eq.mpr c6
       have c6b1 : ((rd l0 (ji3)) != 0) = false := bne_eq_false_iff_eq.mpr c6
       clear c6
       have H' := Aside0.mk H
       clear H
       have p252 : 0 ≤ ((ji3) : Int) := of_decide_eq_true (by first | (with_reducible assumption) | assumption)
       have q252 : (ji3) < (l0.length : Int) := of_decide_eq_true (by first | (with_reducible assumption) | assumption)
       obtain ⟨ad252, e252, hx252_0⟩ := Kd.at_int (Kd.V_reads' HO_0.out).2.2 (ji3) p252 q252
       cases e252
       replace p252 := eq_true p252
       replace q252 := eq_true q252
       go_wp2
       go_roundg k1
       case measure => have := HK1.out; omega
       case rel => exact ⟨(ji3), (by first | rfl | (simp; done) | (simp only [← hji3] <;> (first | rfl | simp)) | (simp [*]; done)), H', ⟨by have := HK1.out; omega⟩, ⟨by (with_reducible repeat (first | apply Kd.V_alloc | apply Kd.V_drewN | apply Kd.V_drew)); exact HO_0.out⟩, ⟨by repeat (first | (with_reducible first | exact HB.out | apply below_alloc | apply pw_below_drewN | apply below_drew1) | exact HB.out)⟩⟩
      ·
       rw [if_neg c6] at H
       have c6b0 : ((rd l0 (ji3)) == 0) = false := beq_eq_false_iff_ne.mpr c6
       have c6b1 : ((rd l0 (ji3)) != 0) = true := bne_iff_ne.mpr c6
       by_cases c7 : 0 ≤ x3_1
       ·
        rw [if_pos c7] at H
        have c7b0 := eq_true c7
        have c7b1 : decide (0 ≤ x3_1) = true := decide_eq_true c7
        clear c7
        by_cases c8 : x3_1 ≤ (l0.length : Int)
        ·
         rw [if_pos c8] at H
         have c8b0 := eq_true c8
         have c8b1 : decide (x3_1 ≤ (l0.length : Int)) = true := decide_eq_true c8
         clear c8
         obtain ⟨y253, hy253⟩ : ∃ y_ : List Int, y_ = (l0.take (x3_1 : Int).toNat) := ⟨_, rfl⟩
         replace H : (some y253) = some r := by first | (rw [hy253]; with_reducible exact H) | (have H2_ := (Option.bind_some _ _).symm.trans H; rw [hy253]; with_reducible exact H2_) | (have H2_ := (Option.bind_some _ _).symm.trans H; with_reducible exact H2_) | with_reducible exact H | (rw [hy253]; exact H) | exact H
         have Ny253 := Aside0.mk hy253
         clear hy253
         obtain rfl := Option.some.inj H
         have p252 : 0 ≤ ((ji3) : Int) := of_decide_eq_true (by first | (with_reducible assumption) | assumption)
         have q252 : (ji3) < (l0.length : Int) := of_decide_eq_true (by first | (with_reducible assumption) | assumption)
         obtain ⟨ad252, e252, hx252_0⟩ := Kd.at_int (Kd.V_reads' HO_0.out).2.2 (ji3) p252 q252
         cases e252
         replace p252 := eq_true p252
         replace q252 := eq_true q252
         have q9 : (x3_1 : Int) ≤ ((l0.length : Int) : Int) := of_decide_eq_true (by first | (with_reducible assumption) | assumption)
         obtain ⟨i09, hi09, _, hsz9, _⟩ := info_parts info48
         have hroom9 : l0.length ≤ c0 := (Kd.V_reads' HO_0.out).2.1
         have hC9 : Kd.F (Kd.int .u32) _ _ (some ad252) l0.length l0 := (Kd.V_at (base := w.heap.size) HO_0.out).2.2
         have hcut9 := cut_cap (P := Try.prog) 42 48 .i64 Try.underlying42 hi09 (some ad252) l0.length c0 x3_1 (of_decide_eq_true (by first | (with_reducible assumption) | assumption)) q9 hroom9
         have hr9 := Kd.F_take (m := (x3_1 : Int).toNat) hC9 (by omega)
         have hy9 : y253.length = (x3_1 : Int).toNat := (by rw [Ny253.out, List.length_take]; omega)
         rw [← Ny253.out] at hr9
         rw [← hy9] at hcut9
         have HO257 := Aside0.mk (show Kd.V (Kd.int .u32) 48 _ w.heap.size _ (.slice (some ad252) y253.length y253.length) y253 from Kd.V_mk (by omega) hr9)
         have HC257 := Aside0.mk (show y253.length ≤ y253.length from by omega)
         clear hr9 hC9 hroom9 hi09 hsz9
         have KY9 := Aside0.mk hy9
         clear hy9
         replace q9 := eq_true q9
         go_wp2
         go_ret
         exact ⟨_, by first | rfl | (simp [errW_none, errW_some] <;> rfl) | (simp only [← hji3]; first | rfl | (simp [errW_none, errW_some] <;> rfl)) | (simp [*, errW_none, errW_some] <;> rfl), by (with_reducible repeat (first | apply Kd.V_alloc | apply Kd.V_drewN | apply Kd.V_drew)); exact HO257.out, by repeat (first | (with_reducible first | exact HB.out | apply below_alloc | apply pw_below_drewN | apply below_drew1) | exact HB.out)⟩
        ·
         rw [if_neg c8] at H
         exact absurd H (by simp)
       ·
        rw [if_neg c7] at H
        exact absurd H (by simp)
     ·
      rw [if_neg c5] at H
      exact absurd H (by simp)
    ·
     rw [if_neg c4] at H
     exact absurd H (by simp)
   ·
    rw [if_neg c2] at H
    have c2b0 : decide (0 < x3_1) = false := decide_eq_false c2
    clear c2
    by_cases c10 : 0 ≤ x3_1
    ·
     rw [if_pos c10] at H
     have c10b0 := eq_true c10
     have c10b1 : decide (0 ≤ x3_1) = true := decide_eq_true c10
     clear c10
     by_cases c11 : x3_1 ≤ (l0.length : Int)
     ·
      rw [if_pos c11] at H
      have c11b0 := eq_true c11
      have c11b1 : decide (x3_1 ≤ (l0.length : Int)) = true := decide_eq_true c11
      clear c11
      obtain ⟨y258, hy258⟩ : ∃ y_ : List Int, y_ = (l0.take (x3_1 : Int).toNat) := ⟨_, rfl⟩
      replace H : (some y258) = some r := by first | (rw [hy258]; with_reducible exact H) | (have H2_ := (Option.bind_some _ _).symm.trans H; rw [hy258]; with_reducible exact H2_) | (have H2_ := (Option.bind_some _ _).symm.trans H; with_reducible exact H2_) | with_reducible exact H | (rw [hy258]; exact H) | exact H
      have Ny258 := Aside0.mk hy258
      clear hy258
      obtain rfl := Option.some.inj H
      have q12 : (x3_1 : Int) ≤ ((l0.length : Int) : Int) := of_decide_eq_true (by first | (with_reducible assumption) | assumption)
      obtain ⟨i012, hi012, _, hsz12, _⟩ := info_parts info48
      have hroom12 : l0.length ≤ c0 := (Kd.V_reads' HO_0.out).2.1
      have hC12 : Kd.F (Kd.int .u32) _ _ A0 l0.length l0 := (Kd.V_at (base := w.heap.size) HO_0.out).2.2
      have hcut12 := cut_cap (P := Try.prog) 42 48 .i64 Try.underlying42 hi012 A0 l0.length c0 x3_1 (of_decide_eq_true (by first | (with_reducible assumption) | assumption)) q12 hroom12
      have hr12 := Kd.F_take (m := (x3_1 : Int).toNat) hC12 (by omega)
      have hy12 : y258.length = (x3_1 : Int).toNat := (by rw [Ny258.out, List.length_take]; omega)
      rw [← Ny258.out] at hr12
      rw [← hy12] at hcut12
      have HO262 := Aside0.mk (show Kd.V (Kd.int .u32) 48 _ w.heap.size _ (.slice A0 y258.length y258.length) y258 from Kd.V_mk (by omega) hr12)
      have HC262 := Aside0.mk (show y258.length ≤ y258.length from by omega)
      clear hr12 hC12 hroom12 hi012 hsz12
      have KY12 := Aside0.mk hy12
      clear hy12
      replace q12 := eq_true q12
      go_wp2
      go_ret
      exact ⟨_, by first | rfl | (simp [errW_none, errW_some] <;> rfl) | (simp [*, errW_none, errW_some] <;> rfl), by (with_reducible repeat (first | apply Kd.V_alloc | apply Kd.V_drewN | apply Kd.V_drew)); exact HO262.out, by repeat (first | (with_reducible first | exact HB.out | apply below_alloc | apply pw_below_drewN | apply below_drew1) | exact HB.out)⟩
     ·
      rw [if_neg c11] at H
      exact absurd H (by simp)
    ·
     rw [if_neg c10] at H
     exact absurd H (by simp)
end Go.Proofs.Ytecfdemglbfnoaa.PT
end
section
namespace Go.Proofs.Ytecfdemglbfnoaa.PT
open Go.RowKit Go.Proofs.YtecfdemglbfnoaaW.PrintWords Go.Proofs.YtecfdemglbfnoaaW.PrintLast Go.Proofs.YtecfdemglbfnoaaW.PrintMore
attribute [local go_sem] max2_int min2_int max_two min_two max_three min_three max_four min_four   -- for this text's walks alone
set_option linter.unusedVariables false
set_option linter.unusedSimpArgs false
def bits_Len32.f (a0 : Int) : Option (Int) := if a0 ≥ 65536 then (if (a0 / 65536) ≥ 256 then (if 0 ≤ (((a0 / 65536) / 256) % 256) then (if (((a0 / 65536) / 256) % 256) < 256 then (some (wrap64 ((16 + 8) + (wrap64 (bt (⟨#[0, 1, 2, 2, 3, 3, 3, 3, 4, 4, 4, 4, 4, 4, 4, 4, 5, 5, 5, 5, 5, 5, 5, 5, 5, 5, 5, 5, 5, 5, 5, 5, 6, 6, 6, 6, 6, 6, 6, 6, 6, 6, 6, 6, 6, 6, 6, 6, 6, 6, 6, 6, 6, 6, 6, 6, 6, 6, 6, 6, 6, 6, 6, 6, 7, 7, 7, 7, 7, 7, 7, 7, 7, 7, 7, 7, 7, 7, 7, 7, 7, 7, 7, 7, 7, 7, 7, 7, 7, 7, 7, 7, 7, 7, 7, 7, 7, 7, 7, 7, 7, 7, 7, 7, 7, 7, 7, 7, 7, 7, 7, 7, 7, 7, 7, 7, 7, 7, 7, 7, 7, 7, 7, 7, 7, 7, 7, 7, 8, 8, 8, 8, 8, 8, 8, 8, 8, 8, 8, 8, 8, 8, 8, 8, 8, 8, 8, 8, 8, 8, 8, 8, 8, 8, 8, 8, 8, 8, 8, 8, 8, 8, 8, 8, 8, 8, 8, 8, 8, 8, 8, 8, 8, 8, 8, 8, 8, 8, 8, 8, 8, 8, 8, 8, 8, 8, 8, 8, 8, 8, 8, 8, 8, 8, 8, 8, 8, 8, 8, 8, 8, 8, 8, 8, 8, 8, 8, 8, 8, 8, 8, 8, 8, 8, 8, 8, 8, 8, 8, 8, 8, 8, 8, 8, 8, 8, 8, 8, 8, 8, 8, 8, 8, 8, 8, 8, 8, 8, 8, 8, 8, 8, 8, 8, 8, 8, 8, 8, 8, 8, 8, 8, 8, 8, 8, 8]⟩ : ByteArray) (((a0 / 65536) / 256) % 256)))))) else (none)) else (none)) else (if 0 ≤ ((a0 / 65536) % 256) then (if ((a0 / 65536) % 256) < 256 then (some (wrap64 (16 + (wrap64 (bt (⟨#[0, 1, 2, 2, 3, 3, 3, 3, 4, 4, 4, 4, 4, 4, 4, 4, 5, 5, 5, 5, 5, 5, 5, 5, 5, 5, 5, 5, 5, 5, 5, 5, 6, 6, 6, 6, 6, 6, 6, 6, 6, 6, 6, 6, 6, 6, 6, 6, 6, 6, 6, 6, 6, 6, 6, 6, 6, 6, 6, 6, 6, 6, 6, 6, 7, 7, 7, 7, 7, 7, 7, 7, 7, 7, 7, 7, 7, 7, 7, 7, 7, 7, 7, 7, 7, 7, 7, 7, 7, 7, 7, 7, 7, 7, 7, 7, 7, 7, 7, 7, 7, 7, 7, 7, 7, 7, 7, 7, 7, 7, 7, 7, 7, 7, 7, 7, 7, 7, 7, 7, 7, 7, 7, 7, 7, 7, 7, 7, 8, 8, 8, 8, 8, 8, 8, 8, 8, 8, 8, 8, 8, 8, 8, 8, 8, 8, 8, 8, 8, 8, 8, 8, 8, 8, 8, 8, 8, 8, 8, 8, 8, 8, 8, 8, 8, 8, 8, 8, 8, 8, 8, 8, 8, 8, 8, 8, 8, 8, 8, 8, 8, 8, 8, 8, 8, 8, 8, 8, 8, 8, 8, 8, 8, 8, 8, 8, 8, 8, 8, 8, 8, 8, 8, 8, 8, 8, 8, 8, 8, 8, 8, 8, 8, 8, 8, 8, 8, 8, 8, 8, 8, 8, 8, 8, 8, 8, 8, 8, 8, 8, 8, 8, 8, 8, 8, 8, 8, 8, 8, 8, 8, 8, 8, 8, 8, 8, 8, 8, 8, 8, 8, 8, 8, 8, 8, 8]⟩ : ByteArray) ((a0 / 65536) % 256)))))) else (none)) else (none))) else (if a0 ≥ 256 then (if 0 ≤ ((a0 / 256) % 256) then (if ((a0 / 256) % 256) < 256 then (some (wrap64 ((0 + 8) + (wrap64 (bt (⟨#[0, 1, 2, 2, 3, 3, 3, 3, 4, 4, 4, 4, 4, 4, 4, 4, 5, 5, 5, 5, 5, 5, 5, 5, 5, 5, 5, 5, 5, 5, 5, 5, 6, 6, 6, 6, 6, 6, 6, 6, 6, 6, 6, 6, 6, 6, 6, 6, 6, 6, 6, 6, 6, 6, 6, 6, 6, 6, 6, 6, 6, 6, 6, 6, 7, 7, 7, 7, 7, 7, 7, 7, 7, 7, 7, 7, 7, 7, 7, 7, 7, 7, 7, 7, 7, 7, 7, 7, 7, 7, 7, 7, 7, 7, 7, 7, 7, 7, 7, 7, 7, 7, 7, 7, 7, 7, 7, 7, 7, 7, 7, 7, 7, 7, 7, 7, 7, 7, 7, 7, 7, 7, 7, 7, 7, 7, 7, 7, 8, 8, 8, 8, 8, 8, 8, 8, 8, 8, 8, 8, 8, 8, 8, 8, 8, 8, 8, 8, 8, 8, 8, 8, 8, 8, 8, 8, 8, 8, 8, 8, 8, 8, 8, 8, 8, 8, 8, 8, 8, 8, 8, 8, 8, 8, 8, 8, 8, 8, 8, 8, 8, 8, 8, 8, 8, 8, 8, 8, 8, 8, 8, 8, 8, 8, 8, 8, 8, 8, 8, 8, 8, 8, 8, 8, 8, 8, 8, 8, 8, 8, 8, 8, 8, 8, 8, 8, 8, 8, 8, 8, 8, 8, 8, 8, 8, 8, 8, 8, 8, 8, 8, 8, 8, 8, 8, 8, 8, 8, 8, 8, 8, 8, 8, 8, 8, 8, 8, 8, 8, 8, 8, 8, 8, 8, 8, 8]⟩ : ByteArray) ((a0 / 256) % 256)))))) else (none)) else (none)) else (if 0 ≤ ((a0) % 256) then (if ((a0) % 256) < 256 then (some (wrap64 (0 + (wrap64 (bt (⟨#[0, 1, 2, 2, 3, 3, 3, 3, 4, 4, 4, 4, 4, 4, 4, 4, 5, 5, 5, 5, 5, 5, 5, 5, 5, 5, 5, 5, 5, 5, 5, 5, 6, 6, 6, 6, 6, 6, 6, 6, 6, 6, 6, 6, 6, 6, 6, 6, 6, 6, 6, 6, 6, 6, 6, 6, 6, 6, 6, 6, 6, 6, 6, 6, 7, 7, 7, 7, 7, 7, 7, 7, 7, 7, 7, 7, 7, 7, 7, 7, 7, 7, 7, 7, 7, 7, 7, 7, 7, 7, 7, 7, 7, 7, 7, 7, 7, 7, 7, 7, 7, 7, 7, 7, 7, 7, 7, 7, 7, 7, 7, 7, 7, 7, 7, 7, 7, 7, 7, 7, 7, 7, 7, 7, 7, 7, 7, 7, 8, 8, 8, 8, 8, 8, 8, 8, 8, 8, 8, 8, 8, 8, 8, 8, 8, 8, 8, 8, 8, 8, 8, 8, 8, 8, 8, 8, 8, 8, 8, 8, 8, 8, 8, 8, 8, 8, 8, 8, 8, 8, 8, 8, 8, 8, 8, 8, 8, 8, 8, 8, 8, 8, 8, 8, 8, 8, 8, 8, 8, 8, 8, 8, 8, 8, 8, 8, 8, 8, 8, 8, 8, 8, 8, 8, 8, 8, 8, 8, 8, 8, 8, 8, 8, 8, 8, 8, 8, 8, 8, 8, 8, 8, 8, 8, 8, 8, 8, 8, 8, 8, 8, 8, 8, 8, 8, 8, 8, 8, 8, 8, 8, 8, 8, 8, 8, 8, 8, 8, 8, 8, 8, 8, 8, 8, 8, 8]⟩ : ByteArray) ((a0) % 256)))))) else (none)) else (none)))
set_option maxHeartbeats 8000000 in
set_option maxRecDepth 100000 in
theorem bits_Len32.calls (a0 : Int) (r : Int) (w : World) (h : bits_Len32.f a0 = some r) :
 Calls Try.prog 181 #[.int .u32 a0] w fun e w' => e = .returned (.int .i64 r) ∧ Drawn0 w w' := by
 have H : (if a0 ≥ 65536 then (if (a0 / 65536) ≥ 256 then (if 0 ≤ (((a0 / 65536) / 256) % 256) then (if (((a0 / 65536) / 256) % 256) < 256 then (some (wrap64 ((16 + 8) + (wrap64 (bt (⟨#[0, 1, 2, 2, 3, 3, 3, 3, 4, 4, 4, 4, 4, 4, 4, 4, 5, 5, 5, 5, 5, 5, 5, 5, 5, 5, 5, 5, 5, 5, 5, 5, 6, 6, 6, 6, 6, 6, 6, 6, 6, 6, 6, 6, 6, 6, 6, 6, 6, 6, 6, 6, 6, 6, 6, 6, 6, 6, 6, 6, 6, 6, 6, 6, 7, 7, 7, 7, 7, 7, 7, 7, 7, 7, 7, 7, 7, 7, 7, 7, 7, 7, 7, 7, 7, 7, 7, 7, 7, 7, 7, 7, 7, 7, 7, 7, 7, 7, 7, 7, 7, 7, 7, 7, 7, 7, 7, 7, 7, 7, 7, 7, 7, 7, 7, 7, 7, 7, 7, 7, 7, 7, 7, 7, 7, 7, 7, 7, 8, 8, 8, 8, 8, 8, 8, 8, 8, 8, 8, 8, 8, 8, 8, 8, 8, 8, 8, 8, 8, 8, 8, 8, 8, 8, 8, 8, 8, 8, 8, 8, 8, 8, 8, 8, 8, 8, 8, 8, 8, 8, 8, 8, 8, 8, 8, 8, 8, 8, 8, 8, 8, 8, 8, 8, 8, 8, 8, 8, 8, 8, 8, 8, 8, 8, 8, 8, 8, 8, 8, 8, 8, 8, 8, 8, 8, 8, 8, 8, 8, 8, 8, 8, 8, 8, 8, 8, 8, 8, 8, 8, 8, 8, 8, 8, 8, 8, 8, 8, 8, 8, 8, 8, 8, 8, 8, 8, 8, 8, 8, 8, 8, 8, 8, 8, 8, 8, 8, 8, 8, 8, 8, 8, 8, 8, 8, 8]⟩ : ByteArray) (((a0 / 65536) / 256) % 256)))))) else (none)) else (none)) else (if 0 ≤ ((a0 / 65536) % 256) then (if ((a0 / 65536) % 256) < 256 then (some (wrap64 (16 + (wrap64 (bt (⟨#[0, 1, 2, 2, 3, 3, 3, 3, 4, 4, 4, 4, 4, 4, 4, 4, 5, 5, 5, 5, 5, 5, 5, 5, 5, 5, 5, 5, 5, 5, 5, 5, 6, 6, 6, 6, 6, 6, 6, 6, 6, 6, 6, 6, 6, 6, 6, 6, 6, 6, 6, 6, 6, 6, 6, 6, 6, 6, 6, 6, 6, 6, 6, 6, 7, 7, 7, 7, 7, 7, 7, 7, 7, 7, 7, 7, 7, 7, 7, 7, 7, 7, 7, 7, 7, 7, 7, 7, 7, 7, 7, 7, 7, 7, 7, 7, 7, 7, 7, 7, 7, 7, 7, 7, 7, 7, 7, 7, 7, 7, 7, 7, 7, 7, 7, 7, 7, 7, 7, 7, 7, 7, 7, 7, 7, 7, 7, 7, 8, 8, 8, 8, 8, 8, 8, 8, 8, 8, 8, 8, 8, 8, 8, 8, 8, 8, 8, 8, 8, 8, 8, 8, 8, 8, 8, 8, 8, 8, 8, 8, 8, 8, 8, 8, 8, 8, 8, 8, 8, 8, 8, 8, 8, 8, 8, 8, 8, 8, 8, 8, 8, 8, 8, 8, 8, 8, 8, 8, 8, 8, 8, 8, 8, 8, 8, 8, 8, 8, 8, 8, 8, 8, 8, 8, 8, 8, 8, 8, 8, 8, 8, 8, 8, 8, 8, 8, 8, 8, 8, 8, 8, 8, 8, 8, 8, 8, 8, 8, 8, 8, 8, 8, 8, 8, 8, 8, 8, 8, 8, 8, 8, 8, 8, 8, 8, 8, 8, 8, 8, 8, 8, 8, 8, 8, 8, 8]⟩ : ByteArray) ((a0 / 65536) % 256)))))) else (none)) else (none))) else (if a0 ≥ 256 then (if 0 ≤ ((a0 / 256) % 256) then (if ((a0 / 256) % 256) < 256 then (some (wrap64 ((0 + 8) + (wrap64 (bt (⟨#[0, 1, 2, 2, 3, 3, 3, 3, 4, 4, 4, 4, 4, 4, 4, 4, 5, 5, 5, 5, 5, 5, 5, 5, 5, 5, 5, 5, 5, 5, 5, 5, 6, 6, 6, 6, 6, 6, 6, 6, 6, 6, 6, 6, 6, 6, 6, 6, 6, 6, 6, 6, 6, 6, 6, 6, 6, 6, 6, 6, 6, 6, 6, 6, 7, 7, 7, 7, 7, 7, 7, 7, 7, 7, 7, 7, 7, 7, 7, 7, 7, 7, 7, 7, 7, 7, 7, 7, 7, 7, 7, 7, 7, 7, 7, 7, 7, 7, 7, 7, 7, 7, 7, 7, 7, 7, 7, 7, 7, 7, 7, 7, 7, 7, 7, 7, 7, 7, 7, 7, 7, 7, 7, 7, 7, 7, 7, 7, 8, 8, 8, 8, 8, 8, 8, 8, 8, 8, 8, 8, 8, 8, 8, 8, 8, 8, 8, 8, 8, 8, 8, 8, 8, 8, 8, 8, 8, 8, 8, 8, 8, 8, 8, 8, 8, 8, 8, 8, 8, 8, 8, 8, 8, 8, 8, 8, 8, 8, 8, 8, 8, 8, 8, 8, 8, 8, 8, 8, 8, 8, 8, 8, 8, 8, 8, 8, 8, 8, 8, 8, 8, 8, 8, 8, 8, 8, 8, 8, 8, 8, 8, 8, 8, 8, 8, 8, 8, 8, 8, 8, 8, 8, 8, 8, 8, 8, 8, 8, 8, 8, 8, 8, 8, 8, 8, 8, 8, 8, 8, 8, 8, 8, 8, 8, 8, 8, 8, 8, 8, 8, 8, 8, 8, 8, 8, 8]⟩ : ByteArray) ((a0 / 256) % 256)))))) else (none)) else (none)) else (if 0 ≤ ((a0) % 256) then (if ((a0) % 256) < 256 then (some (wrap64 (0 + (wrap64 (bt (⟨#[0, 1, 2, 2, 3, 3, 3, 3, 4, 4, 4, 4, 4, 4, 4, 4, 5, 5, 5, 5, 5, 5, 5, 5, 5, 5, 5, 5, 5, 5, 5, 5, 6, 6, 6, 6, 6, 6, 6, 6, 6, 6, 6, 6, 6, 6, 6, 6, 6, 6, 6, 6, 6, 6, 6, 6, 6, 6, 6, 6, 6, 6, 6, 6, 7, 7, 7, 7, 7, 7, 7, 7, 7, 7, 7, 7, 7, 7, 7, 7, 7, 7, 7, 7, 7, 7, 7, 7, 7, 7, 7, 7, 7, 7, 7, 7, 7, 7, 7, 7, 7, 7, 7, 7, 7, 7, 7, 7, 7, 7, 7, 7, 7, 7, 7, 7, 7, 7, 7, 7, 7, 7, 7, 7, 7, 7, 7, 7, 8, 8, 8, 8, 8, 8, 8, 8, 8, 8, 8, 8, 8, 8, 8, 8, 8, 8, 8, 8, 8, 8, 8, 8, 8, 8, 8, 8, 8, 8, 8, 8, 8, 8, 8, 8, 8, 8, 8, 8, 8, 8, 8, 8, 8, 8, 8, 8, 8, 8, 8, 8, 8, 8, 8, 8, 8, 8, 8, 8, 8, 8, 8, 8, 8, 8, 8, 8, 8, 8, 8, 8, 8, 8, 8, 8, 8, 8, 8, 8, 8, 8, 8, 8, 8, 8, 8, 8, 8, 8, 8, 8, 8, 8, 8, 8, 8, 8, 8, 8, 8, 8, 8, 8, 8, 8, 8, 8, 8, 8, 8, 8, 8, 8, 8, 8, 8, 8, 8, 8, 8, 8, 8, 8, 8, 8, 8, 8]⟩ : ByteArray) ((a0) % 256)))))) else (none)) else (none)))) = some r := h
 clear h
 by_cases c2 : a0 ≥ 65536
 ·
  rw [if_pos c2] at H
  have c2b0 : decide (65536 ≤ a0) = true := decide_eq_true c2
  clear c2
  by_cases c3 : (a0 / 65536) ≥ 256
  ·
   rw [if_pos c3] at H
   have c3b0 : decide (256 ≤ (a0 / 65536)) = true := decide_eq_true c3
   clear c3
   obtain ⟨ji4, hji4⟩ : ∃ j_ : Int, (((a0 / 65536) / 256) % 256) = j_ := ⟨_, rfl⟩
   replace H : (if 0 ≤ (ji4) then (if (ji4) < 256 then (some (wrap64 ((16 + 8) + (wrap64 (bt (⟨#[0, 1, 2, 2, 3, 3, 3, 3, 4, 4, 4, 4, 4, 4, 4, 4, 5, 5, 5, 5, 5, 5, 5, 5, 5, 5, 5, 5, 5, 5, 5, 5, 6, 6, 6, 6, 6, 6, 6, 6, 6, 6, 6, 6, 6, 6, 6, 6, 6, 6, 6, 6, 6, 6, 6, 6, 6, 6, 6, 6, 6, 6, 6, 6, 7, 7, 7, 7, 7, 7, 7, 7, 7, 7, 7, 7, 7, 7, 7, 7, 7, 7, 7, 7, 7, 7, 7, 7, 7, 7, 7, 7, 7, 7, 7, 7, 7, 7, 7, 7, 7, 7, 7, 7, 7, 7, 7, 7, 7, 7, 7, 7, 7, 7, 7, 7, 7, 7, 7, 7, 7, 7, 7, 7, 7, 7, 7, 7, 8, 8, 8, 8, 8, 8, 8, 8, 8, 8, 8, 8, 8, 8, 8, 8, 8, 8, 8, 8, 8, 8, 8, 8, 8, 8, 8, 8, 8, 8, 8, 8, 8, 8, 8, 8, 8, 8, 8, 8, 8, 8, 8, 8, 8, 8, 8, 8, 8, 8, 8, 8, 8, 8, 8, 8, 8, 8, 8, 8, 8, 8, 8, 8, 8, 8, 8, 8, 8, 8, 8, 8, 8, 8, 8, 8, 8, 8, 8, 8, 8, 8, 8, 8, 8, 8, 8, 8, 8, 8, 8, 8, 8, 8, 8, 8, 8, 8, 8, 8, 8, 8, 8, 8, 8, 8, 8, 8, 8, 8, 8, 8, 8, 8, 8, 8, 8, 8, 8, 8, 8, 8, 8, 8, 8, 8, 8, 8]⟩ : ByteArray) (ji4)))))) else (none)) else (none)) = some r := by first | (rw [hji4] at H; exact H) | (simp only [hji4] at H ⊢; exact H)
   by_cases c5 : 0 ≤ (ji4)
   ·
    rw [if_pos c5] at H
    have c5b0 : decide (0 ≤ (ji4)) = true := decide_eq_true c5
    clear c5
    by_cases c6 : (ji4) < 256
    ·
     rw [if_pos c6] at H
     have c6b0 : decide ((ji4) < 256) = true := decide_eq_true c6
     clear c6
     obtain rfl := Option.some.inj H
     have p7 : 0 ≤ ((ji4) : Int) := of_decide_eq_true (by first | (with_reducible assumption) | assumption)
     have q7 : (ji4) < (256 : Int) := of_decide_eq_true (by first | (with_reducible assumption) | assumption)
     have hx7 := bt_at (⟨#[0, 1, 2, 2, 3, 3, 3, 3, 4, 4, 4, 4, 4, 4, 4, 4, 5, 5, 5, 5, 5, 5, 5, 5, 5, 5, 5, 5, 5, 5, 5, 5, 6, 6, 6, 6, 6, 6, 6, 6, 6, 6, 6, 6, 6, 6, 6, 6, 6, 6, 6, 6, 6, 6, 6, 6, 6, 6, 6, 6, 6, 6, 6, 6, 7, 7, 7, 7, 7, 7, 7, 7, 7, 7, 7, 7, 7, 7, 7, 7, 7, 7, 7, 7, 7, 7, 7, 7, 7, 7, 7, 7, 7, 7, 7, 7, 7, 7, 7, 7, 7, 7, 7, 7, 7, 7, 7, 7, 7, 7, 7, 7, 7, 7, 7, 7, 7, 7, 7, 7, 7, 7, 7, 7, 7, 7, 7, 7, 8, 8, 8, 8, 8, 8, 8, 8, 8, 8, 8, 8, 8, 8, 8, 8, 8, 8, 8, 8, 8, 8, 8, 8, 8, 8, 8, 8, 8, 8, 8, 8, 8, 8, 8, 8, 8, 8, 8, 8, 8, 8, 8, 8, 8, 8, 8, 8, 8, 8, 8, 8, 8, 8, 8, 8, 8, 8, 8, 8, 8, 8, 8, 8, 8, 8, 8, 8, 8, 8, 8, 8, 8, 8, 8, 8, 8, 8, 8, 8, 8, 8, 8, 8, 8, 8, 8, 8, 8, 8, 8, 8, 8, 8, 8, 8, 8, 8, 8, 8, 8, 8, 8, 8, 8, 8, 8, 8, 8, 8, 8, 8, 8, 8, 8, 8, 8, 8, 8, 8, 8, 8, 8, 8, 8, 8, 8, 8]⟩ : ByteArray) (ji4)
     replace p7 := eq_true p7
     replace q7 := eq_true q7
     go_enter Try.func181, Try.ntmps181
     go_wp2
     go_ret
     exact ⟨by first | rfl | (simp; done) | (simp only [← hji4] <;> (first | rfl | simp)) | (simp [*]; done), by repeat (first | exact Drawn0.refl _ | apply Drawn0.step)⟩
    ·
     rw [if_neg c6] at H
     exact absurd H (by simp)
   ·
    rw [if_neg c5] at H
    exact absurd H (by simp)
  ·
   rw [if_neg c3] at H
   have c3b0 : decide (256 ≤ (a0 / 65536)) = false := decide_eq_false c3
   clear c3
   obtain ⟨ji8, hji8⟩ : ∃ j_ : Int, ((a0 / 65536) % 256) = j_ := ⟨_, rfl⟩
   replace H : (if 0 ≤ (ji8) then (if (ji8) < 256 then (some (wrap64 (16 + (wrap64 (bt (⟨#[0, 1, 2, 2, 3, 3, 3, 3, 4, 4, 4, 4, 4, 4, 4, 4, 5, 5, 5, 5, 5, 5, 5, 5, 5, 5, 5, 5, 5, 5, 5, 5, 6, 6, 6, 6, 6, 6, 6, 6, 6, 6, 6, 6, 6, 6, 6, 6, 6, 6, 6, 6, 6, 6, 6, 6, 6, 6, 6, 6, 6, 6, 6, 6, 7, 7, 7, 7, 7, 7, 7, 7, 7, 7, 7, 7, 7, 7, 7, 7, 7, 7, 7, 7, 7, 7, 7, 7, 7, 7, 7, 7, 7, 7, 7, 7, 7, 7, 7, 7, 7, 7, 7, 7, 7, 7, 7, 7, 7, 7, 7, 7, 7, 7, 7, 7, 7, 7, 7, 7, 7, 7, 7, 7, 7, 7, 7, 7, 8, 8, 8, 8, 8, 8, 8, 8, 8, 8, 8, 8, 8, 8, 8, 8, 8, 8, 8, 8, 8, 8, 8, 8, 8, 8, 8, 8, 8, 8, 8, 8, 8, 8, 8, 8, 8, 8, 8, 8, 8, 8, 8, 8, 8, 8, 8, 8, 8, 8, 8, 8, 8, 8, 8, 8, 8, 8, 8, 8, 8, 8, 8, 8, 8, 8, 8, 8, 8, 8, 8, 8, 8, 8, 8, 8, 8, 8, 8, 8, 8, 8, 8, 8, 8, 8, 8, 8, 8, 8, 8, 8, 8, 8, 8, 8, 8, 8, 8, 8, 8, 8, 8, 8, 8, 8, 8, 8, 8, 8, 8, 8, 8, 8, 8, 8, 8, 8, 8, 8, 8, 8, 8, 8, 8, 8, 8, 8]⟩ : ByteArray) (ji8)))))) else (none)) else (none)) = some r := by first | (rw [hji8] at H; exact H) | (simp only [hji8] at H ⊢; exact H)
   by_cases c9 : 0 ≤ (ji8)
   ·
    rw [if_pos c9] at H
    have c9b0 : decide (0 ≤ (ji8)) = true := decide_eq_true c9
    clear c9
    by_cases c10 : (ji8) < 256
    ·
     rw [if_pos c10] at H
     have c10b0 : decide ((ji8) < 256) = true := decide_eq_true c10
     clear c10
     obtain rfl := Option.some.inj H
     have p11 : 0 ≤ ((ji8) : Int) := of_decide_eq_true (by first | (with_reducible assumption) | assumption)
     have q11 : (ji8) < (256 : Int) := of_decide_eq_true (by first | (with_reducible assumption) | assumption)
     have hx11 := bt_at (⟨#[0, 1, 2, 2, 3, 3, 3, 3, 4, 4, 4, 4, 4, 4, 4, 4, 5, 5, 5, 5, 5, 5, 5, 5, 5, 5, 5, 5, 5, 5, 5, 5, 6, 6, 6, 6, 6, 6, 6, 6, 6, 6, 6, 6, 6, 6, 6, 6, 6, 6, 6, 6, 6, 6, 6, 6, 6, 6, 6, 6, 6, 6, 6, 6, 7, 7, 7, 7, 7, 7, 7, 7, 7, 7, 7, 7, 7, 7, 7, 7, 7, 7, 7, 7, 7, 7, 7, 7, 7, 7, 7, 7, 7, 7, 7, 7, 7, 7, 7, 7, 7, 7, 7, 7, 7, 7, 7, 7, 7, 7, 7, 7, 7, 7, 7, 7, 7, 7, 7, 7, 7, 7, 7, 7, 7, 7, 7, 7, 8, 8, 8, 8, 8, 8, 8, 8, 8, 8, 8, 8, 8, 8, 8, 8, 8, 8, 8, 8, 8, 8, 8, 8, 8, 8, 8, 8, 8, 8, 8, 8, 8, 8, 8, 8, 8, 8, 8, 8, 8, 8, 8, 8, 8, 8, 8, 8, 8, 8, 8, 8, 8, 8, 8, 8, 8, 8, 8, 8, 8, 8, 8, 8, 8, 8, 8, 8, 8, 8, 8, 8, 8, 8, 8, 8, 8, 8, 8, 8, 8, 8, 8, 8, 8, 8, 8, 8, 8, 8, 8, 8, 8, 8, 8, 8, 8, 8, 8, 8, 8, 8, 8, 8, 8, 8, 8, 8, 8, 8, 8, 8, 8, 8, 8, 8, 8, 8, 8, 8, 8, 8, 8, 8, 8, 8, 8, 8]⟩ : ByteArray) (ji8)
     replace p11 := eq_true p11
     replace q11 := eq_true q11
     go_enter Try.func181, Try.ntmps181
     go_wp2
     go_ret
     exact ⟨by first | rfl | (simp; done) | (simp only [← hji8] <;> (first | rfl | simp)) | (simp [*]; done), by repeat (first | exact Drawn0.refl _ | apply Drawn0.step)⟩
    ·
     rw [if_neg c10] at H
     exact absurd H (by simp)
   ·
    rw [if_neg c9] at H
    exact absurd H (by simp)
 ·
  rw [if_neg c2] at H
  have c2b0 : decide (65536 ≤ a0) = false := decide_eq_false c2
  clear c2
  by_cases c12 : a0 ≥ 256
  ·
   rw [if_pos c12] at H
   have c12b0 : decide (256 ≤ a0) = true := decide_eq_true c12
   clear c12
   obtain ⟨ji13, hji13⟩ : ∃ j_ : Int, ((a0 / 256) % 256) = j_ := ⟨_, rfl⟩
   replace H : (if 0 ≤ (ji13) then (if (ji13) < 256 then (some (wrap64 ((0 + 8) + (wrap64 (bt (⟨#[0, 1, 2, 2, 3, 3, 3, 3, 4, 4, 4, 4, 4, 4, 4, 4, 5, 5, 5, 5, 5, 5, 5, 5, 5, 5, 5, 5, 5, 5, 5, 5, 6, 6, 6, 6, 6, 6, 6, 6, 6, 6, 6, 6, 6, 6, 6, 6, 6, 6, 6, 6, 6, 6, 6, 6, 6, 6, 6, 6, 6, 6, 6, 6, 7, 7, 7, 7, 7, 7, 7, 7, 7, 7, 7, 7, 7, 7, 7, 7, 7, 7, 7, 7, 7, 7, 7, 7, 7, 7, 7, 7, 7, 7, 7, 7, 7, 7, 7, 7, 7, 7, 7, 7, 7, 7, 7, 7, 7, 7, 7, 7, 7, 7, 7, 7, 7, 7, 7, 7, 7, 7, 7, 7, 7, 7, 7, 7, 8, 8, 8, 8, 8, 8, 8, 8, 8, 8, 8, 8, 8, 8, 8, 8, 8, 8, 8, 8, 8, 8, 8, 8, 8, 8, 8, 8, 8, 8, 8, 8, 8, 8, 8, 8, 8, 8, 8, 8, 8, 8, 8, 8, 8, 8, 8, 8, 8, 8, 8, 8, 8, 8, 8, 8, 8, 8, 8, 8, 8, 8, 8, 8, 8, 8, 8, 8, 8, 8, 8, 8, 8, 8, 8, 8, 8, 8, 8, 8, 8, 8, 8, 8, 8, 8, 8, 8, 8, 8, 8, 8, 8, 8, 8, 8, 8, 8, 8, 8, 8, 8, 8, 8, 8, 8, 8, 8, 8, 8, 8, 8, 8, 8, 8, 8, 8, 8, 8, 8, 8, 8, 8, 8, 8, 8, 8, 8]⟩ : ByteArray) (ji13)))))) else (none)) else (none)) = some r := by first | (rw [hji13] at H; exact H) | (simp only [hji13] at H ⊢; exact H)
   by_cases c14 : 0 ≤ (ji13)
   ·
    rw [if_pos c14] at H
    have c14b0 : decide (0 ≤ (ji13)) = true := decide_eq_true c14
    clear c14
    by_cases c15 : (ji13) < 256
    ·
     rw [if_pos c15] at H
     have c15b0 : decide ((ji13) < 256) = true := decide_eq_true c15
     clear c15
     obtain rfl := Option.some.inj H
     have p16 : 0 ≤ ((ji13) : Int) := of_decide_eq_true (by first | (with_reducible assumption) | assumption)
     have q16 : (ji13) < (256 : Int) := of_decide_eq_true (by first | (with_reducible assumption) | assumption)
     have hx16 := bt_at (⟨#[0, 1, 2, 2, 3, 3, 3, 3, 4, 4, 4, 4, 4, 4, 4, 4, 5, 5, 5, 5, 5, 5, 5, 5, 5, 5, 5, 5, 5, 5, 5, 5, 6, 6, 6, 6, 6, 6, 6, 6, 6, 6, 6, 6, 6, 6, 6, 6, 6, 6, 6, 6, 6, 6, 6, 6, 6, 6, 6, 6, 6, 6, 6, 6, 7, 7, 7, 7, 7, 7, 7, 7, 7, 7, 7, 7, 7, 7, 7, 7, 7, 7, 7, 7, 7, 7, 7, 7, 7, 7, 7, 7, 7, 7, 7, 7, 7, 7, 7, 7, 7, 7, 7, 7, 7, 7, 7, 7, 7, 7, 7, 7, 7, 7, 7, 7, 7, 7, 7, 7, 7, 7, 7, 7, 7, 7, 7, 7, 8, 8, 8, 8, 8, 8, 8, 8, 8, 8, 8, 8, 8, 8, 8, 8, 8, 8, 8, 8, 8, 8, 8, 8, 8, 8, 8, 8, 8, 8, 8, 8, 8, 8, 8, 8, 8, 8, 8, 8, 8, 8, 8, 8, 8, 8, 8, 8, 8, 8, 8, 8, 8, 8, 8, 8, 8, 8, 8, 8, 8, 8, 8, 8, 8, 8, 8, 8, 8, 8, 8, 8, 8, 8, 8, 8, 8, 8, 8, 8, 8, 8, 8, 8, 8, 8, 8, 8, 8, 8, 8, 8, 8, 8, 8, 8, 8, 8, 8, 8, 8, 8, 8, 8, 8, 8, 8, 8, 8, 8, 8, 8, 8, 8, 8, 8, 8, 8, 8, 8, 8, 8, 8, 8, 8, 8, 8, 8]⟩ : ByteArray) (ji13)
     replace p16 := eq_true p16
     replace q16 := eq_true q16
     go_enter Try.func181, Try.ntmps181
     go_wp2
     go_ret
     exact ⟨by first | rfl | (simp; done) | (simp only [← hji13] <;> (first | rfl | simp)) | (simp [*]; done), by repeat (first | exact Drawn0.refl _ | apply Drawn0.step)⟩
    ·
     rw [if_neg c15] at H
     exact absurd H (by simp)
   ·
    rw [if_neg c14] at H
    exact absurd H (by simp)
  ·
   rw [if_neg c12] at H
   have c12b0 : decide (256 ≤ a0) = false := decide_eq_false c12
   clear c12
   obtain ⟨ji17, hji17⟩ : ∃ j_ : Int, ((a0) % 256) = j_ := ⟨_, rfl⟩
   replace H : (if 0 ≤ (ji17) then (if (ji17) < 256 then (some (wrap64 (0 + (wrap64 (bt (⟨#[0, 1, 2, 2, 3, 3, 3, 3, 4, 4, 4, 4, 4, 4, 4, 4, 5, 5, 5, 5, 5, 5, 5, 5, 5, 5, 5, 5, 5, 5, 5, 5, 6, 6, 6, 6, 6, 6, 6, 6, 6, 6, 6, 6, 6, 6, 6, 6, 6, 6, 6, 6, 6, 6, 6, 6, 6, 6, 6, 6, 6, 6, 6, 6, 7, 7, 7, 7, 7, 7, 7, 7, 7, 7, 7, 7, 7, 7, 7, 7, 7, 7, 7, 7, 7, 7, 7, 7, 7, 7, 7, 7, 7, 7, 7, 7, 7, 7, 7, 7, 7, 7, 7, 7, 7, 7, 7, 7, 7, 7, 7, 7, 7, 7, 7, 7, 7, 7, 7, 7, 7, 7, 7, 7, 7, 7, 7, 7, 8, 8, 8, 8, 8, 8, 8, 8, 8, 8, 8, 8, 8, 8, 8, 8, 8, 8, 8, 8, 8, 8, 8, 8, 8, 8, 8, 8, 8, 8, 8, 8, 8, 8, 8, 8, 8, 8, 8, 8, 8, 8, 8, 8, 8, 8, 8, 8, 8, 8, 8, 8, 8, 8, 8, 8, 8, 8, 8, 8, 8, 8, 8, 8, 8, 8, 8, 8, 8, 8, 8, 8, 8, 8, 8, 8, 8, 8, 8, 8, 8, 8, 8, 8, 8, 8, 8, 8, 8, 8, 8, 8, 8, 8, 8, 8, 8, 8, 8, 8, 8, 8, 8, 8, 8, 8, 8, 8, 8, 8, 8, 8, 8, 8, 8, 8, 8, 8, 8, 8, 8, 8, 8, 8, 8, 8, 8, 8]⟩ : ByteArray) (ji17)))))) else (none)) else (none)) = some r := by first | (rw [hji17] at H; exact H) | (simp only [hji17] at H ⊢; exact H)
   by_cases c18 : 0 ≤ (ji17)
   ·
    rw [if_pos c18] at H
    have c18b0 : decide (0 ≤ (ji17)) = true := decide_eq_true c18
    clear c18
    by_cases c19 : (ji17) < 256
    ·
     rw [if_pos c19] at H
     have c19b0 : decide ((ji17) < 256) = true := decide_eq_true c19
     clear c19
     obtain rfl := Option.some.inj H
     have p20 : 0 ≤ ((ji17) : Int) := of_decide_eq_true (by first | (with_reducible assumption) | assumption)
     have q20 : (ji17) < (256 : Int) := of_decide_eq_true (by first | (with_reducible assumption) | assumption)
     have hx20 := bt_at (⟨#[0, 1, 2, 2, 3, 3, 3, 3, 4, 4, 4, 4, 4, 4, 4, 4, 5, 5, 5, 5, 5, 5, 5, 5, 5, 5, 5, 5, 5, 5, 5, 5, 6, 6, 6, 6, 6, 6, 6, 6, 6, 6, 6, 6, 6, 6, 6, 6, 6, 6, 6, 6, 6, 6, 6, 6, 6, 6, 6, 6, 6, 6, 6, 6, 7, 7, 7, 7, 7, 7, 7, 7, 7, 7, 7, 7, 7, 7, 7, 7, 7, 7, 7, 7, 7, 7, 7, 7, 7, 7, 7, 7, 7, 7, 7, 7, 7, 7, 7, 7, 7, 7, 7, 7, 7, 7, 7, 7, 7, 7, 7, 7, 7, 7, 7, 7, 7, 7, 7, 7, 7, 7, 7, 7, 7, 7, 7, 7, 8, 8, 8, 8, 8, 8, 8, 8, 8, 8, 8, 8, 8, 8, 8, 8, 8, 8, 8, 8, 8, 8, 8, 8, 8, 8, 8, 8, 8, 8, 8, 8, 8, 8, 8, 8, 8, 8, 8, 8, 8, 8, 8, 8, 8, 8, 8, 8, 8, 8, 8, 8, 8, 8, 8, 8, 8, 8, 8, 8, 8, 8, 8, 8, 8, 8, 8, 8, 8, 8, 8, 8, 8, 8, 8, 8, 8, 8, 8, 8, 8, 8, 8, 8, 8, 8, 8, 8, 8, 8, 8, 8, 8, 8, 8, 8, 8, 8, 8, 8, 8, 8, 8, 8, 8, 8, 8, 8, 8, 8, 8, 8, 8, 8, 8, 8, 8, 8, 8, 8, 8, 8, 8, 8, 8, 8, 8, 8]⟩ : ByteArray) (ji17)
     replace p20 := eq_true p20
     replace q20 := eq_true q20
     go_enter Try.func181, Try.ntmps181
     go_wp2
     go_ret
     exact ⟨by first | rfl | (simp; done) | (simp only [← hji17] <;> (first | rfl | simp)) | (simp [*]; done), by repeat (first | exact Drawn0.refl _ | apply Drawn0.step)⟩
    ·
     rw [if_neg c19] at H
     exact absurd H (by simp)
   ·
    rw [if_neg c18] at H
    exact absurd H (by simp)
end Go.Proofs.Ytecfdemglbfnoaa.PT
end
section
namespace Go.Proofs.Ytecfdemglbfnoaa.PT
open Go.RowKit Go.Proofs.YtecfdemglbfnoaaW.PrintWords Go.Proofs.YtecfdemglbfnoaaW.PrintLast Go.Proofs.YtecfdemglbfnoaaW.PrintMore
attribute [local go_sem] max2_int min2_int max_two min_two max_three min_three max_four min_four   -- for this text's walks alone
set_option linter.unusedVariables false
set_option linter.unusedSimpArgs false
def nat_Bits.f (k : Nat) (l0 : List Int) : Option (Int) := (nat_short.f k l0).bind fun t925 => (if (t925.length : Int) = 0 then (some 0) else (if 0 ≤ (wrap64 ((t925.length : Int) - 1)) then (if (wrap64 ((t925.length : Int) - 1)) < (t925.length : Int) then ((bits_Len32.f (rd t925 (wrap64 ((t925.length : Int) - 1)))).bind fun t929 => (some (wrap64 ((wrap64 (32 * (wrap64 ((t925.length : Int) - 1)))) + t929)))) else (none)) else (none)))
set_option maxHeartbeats 8000000 in
set_option maxRecDepth 100000 in
theorem nat_Bits.calls (k : Nat) (A0 : Option Addr) (c0 : Nat) (l0 : List Int) (r : Int) (w : World) (hr0 : Kd.C (Kd.int .u32) w A0 l0.length l0) (hc0 : l0.length ≤ c0) (h : nat_Bits.f k l0 = some r) :
 Calls Try.prog 154 #[.slice A0 l0.length c0] w fun e w' => e = .returned (.int .i64 r) ∧ Below w.heap.size w w' := by
 have HR0 := Aside0.mk hr0
 have HC0 := Aside0.mk hc0
 clear hr0 hc0
 have HB := Aside0.mk (Below.refl w.heap.size w)
 have H : ((nat_short.f k l0).bind fun t925 => (if (t925.length : Int) = 0 then (some 0) else (if 0 ≤ (wrap64 ((t925.length : Int) - 1)) then (if (wrap64 ((t925.length : Int) - 1)) < (t925.length : Int) then ((bits_Len32.f (rd t925 (wrap64 ((t925.length : Int) - 1)))).bind fun t929 => (some (wrap64 ((wrap64 (32 * (wrap64 ((t925.length : Int) - 1)))) + t929)))) else (none)) else (none)))) = some r := h
 clear h
 replace H := Option.bind_eq_some_iff.mp H
 obtain ⟨t925, A20, H⟩ := H
 replace H : (if (t925.length : Int) = 0 then (some 0) else (if 0 ≤ (wrap64 ((t925.length : Int) - 1)) then (if (wrap64 ((t925.length : Int) - 1)) < (t925.length : Int) then ((bits_Len32.f (rd t925 (wrap64 ((t925.length : Int) - 1)))).bind fun t929 => (some (wrap64 ((wrap64 (32 * (wrap64 ((t925.length : Int) - 1)))) + t929)))) else (none)) else (none))) = some r := H
 have A2 := Aside0.mk A20
 clear A20
 by_cases c3 : (t925.length : Int) = 0
 ·
  rw [if_pos c3] at H
  have c3b0 : ((t925.length : Int) == 0) = true := beq_iff_eq.mpr c3
  have c3b1 : ((t925.length : Int) != 0) = false := bne_eq_false_iff_eq.mpr c3
  clear c3
  obtain rfl := Option.some.inj H
  go_enter Try.func154, Try.ntmps154
  go_wp2_with (first | ((with_reducible refine gate_callee (f := 179) rfl ?_); refine goesL_ (some 4) rfl rfl Try.func179 (by kernel_rfl) rfl #[.slice A0 l0.length c0] rfl lu ?_; (with_reducible refine (nat_short.calls k (fun k_ => k_ < w.heap.size) _ _ l0 t925 _ ?side1 A2.out).mono ?_); (case side1 => exact Kd.V_mk HC0.out (Kd.F_below (Kd.C_F (Kd.heap_int .u32) HR0.out) (bu HB.out))); rintro e w4 ⟨v926, rfl, ho0, hb⟩; refine ⟨_, rfl, ?_⟩; have HO927 := Aside0.mk (Kd.V_lower (Kd.V_mono (ok' := fun k_ => True) ho0 (fun k_ hk_ => trivial)) (below_size (bu HB.out))); replace HB := Aside0.mk (below_step (bu HB.out) hb); (try clear hb); (try clear hb2); (try clear hk); (try clear hi); (try clear ho0); obtain ⟨Ao5, co5, eo5⟩ := Kd.V_slice HO927.out; subst eo5))
  go_ret
  exact ⟨by first | rfl | (simp [errW_none, errW_some] <;> rfl) | (simp [*, errW_none, errW_some] <;> rfl), by repeat (first | (with_reducible first | exact HB.out | apply below_alloc | apply pw_below_drewN | apply below_drew1) | exact HB.out)⟩
 ·
  rw [if_neg c3] at H
  have c3b0 : ((t925.length : Int) == 0) = false := beq_eq_false_iff_ne.mpr c3
  have c3b1 : ((t925.length : Int) != 0) = true := bne_iff_ne.mpr c3
  have c3b2 : ¬ (t925 = []) := fun h_ => c3 (by rw [h_]; rfl)
  obtain ⟨ji6, hji6⟩ : ∃ j_ : Int, (wrap64 ((t925.length : Int) - 1)) = j_ := ⟨_, rfl⟩
  replace H : (if 0 ≤ (ji6) then (if (ji6) < (t925.length : Int) then ((bits_Len32.f (rd t925 (ji6))).bind fun t929 => (some (wrap64 ((wrap64 (32 * (ji6))) + t929)))) else (none)) else (none)) = some r := by first | (rw [hji6] at H; exact H) | (simp only [hji6] at H ⊢; exact H)
  (try rw [hji6] at A2)
  have hji6w : (IntKind.i64.wrap ((t925.length : Int) - 1)) = ji6 := (i64_w _).trans hji6
  by_cases c7 : 0 ≤ (ji6)
  ·
   rw [if_pos c7] at H
   have c7b0 : decide (0 ≤ (ji6)) = true := decide_eq_true c7
   clear c7
   by_cases c8 : (ji6) < (t925.length : Int)
   ·
    rw [if_pos c8] at H
    have c8b0 : decide ((ji6) < (t925.length : Int)) = true := decide_eq_true c8
    clear c8
    replace H := Option.bind_eq_some_iff.mp H
    obtain ⟨t929, A90, H⟩ := H
    replace H : (some (wrap64 ((wrap64 (32 * (ji6))) + t929))) = some r := H
    have A9 := Aside0.mk A90
    clear A90
    obtain rfl := Option.some.inj H
    go_enter Try.func154, Try.ntmps154
    go_wp2_with (first | ((with_reducible refine gate_callee (f := 179) rfl ?_); refine goesL_ (some 4) rfl rfl Try.func179 (by kernel_rfl) rfl #[.slice A0 l0.length c0] rfl lu ?_; (with_reducible refine (nat_short.calls k (fun k_ => k_ < w.heap.size) _ _ l0 t925 _ ?side1 A2.out).mono ?_); (case side1 => exact Kd.V_mk HC0.out (Kd.F_below (Kd.C_F (Kd.heap_int .u32) HR0.out) (bu HB.out))); rintro e w10 ⟨v926, rfl, ho0, hb⟩; refine ⟨_, rfl, ?_⟩; have HO927 := Aside0.mk (Kd.V_lower (Kd.V_mono (ok' := fun k_ => True) ho0 (fun k_ hk_ => trivial)) (below_size (bu HB.out))); replace HB := Aside0.mk (below_step (bu HB.out) hb); (try clear hb); (try clear hb2); (try clear hk); (try clear hi); (try clear ho0); obtain ⟨Ao11, co11, eo11⟩ := Kd.V_slice HO927.out; subst eo11; have p928 : 0 ≤ ((ji6) : Int) := of_decide_eq_true (by first | (with_reducible assumption) | assumption); have q928 : (ji6) < (t925.length : Int) := of_decide_eq_true (by first | (with_reducible assumption) | assumption); obtain ⟨ad928, e928, hx928_0⟩ := Kd.at_int (Kd.V_reads' HO927.out).2.2 (ji6) p928 q928; cases e928; replace p928 := eq_true p928; replace q928 := eq_true q928) | ((with_reducible refine gate_callee (f := 181) rfl ?_); refine goesL_ (some 18) rfl rfl Try.func181 (by kernel_rfl) rfl #[.int .u32 (rd t925 (ji6))] rfl (by (try simp only [List.map_toArray, List.map_cons, List.map_nil]); first | done | (simp only [hji6]; rfl) | rfl | (simp only [List.length_drop, List.length_take]; rfl)) ?_; (with_reducible refine (bits_Len32.calls (rd t925 (ji6)) t929 _ A9.out).mono ?_); rintro e w' ⟨rfl, ⟨nd, rfl⟩⟩; refine ⟨_, rfl, ?_⟩))
    go_ret
    exact ⟨by first | rfl | (simp [errW_none, errW_some] <;> rfl) | (simp only [← hji6]; first | rfl | (simp [errW_none, errW_some] <;> rfl)) | (simp [*, errW_none, errW_some] <;> rfl), by repeat (first | (with_reducible first | exact HB.out | apply below_alloc | apply pw_below_drewN | apply below_drew1) | exact HB.out)⟩
   ·
    rw [if_neg c8] at H
    exact absurd H (by simp)
  ·
   rw [if_neg c7] at H
   exact absurd H (by simp)
end Go.Proofs.Ytecfdemglbfnoaa.PT
end
section
namespace Go.Proofs.Ytecfdemglbfnoaa.PT
open Go.RowKit Go.Proofs.YtecfdemglbfnoaaW.PrintWords Go.Proofs.YtecfdemglbfnoaaW.PrintLast Go.Proofs.YtecfdemglbfnoaaW.PrintMore
attribute [local go_sem] max2_int min2_int max_two min_two max_three min_three max_four min_four   -- for this text's walks alone
set_option linter.unusedVariables false
set_option linter.unusedSimpArgs false
def rational_Sign.j0 : Nat → Bool → Bool → List Int → List Int → Option (Int)
 | 0, _, _, _, _ => none
 | k + 1, x3, x1285000, x1285001, x1285002 => if x3 = true then (some 0) else (if x1285000 = true then (some (-1)) else (some 1))
def rational_Sign.f (k : Nat) (a0_0 : Bool) (l0_1 : List Int) (l0_2 : List Int) : Option (Int) := (nat_Bits.f k l0_1).bind fun t1285 => (if t1285 = 0 then (rational_Sign.j0 k true a0_0 l0_1 l0_2) else ((nat_Bits.f k l0_2).bind fun t1286 => (rational_Sign.j0 k (t1286 == 0) a0_0 l0_1 l0_2)))
set_option maxHeartbeats 8000000 in
set_option maxRecDepth 100000 in
theorem rational_Sign.calls (k : Nat) (a0_0 : Bool) (A0_1 : Option Addr) (c0_1 : Nat) (l0_1 : List Int) (A0_2 : Option Addr) (c0_2 : Nat) (l0_2 : List Int) (r : Int) (w : World) (hr0_1 : Kd.C (Kd.int .u32) w A0_1 l0_1.length l0_1) (hc0_1 : l0_1.length ≤ c0_1) (hr0_2 : Kd.C (Kd.int .u32) w A0_2 l0_2.length l0_2) (hc0_2 : l0_2.length ≤ c0_2) (h : rational_Sign.f k a0_0 l0_1 l0_2 = some r) :
 Calls Try.prog 91 #[.agg #[.bool a0_0, .slice A0_1 l0_1.length c0_1, .slice A0_2 l0_2.length c0_2]] w fun e w' => e = .returned (.int .i64 r) ∧ Below w.heap.size w w' := by
 have hu67 := Try.underlying67
 have HR0_1 := Aside0.mk hr0_1
 have HC0_1 := Aside0.mk hc0_1
 clear hr0_1 hc0_1
 have HR0_2 := Aside0.mk hr0_2
 have HC0_2 := Aside0.mk hc0_2
 clear hr0_2 hc0_2
 have HB := Aside0.mk (Below.refl w.heap.size w)
 have H : ((nat_Bits.f k l0_1).bind fun t1285 => (if t1285 = 0 then (rational_Sign.j0 k true a0_0 l0_1 l0_2) else ((nat_Bits.f k l0_2).bind fun t1286 => (rational_Sign.j0 k (t1286 == 0) a0_0 l0_1 l0_2)))) = some r := h
 clear h
 have HC2 := Aside0.mk H
 clear H
 go_enter Try.func91, Try.ntmps91
 go_upto_region 1 with (first | ((with_reducible refine gate_dst (N := 1) rfl ?_); refine box_event ?hg (N := 1) ?hd (cs := #[.bool a0_0, .slice A0_1 l0_1.length c0_1, .slice A0_2 l0_2.length c0_2]) (t := 67) ?hr ?_; (case hd => rfl); (case hg => rfl); (case hr => first | (go_simp; done) | (go_simp; rfl)); intro gb1284 hg w3 hbox hb; have BK1284 := Aside0.mk (hbox); have GW1284 := Aside0.mk ((by rw [hg]; exact (below_size (bu HB.out)) : w.heap.size ≤ gb1284)); have GE1284 := Aside0.mk ((by rw [hg]; exact (below_size (bu HB.out)) : w.heap.size ≤ gb1284)); replace HB := Aside0.mk (below_step (bu HB.out) hb); clear hb hbox hg))
 (try simp only [Act.put, List.setIfInBounds_toArray, List.set_cons_zero, List.set_cons_succ])
 go_cut [3] (fun v3 wc => ∃ (kq : Nat) (x3_1 : Bool), v3 = .bool x3_1 ∧ Aside0 (rational_Sign.j0 kq x3_1 a0_0 l0_1 l0_2 = some r) ∧ Aside0 (kq ≤ k) ∧ Aside0 (wc.heap[gb1284]? = some (.cells #[.bool a0_0, (.slice A0_1 l0_1.length c0_1), (.slice A0_2 l0_2.length c0_2)] 67 (0, 0))) ∧ Aside0 (Below w.heap.size w wc))
 case first =>
  have H := HC2.out
  clear HC2
  replace H := Option.bind_eq_some_iff.mp H
  obtain ⟨t1285, A40, H⟩ := H
  replace H : (if t1285 = 0 then (rational_Sign.j0 k true a0_0 l0_1 l0_2) else ((nat_Bits.f k l0_2).bind fun t1286 => (rational_Sign.j0 k (t1286 == 0) a0_0 l0_1 l0_2))) = some r := H
  have A4 := Aside0.mk A40
  clear A40
  by_cases c5 : t1285 = 0
  ·
   rw [if_pos c5] at H
   have c5b0 : (t1285 == 0) = true := beq_iff_eq.mpr c5
   have c5b1 : (t1285 != 0) = false := bne_eq_false_iff_eq.mpr c5
   clear c5
   (first | rw [c5b0] | rw [c5b1] | (simp only [i64_w, i32_w]; rw [c5b0]) | skip)
   have H' := Aside0.mk H
   clear H
   have hcz6_0 : w3.cell? ⟨gb1284, 0, none⟩ = some (.bool a0_0) := (blk_cell BK1284.out 0).trans rfl
   have hcz6_1 : w3.cell? ⟨gb1284, 1, none⟩ = some (.slice A0_1 l0_1.length c0_1) := (blk_cell BK1284.out 1).trans rfl
   have hcz6_2 : w3.cell? ⟨gb1284, 2, none⟩ = some (.slice A0_2 l0_2.length c0_2) := (blk_cell BK1284.out 2).trans rfl
   have hfz6_0 := blk_frozen BK1284.out 0
   have hfz6_1 := blk_frozen BK1284.out 1
   have hfz6_2 := blk_frozen BK1284.out 2
   go_wp2_with (first | ((with_reducible refine gate_callee (f := 154) rfl ?_); refine goesL_ (some 6) rfl rfl Try.func154 (by kernel_rfl) rfl #[.slice A0_1 l0_1.length c0_1] rfl lu ?_; (with_reducible refine (nat_Bits.calls k _ _ l0_1 t1285 _ ?side1 ?side2 A4.out).mono ?_); (case side1 => repeat (first | exact (Kd.C_below HR0_1.out HB.out) | (with_reducible refine Kd.C_alloc ?_ _) | (with_reducible refine Kd.C_drewN ?_ _) | (with_reducible refine Kd.C_drew ?_))); (case side2 => exact HC0_1.out); rintro e w7 ⟨rfl, hb⟩; refine ⟨_, rfl, ?_⟩; replace BK1284 := Aside0.mk (blk_below (g := gb1284) (o := .cells #[.bool a0_0, .slice A0_1 l0_1.length c0_1, .slice A0_2 l0_2.length c0_2] 67 (0, 0)) (ku BK1284.out) hb); replace HB := Aside0.mk (below_step (bu1 HB.out GE1284.out) hb); (try clear hb); (try clear hb2); (try clear hk); (try clear hi)))
   go_meet
   case rel => exact ⟨_, (true), (by first | rfl | (simp; done) | (simp [*]; done)), H', ⟨by first | omega | exact Nat.le_refl _⟩, ⟨by (with_reducible repeat (first | refine blk_drewN ?_ _ | refine blk_drew ?_ | refine blk_alloc ?_ _)); exact BK1284.out⟩, ⟨by repeat (first | (with_reducible first | exact HB.out | apply below_alloc | apply pw_below_drewN | apply below_drew1 | refine below_set ?_ GE1284.out) | exact HB.out)⟩⟩
  ·
   rw [if_neg c5] at H
   have c5b0 : (t1285 == 0) = false := beq_eq_false_iff_ne.mpr c5
   have c5b1 : (t1285 != 0) = true := bne_iff_ne.mpr c5
   (first | rw [c5b0] | rw [c5b1] | (simp only [i64_w, i32_w]; rw [c5b0]) | skip)
   replace H := Option.bind_eq_some_iff.mp H
   obtain ⟨t1286, A80, H⟩ := H
   replace H : (rational_Sign.j0 k (t1286 == 0) a0_0 l0_1 l0_2) = some r := H
   have A8 := Aside0.mk A80
   clear A80
   have H' := Aside0.mk H
   clear H
   have hcz9_0 : w3.cell? ⟨gb1284, 0, none⟩ = some (.bool a0_0) := (blk_cell BK1284.out 0).trans rfl
   have hcz9_1 : w3.cell? ⟨gb1284, 1, none⟩ = some (.slice A0_1 l0_1.length c0_1) := (blk_cell BK1284.out 1).trans rfl
   have hcz9_2 : w3.cell? ⟨gb1284, 2, none⟩ = some (.slice A0_2 l0_2.length c0_2) := (blk_cell BK1284.out 2).trans rfl
   have hfz9_0 := blk_frozen BK1284.out 0
   have hfz9_1 := blk_frozen BK1284.out 1
   have hfz9_2 := blk_frozen BK1284.out 2
   go_wp2_with (first | ((with_reducible refine gate_callee (f := 154) rfl ?_); refine goesL_ (some 6) rfl rfl Try.func154 (by kernel_rfl) rfl #[.slice A0_1 l0_1.length c0_1] rfl lu ?_; (with_reducible refine (nat_Bits.calls k _ _ l0_1 t1285 _ ?side1 ?side2 A4.out).mono ?_); (case side1 => repeat (first | exact (Kd.C_below HR0_1.out HB.out) | (with_reducible refine Kd.C_alloc ?_ _) | (with_reducible refine Kd.C_drewN ?_ _) | (with_reducible refine Kd.C_drew ?_))); (case side2 => exact HC0_1.out); rintro e w10 ⟨rfl, hb⟩; refine ⟨_, rfl, ?_⟩; replace BK1284 := Aside0.mk (blk_below (g := gb1284) (o := .cells #[.bool a0_0, .slice A0_1 l0_1.length c0_1, .slice A0_2 l0_2.length c0_2] 67 (0, 0)) (ku BK1284.out) hb); replace HB := Aside0.mk (below_step (bu1 HB.out GE1284.out) hb); (try clear hb); (try clear hb2); (try clear hk); (try clear hi); have hcz11_0 : w10.cell? ⟨gb1284, 0, none⟩ = some (.bool a0_0) := (blk_cell BK1284.out 0).trans rfl; have hcz11_1 : w10.cell? ⟨gb1284, 1, none⟩ = some (.slice A0_1 l0_1.length c0_1) := (blk_cell BK1284.out 1).trans rfl; have hcz11_2 : w10.cell? ⟨gb1284, 2, none⟩ = some (.slice A0_2 l0_2.length c0_2) := (blk_cell BK1284.out 2).trans rfl; have hfz11_0 := blk_frozen BK1284.out 0; have hfz11_1 := blk_frozen BK1284.out 1; have hfz11_2 := blk_frozen BK1284.out 2) | (go_at_call 154; (with_reducible refine (nat_Bits.calls k _ _ l0_2 t1286 _ ?side1 ?side2 A8.out).mono ?_); (case side1 => repeat (first | exact (Kd.C_below HR0_2.out HB.out) | (with_reducible refine Kd.C_alloc ?_ _) | (with_reducible refine Kd.C_drewN ?_ _) | (with_reducible refine Kd.C_drew ?_))); (case side2 => exact HC0_2.out); rintro e w12 ⟨rfl, hb⟩; replace BK1284 := Aside0.mk (blk_below (g := gb1284) (o := .cells #[.bool a0_0, .slice A0_1 l0_1.length c0_1, .slice A0_2 l0_2.length c0_2] 67 (0, 0)) (ku BK1284.out) hb); replace HB := Aside0.mk (below_step (bu1 HB.out GE1284.out) hb); (try clear hb); (try clear hb2); (try clear hk); (try clear hi)))
   go_meet
   case rel => exact ⟨_, ((t1286 == 0)), (by first | rfl | (simp; done) | (simp [*]; done) | (cases t1286 <;> first | rfl | (simp; done))), H', ⟨by first | omega | exact Nat.le_refl _⟩, ⟨by (with_reducible repeat (first | refine blk_drewN ?_ _ | refine blk_drew ?_ | refine blk_alloc ?_ _)); exact BK1284.out⟩, ⟨by repeat (first | (with_reducible first | exact HB.out | apply below_alloc | apply pw_below_drewN | apply below_drew1 | refine below_set ?_ GE1284.out) | exact HB.out)⟩⟩
 case rest =>
  clear HC2
  try clear c1
  try clear p2
  try clear c5
  try clear c5b0
  try clear c5b1
  try clear c9
  try clear hcz11_0
  try clear hcz11_1
  try clear hcz11_2
  try clear hcz6_0
  try clear hcz6_1
  try clear hcz6_2
  try clear hcz9_0
  try clear hcz9_1
  try clear hcz9_2
  try clear hfz11_0
  try clear hfz11_1
  try clear hfz11_2
  try clear hfz6_0
  try clear hfz6_1
  try clear hfz6_2
  try clear hfz9_0
  try clear hfz9_1
  try clear hfz9_2
  obtain ⟨kq, x3_1, rfl, HA, HJ1, BK1284, HB⟩ := hcut
  cases kq with
  | zero => exact absurd HA.out (by simp [rational_Sign.j0])
  | succ kj1 =>
   have H := HA.out
   clear HA
   simp only [rational_Sign.j0] at H
   by_cases c13 : x3_1 = true
   ·
    subst c13
    have H1 : (some 0) = some r := by rw [if_pos rfl] at H; exact H
    clear H
    have H := H1
    clear H1
    obtain rfl := Option.some.inj H
    go_wp2
    go_ret
    exact ⟨by first | rfl | (simp [errW_none, errW_some] <;> rfl) | (simp [*, errW_none, errW_some] <;> rfl), by repeat (first | (with_reducible first | exact HB.out | apply below_alloc | apply pw_below_drewN | apply below_drew1 | refine below_set ?_ GE1284.out) | exact HB.out)⟩
   ·
    replace c13 := Bool.eq_false_iff.mpr c13
    subst c13
    have H1 : (if a0_0 = true then (some (-1)) else (some 1)) = some r := by rw [if_neg (show ¬ (false = true) by decide)] at H; exact H
    clear H
    have H := H1
    clear H1
    by_cases c14 : a0_0 = true
    ·
     subst c14
     have H1 : (some (-1)) = some r := by rw [if_pos rfl] at H; exact H
     clear H
     have H := H1
     clear H1
     obtain rfl := Option.some.inj H
     have hcz15_0 : wc.cell? ⟨gb1284, 0, none⟩ = some (.bool true) := (blk_cell BK1284.out 0).trans rfl
     have hcz15_1 : wc.cell? ⟨gb1284, 1, none⟩ = some (.slice A0_1 l0_1.length c0_1) := (blk_cell BK1284.out 1).trans rfl
     have hcz15_2 : wc.cell? ⟨gb1284, 2, none⟩ = some (.slice A0_2 l0_2.length c0_2) := (blk_cell BK1284.out 2).trans rfl
     have hfz15_0 := blk_frozen BK1284.out 0
     have hfz15_1 := blk_frozen BK1284.out 1
     have hfz15_2 := blk_frozen BK1284.out 2
     go_wp2
     go_ret
     exact ⟨by first | rfl | (simp [errW_none, errW_some] <;> rfl) | (simp [*, errW_none, errW_some] <;> rfl), by repeat (first | (with_reducible first | exact HB.out | apply below_alloc | apply pw_below_drewN | apply below_drew1 | refine below_set ?_ GE1284.out) | exact HB.out)⟩
    ·
     replace c14 := Bool.eq_false_iff.mpr c14
     subst c14
     have H1 : (some 1) = some r := by rw [if_neg (show ¬ (false = true) by decide)] at H; exact H
     clear H
     have H := H1
     clear H1
     obtain rfl := Option.some.inj H
     have hcz16_0 : wc.cell? ⟨gb1284, 0, none⟩ = some (.bool false) := (blk_cell BK1284.out 0).trans rfl
     have hcz16_1 : wc.cell? ⟨gb1284, 1, none⟩ = some (.slice A0_1 l0_1.length c0_1) := (blk_cell BK1284.out 1).trans rfl
     have hcz16_2 : wc.cell? ⟨gb1284, 2, none⟩ = some (.slice A0_2 l0_2.length c0_2) := (blk_cell BK1284.out 2).trans rfl
     have hfz16_0 := blk_frozen BK1284.out 0
     have hfz16_1 := blk_frozen BK1284.out 1
     have hfz16_2 := blk_frozen BK1284.out 2
     go_wp2
     go_ret
     exact ⟨by first | rfl | (simp [errW_none, errW_some] <;> rfl) | (simp [*, errW_none, errW_some] <;> rfl), by repeat (first | (with_reducible first | exact HB.out | apply below_alloc | apply pw_below_drewN | apply below_drew1 | refine below_set ?_ GE1284.out) | exact HB.out)⟩
end Go.Proofs.Ytecfdemglbfnoaa.PT
end
section
namespace Go.Proofs.Ytecfdemglbfnoaa.PT
open Go.RowKit Go.Proofs.YtecfdemglbfnoaaW.PrintWords Go.Proofs.YtecfdemglbfnoaaW.PrintLast Go.Proofs.YtecfdemglbfnoaaW.PrintMore
attribute [local go_sem] max2_int min2_int max_two min_two max_three min_three max_four min_four   -- for this text's walks alone
set_option linter.unusedVariables false
set_option linter.unusedSimpArgs false
def nat_Trim.f (k : Nat) (l0 : List Int) : Option (List Int) := (nat_short.f k l0).bind fun t263 => (if ([] : List Int).length + t263.length < 35184372088832 then (some (([] : List Int) ++ t263)) else (none))
set_option maxHeartbeats 8000000 in
set_option maxRecDepth 100000 in
theorem nat_Trim.calls (k : Nat) (A0 : Option Addr) (c0 : Nat) (l0 : List Int) (r : List Int) (w : World) (hr0 : Kd.C (Kd.int .u32) w A0 l0.length l0) (hc0 : l0.length ≤ c0) (h : nat_Trim.f k l0 = some r) :
 Calls Try.prog 177 #[.slice A0 l0.length c0] w fun e w' => ∃ v0_ : Value, e = .returned (v0_) ∧ Kd.R (Kd.int .u32) 48 w' w.heap.size (fun _ => True) v0_ r ∧ Below w.heap.size w w' := by
 have HR0 := Aside0.mk hr0
 have HC0 := Aside0.mk hc0
 clear hr0 hc0
 have HB := Aside0.mk (Below.refl w.heap.size w)
 have H : ((nat_short.f k l0).bind fun t263 => (if ([] : List Int).length + t263.length < 35184372088832 then (some (([] : List Int) ++ t263)) else (none))) = some r := h
 clear h
 replace H := Option.bind_eq_some_iff.mp H
 obtain ⟨t263, A20, H⟩ := H
 replace H : (if ([] : List Int).length + t263.length < 35184372088832 then (some (([] : List Int) ++ t263)) else (none)) = some r := H
 have A2 := Aside0.mk A20
 clear A20
 by_cases c3 : ([] : List Int).length + t263.length < 35184372088832
 ·
  rw [if_pos c3] at H
  have LMc3 := Aside0.mk c3
  clear c3
  obtain ⟨y266, hy266⟩ : ∃ y_ : List Int, y_ = (([] : List Int) ++ t263) := ⟨_, rfl⟩
  replace H : (some y266) = some r := by first | (rw [hy266]; with_reducible exact H) | (have H2_ := (Option.bind_some _ _).symm.trans H; rw [hy266]; with_reducible exact H2_) | (have H2_ := (Option.bind_some _ _).symm.trans H; with_reducible exact H2_) | with_reducible exact H | (rw [hy266]; exact H) | exact H
  have Ny266 := Aside0.mk hy266
  clear hy266
  obtain rfl := Option.some.inj H
  go_enter Try.func177, Try.ntmps177
  go_wp2_with (first | ((with_reducible refine gate_callee (f := 179) rfl ?_); refine goesL_ (some 4) rfl rfl Try.func179 (by kernel_rfl) rfl #[.slice A0 l0.length c0] rfl lu ?_; (with_reducible refine (nat_short.calls k (fun k_ => k_ < w.heap.size) _ _ l0 t263 _ ?side1 A2.out).mono ?_); (case side1 => exact Kd.V_mk HC0.out (Kd.F_below (Kd.C_F (Kd.heap_int .u32) HR0.out) (bu HB.out))); rintro e w4 ⟨v264, rfl, ho0, hb⟩; refine ⟨_, rfl, ?_⟩; have HO265 := Aside0.mk (Kd.V_lower (Kd.V_mono (ok' := fun k_ => True) ho0 (fun k_ hk_ => trivial)) (below_size (bu HB.out))); replace HB := Aside0.mk (below_step (bu HB.out) hb); (try clear hb); (try clear hb2); (try clear hk); (try clear hi); (try clear ho0); obtain ⟨Ao6, co6, eo6⟩ := Kd.V_slice HO265.out; subst eo6) | ((with_reducible refine gate_builtin (b := .append) (xs := #[.const (.slice none 0 0), .tmp 4]) rfl ?_); at_builtin; refine Kd.R_append_rows (Kd.int .u32) (w0 := w) w.heap.size rfl (.const (.slice none 0 0)) (.tmp 4) 42 48 (.int .u32 0) 4 rfl Try.underlying42 info48 rfl (by decide) (by omega) (.slice none 0 0) ([] : List Int) t263 _ _ _ (fun _ => True) (fun _ => False) rfl rfl ?aO ?aR (fun _ _ h => h) (fun _ h => h.elim) ?aF ?aB ?aS ?aL ?_; (case aR => repeat (first | exact (Kd.V_reads' HO265.out).2.2 | (with_reducible refine Kd.C_alloc ?_ _) | (with_reducible refine Kd.C_drewN ?_ _) | (with_reducible refine Kd.C_drew ?_))); (case aB => exact (bu HB.out)); (case aF => exact (fun _ _ => trivial)); (case aO => exact ((Kd.R_nil _ _ _ _ (fun _ => True)))); (case aS => exact (below_size (bu HB.out))); (case aL => have := LMc3.out; omega); intro v267 w5 ho hb hg hat; rw [← Ny266.out] at ho; replace HO265 := Aside0.mk (Kd.V_afterv (Kd.V_apart_nil (vu HO265.out)) hg hat); replace HB := Aside0.mk (hb); have HO268 := Aside0.mk (ho); clear ho hb hg hat))
  go_ret
  exact ⟨_, by first | rfl | (simp [errW_none, errW_some] <;> rfl) | (simp [*, errW_none, errW_some] <;> rfl), by (with_reducible repeat (first | apply Kd.R_alloc | apply Kd.R_drewN | apply Kd.R_drew)); exact HO268.out, by repeat (first | (with_reducible first | exact HB.out | apply below_alloc | apply pw_below_drewN | apply below_drew1) | exact HB.out)⟩
 ·
  rw [if_neg c3] at H
  exact absurd H (by simp)
end Go.Proofs.Ytecfdemglbfnoaa.PT
end
section
namespace Go.Proofs.Ytecfdemglbfnoaa.PT
open Go.RowKit Go.Proofs.YtecfdemglbfnoaaW.PrintWords Go.Proofs.YtecfdemglbfnoaaW.PrintLast Go.Proofs.YtecfdemglbfnoaaW.PrintMore
attribute [local go_sem] max2_int min2_int max_two min_two max_three min_three max_four min_four   -- for this text's walks alone
set_option linter.unusedVariables false
set_option linter.unusedSimpArgs false
mutual
def nat_times.l0 : Nat → List Int → List Int → List Int → Int → Int → Option (List Int)
 | 0, _, _, _, _, _ => none
 | k + 1, x1, x5, x18, x19, x20 => if x20 < x19 then (if 0 ≤ x20 then (if x20 < (x18.length : Int) then (nat_times.l1 k x1 x5 x20 (rd x18 x20) 0 x18 x19 x20 x1 (x1.length : Int) 0) else (none)) else (none)) else ((nat_short.f k x5).bind fun t338 => (some t338))
def nat_times.l1 : Nat → List Int → List Int → Int → Int → Int → List Int → Int → Int → List Int → Int → Int → Option (List Int)
 | 0, _, _, _, _, _, _, _, _, _, _, _ => none
 | k + 1, x1, x5, x6, x7, x8, x18, x19, x20, x25, x26, x27 => if x27 < x26 then (if 0 ≤ x27 then (if x27 < (x25.length : Int) then (if 0 ≤ (wrap64 (x6 + x27)) then (if (wrap64 (x6 + x27)) < (x5.length : Int) then (nat_times.l1 k x1 (x5.set ((wrap64 (x6 + x27)) : Int).toNat ((IntKind.u64.wrap ((IntKind.u64.wrap ((IntKind.u64.wrap ((IntKind.u64.wrap (x7)) * (IntKind.u64.wrap (rd x25 x27)))) + (IntKind.u64.wrap (rd x5 (wrap64 (x6 + x27)))))) + x8)) % 4294967296)) x6 x7 ((IntKind.u64.wrap ((IntKind.u64.wrap ((IntKind.u64.wrap ((IntKind.u64.wrap (x7)) * (IntKind.u64.wrap (rd x25 x27)))) + (IntKind.u64.wrap (rd x5 (wrap64 (x6 + x27)))))) + x8)) / 4294967296) x18 x19 x20 x25 x26 (wrap64 (x27 + 1))) else (none)) else (none)) else (none)) else (none)) else (if 0 ≤ (wrap64 (x6 + (x1.length : Int))) then (if (wrap64 (x6 + (x1.length : Int))) < (x5.length : Int) then (nat_times.l0 k x1 (x5.set ((wrap64 (x6 + (x1.length : Int))) : Int).toNat ((x8) % 4294967296)) x18 x19 (wrap64 (x20 + 1))) else (none)) else (none))
end
def nat_times.f (k : Nat) (l0 : List Int) (l1 : List Int) : Option (List Int) := if 0 ≤ (wrap64 ((l0.length : Int) + (l1.length : Int))) then (if (wrap64 ((l0.length : Int) + (l1.length : Int)) : Int).toNat ≤ 70368744177664 then (nat_times.l0 k l1 (List.replicate (wrap64 ((l0.length : Int) + (l1.length : Int)) : Int).toNat 0) l0 (l0.length : Int) 0) else (none)) else (none)
set_option maxHeartbeats 8000000 in
set_option maxRecDepth 100000 in
theorem nat_times.calls (k : Nat) (A0 : Option Addr) (c0 : Nat) (l0 : List Int) (A1 : Option Addr) (c1 : Nat) (l1 : List Int) (r : List Int) (w : World) (hr0 : Kd.C (Kd.int .u32) w A0 l0.length l0) (hc0 : l0.length ≤ c0) (hr1 : Kd.C (Kd.int .u32) w A1 l1.length l1) (hc1 : l1.length ≤ c1) (h : nat_times.f k l0 l1 = some r) :
 Calls Try.prog 180 #[.slice A0 l0.length c0, .slice A1 l1.length c1] w fun e w' => ∃ v0_ : Value, e = .returned (v0_) ∧ Kd.V (Kd.int .u32) 48 w' w.heap.size (fun k_ => (w.heap.size ≤ k_)) v0_ r ∧ Below w.heap.size w w' := by
 have HR0 := Aside0.mk hr0
 have HC0 := Aside0.mk hc0
 clear hr0 hc0
 have HR1 := Aside0.mk hr1
 have HC1 := Aside0.mk hc1
 clear hr1 hc1
 have HB := Aside0.mk (Below.refl w.heap.size w)
 have H : (if 0 ≤ (wrap64 ((l0.length : Int) + (l1.length : Int))) then (if (wrap64 ((l0.length : Int) + (l1.length : Int)) : Int).toNat ≤ 70368744177664 then (nat_times.l0 k l1 (List.replicate (wrap64 ((l0.length : Int) + (l1.length : Int)) : Int).toNat 0) l0 (l0.length : Int) 0) else (none)) else (none)) = some r := h
 clear h
 obtain ⟨ji3, hji3⟩ : ∃ j_ : Int, (wrap64 ((l0.length : Int) + (l1.length : Int))) = j_ := ⟨_, rfl⟩
 replace H : (if 0 ≤ (ji3) then (if (ji3 : Int).toNat ≤ 70368744177664 then (nat_times.l0 k l1 (List.replicate (ji3 : Int).toNat 0) l0 (l0.length : Int) 0) else (none)) else (none)) = some r := by first | (rw [hji3] at H; exact H) | (simp only [hji3] at H ⊢; exact H)
 have hji3w : (IntKind.i64.wrap ((l0.length : Int) + (l1.length : Int))) = ji3 := (i64_w _).trans hji3
 by_cases c4 : 0 ≤ (ji3)
 ·
  rw [if_pos c4] at H
  have c4b0 := eq_true c4
  have c4b1 : decide (0 ≤ (ji3)) = true := decide_eq_true c4
  clear c4
  by_cases c5 : (ji3 : Int).toNat ≤ 70368744177664
  ·
   rw [if_pos c5] at H
   have c5b0 := eq_true c5
   have c5b1 : decide ((ji3 : Int).toNat ≤ 70368744177664) = true := decide_eq_true c5
   clear c5
   obtain ⟨y335, hy335⟩ : ∃ y_ : List Int, y_ = (List.replicate (ji3 : Int).toNat 0) := ⟨_, rfl⟩
   replace H : (nat_times.l0 k l1 y335 l0 (l0.length : Int) 0) = some r := by first | (rw [hy335]; with_reducible exact H) | (have H2_ := (Option.bind_some _ _).symm.trans H; rw [hy335]; with_reducible exact H2_) | (have H2_ := (Option.bind_some _ _).symm.trans H; with_reducible exact H2_) | with_reducible exact H | (rw [hy335]; exact H) | exact H
   have Ny335 := Aside0.mk hy335
   clear hy335
   have H' := Aside0.mk H
   clear H
   go_enter Try.func180, Try.ntmps180
   go_wp2_with (first | ((with_reducible refine gate_dst (N := 17) rfl ?_); refine Kd.R_make (Kd.int .u32) _ 48 rfl (N := 17) rfl 42 _ _ rfl ji3 rfl rfl Try.underlying42 (.int .u32 0) 4 info48 rfl (by decide) (by omega) 0 (ok := fun _ => True) (okp := fun _ => True) rfl (fun _ hk => hk) trivial (of_decide_eq_true (by first | (with_reducible assumption) | assumption)) (Nat.le_trans (Nat.mul_le_mul_right _ (of_decide_eq_true (by first | (with_reducible assumption) | assumption) : ji3.toNat ≤ 70368744177664)) (by omega)) (Below.refl _ _) (Nat.le_refl _) ?_; intro v336 w6 ho7 hb hg_ hnew_; clear hg_ hnew_; (first | rw [← Ny335.out] at ho7 | (simp only [Int.reduceToNat] at ho7; rw [← Ny335.out] at ho7)); have HO337 := Aside0.mk (Kd.R_lower (Kd.R_newM (M := fun k_ => (w.heap.size ≤ k_)) ho7 (below_size (bu HB.out)) (fun k_ h_ => h_)) (below_size (bu HB.out))); replace HB := Aside0.mk (below_step (bu HB.out) hb); clear hb ho7))
   go_loopg [20] k (fun kq v20 w' => ∃ (x5_1 : List Int) (x20_1 : Int), v20 = .int .i64 x20_1 ∧ Aside0 (nat_times.l0 kq l1 x5_1 l0 (l0.length : Int) x20_1 = some r) ∧ Aside0 (kq ≤ k) ∧ Aside0 (Kd.R (Kd.int .u32) 48 w' w.heap.size (fun k_ => (w.heap.size ≤ k_)) v336 x5_1) ∧ Aside0 (Below w.heap.size w w'))
   case atStart => exact ⟨(y335), (0), (by first | rfl | (simp; done) | (simp [*]; done)), H', ⟨Nat.le_refl _⟩, ⟨by (with_reducible repeat (first | apply Kd.R_alloc | apply Kd.R_drewN | apply Kd.R_drew)); exact Kd.R_mono HO337.out (fun _ hk => hk.1)⟩, ⟨by repeat (first | (with_reducible first | exact HB.out | apply below_alloc | apply pw_below_drewN | apply below_drew1) | exact HB.out)⟩⟩
   case round =>
    clear H'
    try clear c1
    try clear p2
    try clear c4
    try clear c4b0
    try clear c4b1
    try clear c5
    try clear c5b0
    try clear c5b1
    try clear p6
    obtain ⟨x5_1, x20_1, rfl, HA, HK1, HO_5, HB⟩ := hrel
    cases gk with
    | zero => exact absurd HA.out (by simp [nat_times.l0])
    | succ k1 =>
     have H := HA.out
     clear HA
     simp only [nat_times.l0] at H
     by_cases c8 : x20_1 < (l0.length : Int)
     ·
      rw [if_pos c8] at H
      have c8b0 : decide (x20_1 < (l0.length : Int)) = true := decide_eq_true c8
      clear c8
      by_cases c9 : 0 ≤ x20_1
      ·
       rw [if_pos c9] at H
       have c9b0 : decide (0 ≤ x20_1) = true := decide_eq_true c9
       clear c9
       by_cases c10 : x20_1 < (l0.length : Int)
       ·
        rw [if_pos c10] at H
        have c10b0 : decide (x20_1 < (l0.length : Int)) = true := decide_eq_true c10
        clear c10
        have H' := Aside0.mk H
        clear H
        have p341 : 0 ≤ (x20_1 : Int) := of_decide_eq_true (by first | (with_reducible assumption) | assumption)
        have q341 : x20_1 < (l0.length : Int) := of_decide_eq_true (by first | (with_reducible assumption) | assumption)
        obtain ⟨ad341, e341, hx341_0⟩ := Kd.at_int HR0.out x20_1 p341 q341
        cases e341
        replace hx341_0 := (HB.out.cell (World.block_lt_of_cell? w _ hx341_0)).trans hx341_0
        replace p341 := eq_true p341
        replace q341 := eq_true q341
        go_wp2
        go_loopg [8, 27] k1 (fun kq v8 v27 w' => ∃ (x5_2 : List Int) (x8_2 : Int) (x27_2 : Int), v8 = .int .u64 x8_2 ∧ v27 = .int .i64 x27_2 ∧ Aside0 (nat_times.l1 kq l1 x5_2 x20_1 (rd l0 x20_1) x8_2 l0 (l0.length : Int) x20_1 l1 (l1.length : Int) x27_2 = some r) ∧ Aside0 (kq ≤ k1) ∧ Aside0 (Kd.R (Kd.int .u32) 48 w' w.heap.size (fun k_ => (w.heap.size ≤ k_)) v336 x5_2) ∧ Aside0 (Below w.heap.size w w'))
        case atStart => exact ⟨(x5_1), (0), (0), (by first | rfl | (simp; done) | (simp [*]; done)), (by first | rfl | (simp; done) | (simp [*]; done)), H', ⟨Nat.le_refl _⟩, ⟨by (with_reducible repeat (first | apply Kd.R_alloc | apply Kd.R_drewN | apply Kd.R_drew)); exact HO_5.out⟩, ⟨by repeat (first | (with_reducible first | exact HB.out | apply below_alloc | apply pw_below_drewN | apply below_drew1) | exact HB.out)⟩⟩
        case round =>
         clear H'
         try clear c1
         try clear p2
         try clear p3
         try clear q3
         try clear hx3
         try clear c4
         try clear c4b0
         try clear c4b1
         try clear c5
         try clear c5b0
         try clear c5b1
         try clear p6
         try clear c8
         try clear c8b0
         try clear c9
         try clear c9b0
         try clear c10
         try clear c10b0
         try clear hx341_0
         try clear p2
         try clear p341
         try clear p6
         try clear q341
         obtain ⟨x5_2, x8_2, x27_2, rfl, rfl, HA, HK2, HO_5, HB⟩ := hrel
         cases gk with
         | zero => exact absurd HA.out (by simp [nat_times.l1])
         | succ k2 =>
          have H := HA.out
          clear HA
          simp only [nat_times.l1] at H
          by_cases c11 : x27_2 < (l1.length : Int)
          ·
           rw [if_pos c11] at H
           have c11b0 : decide (x27_2 < (l1.length : Int)) = true := decide_eq_true c11
           clear c11
           by_cases c12 : 0 ≤ x27_2
           ·
            rw [if_pos c12] at H
            have c12b0 : decide (0 ≤ x27_2) = true := decide_eq_true c12
            clear c12
            by_cases c13 : x27_2 < (l1.length : Int)
            ·
             rw [if_pos c13] at H
             have c13b0 : decide (x27_2 < (l1.length : Int)) = true := decide_eq_true c13
             clear c13
             obtain ⟨ji14, hji14⟩ : ∃ j_ : Int, (wrap64 (x20_1 + x27_2)) = j_ := ⟨_, rfl⟩
             replace H : (if 0 ≤ (ji14) then (if (ji14) < (x5_2.length : Int) then (nat_times.l1 k2 l1 (x5_2.set ((ji14) : Int).toNat ((IntKind.u64.wrap ((IntKind.u64.wrap ((IntKind.u64.wrap ((IntKind.u64.wrap ((rd l0 x20_1))) * (IntKind.u64.wrap (rd l1 x27_2)))) + (IntKind.u64.wrap (rd x5_2 (ji14))))) + x8_2)) % 4294967296)) x20_1 (rd l0 x20_1) ((IntKind.u64.wrap ((IntKind.u64.wrap ((IntKind.u64.wrap ((IntKind.u64.wrap ((rd l0 x20_1))) * (IntKind.u64.wrap (rd l1 x27_2)))) + (IntKind.u64.wrap (rd x5_2 (ji14))))) + x8_2)) / 4294967296) l0 (l0.length : Int) x20_1 l1 (l1.length : Int) (wrap64 (x27_2 + 1))) else (none)) else (none)) = some r := by first | (rw [hji14] at H; exact H) | (simp only [hji14] at H ⊢; exact H)
             have hji14w : (IntKind.i64.wrap (x20_1 + x27_2)) = ji14 := (i64_w _).trans hji14
             by_cases c15 : 0 ≤ (ji14)
             ·
              rw [if_pos c15] at H
              have c15b0 : decide (0 ≤ (ji14)) = true := decide_eq_true c15
              clear c15
              by_cases c16 : (ji14) < (x5_2.length : Int)
              ·
               rw [if_pos c16] at H
               have c16b0 : decide ((ji14) < (x5_2.length : Int)) = true := decide_eq_true c16
               clear c16
               obtain ⟨y344, hy344⟩ : ∃ y_ : List Int, y_ = (x5_2.set ((ji14) : Int).toNat ((IntKind.u64.wrap ((IntKind.u64.wrap ((IntKind.u64.wrap ((IntKind.u64.wrap ((rd l0 x20_1))) * (IntKind.u64.wrap (rd l1 x27_2)))) + (IntKind.u64.wrap (rd x5_2 (ji14))))) + x8_2)) % 4294967296)) := ⟨_, rfl⟩
               replace H : (nat_times.l1 k2 l1 y344 x20_1 (rd l0 x20_1) ((IntKind.u64.wrap ((IntKind.u64.wrap ((IntKind.u64.wrap ((IntKind.u64.wrap ((rd l0 x20_1))) * (IntKind.u64.wrap (rd l1 x27_2)))) + (IntKind.u64.wrap (rd x5_2 (ji14))))) + x8_2)) / 4294967296) l0 (l0.length : Int) x20_1 l1 (l1.length : Int) (wrap64 (x27_2 + 1))) = some r := by first | (rw [hy344]; with_reducible exact H) | (have H2_ := (Option.bind_some _ _).symm.trans H; rw [hy344]; with_reducible exact H2_) | (have H2_ := (Option.bind_some _ _).symm.trans H; with_reducible exact H2_) | with_reducible exact H | (rw [hy344]; exact H) | exact H
               have Ny344 := Aside0.mk hy344
               clear hy344
               have H' := Aside0.mk H
               clear H
               have p342 : 0 ≤ (x27_2 : Int) := of_decide_eq_true (by first | (with_reducible assumption) | assumption)
               have q342 : x27_2 < (l1.length : Int) := of_decide_eq_true (by first | (with_reducible assumption) | assumption)
               obtain ⟨ad342, e342, hx342_0⟩ := Kd.at_int HR1.out x27_2 p342 q342
               cases e342
               replace hx342_0 := (HB.out.cell (World.block_lt_of_cell? w _ hx342_0)).trans hx342_0
               replace p342 := eq_true p342
               replace q342 := eq_true q342
               obtain ⟨Ao18, co18, eo18⟩ := Kd.R_slice HO_5.out
               subst eo18
               have p343 : 0 ≤ ((ji14) : Int) := of_decide_eq_true (by first | (with_reducible assumption) | assumption)
               have q343 : (ji14) < (x5_2.length : Int) := of_decide_eq_true (by first | (with_reducible assumption) | assumption)
               obtain ⟨ad343, e343, hx343_0⟩ := Kd.at_int (Kd.R_reads' HO_5.out).2.2 (ji14) p343 q343
               cases e343
               replace p343 := eq_true p343
               replace q343 := eq_true q343
               have p17 : 0 ≤ ((ji14) : Int) := of_decide_eq_true (by first | (with_reducible assumption) | assumption)
               have q17 : ((ji14) : Int) < ((x5_2.length : Int) : Int) := of_decide_eq_true (by first | (with_reducible assumption) | assumption)
               obtain ⟨go17, co17, eo17, gb17, gl17, cl17, HG17⟩ := Kd.R_form HO_5.out (by omega)
               (first | cases eo17 | (injection eo17 with ea_ en_ ec_; (first | subst ea_ | (injection ea_ with ea_; subst ea_)); subst ec_; clear en_))
               have GB17 := Aside0.mk gb17
               have GG17 := Aside0.mk HG17
               clear gb17 gl17 HG17
               (first | simp only [add_plain] at hx343_0 | skip)
               obtain ⟨hx17_0, hf17_0⟩ := Kd.R_celln 0 HO_5.out ((ji14) : Int) p17 q17
               replace p17 := eq_true p17
               replace q17 := eq_true q17
               have HP19 := Kd.R_putg HO_5.out ((ji14) : Int) ((IntKind.u64.wrap ((IntKind.u64.wrap ((IntKind.u64.wrap ((IntKind.u64.wrap ((rd l0 x20_1))) * (IntKind.u64.wrap (rd l1 x27_2)))) + (IntKind.u64.wrap (rd x5_2 (ji14))))) + x8_2)) % 4294967296)
               go_wp2_with (first | ((with_reducible refine gate_store (t := 48) (p := 53) rfl ?_); refine store_event (t := 48) (p := 53) (v := ?vo_w20) (w1 := (wr.setCell ⟨go17, ((ji14) : Int).toNat, none⟩ (.int .u32 ((IntKind.u64.wrap ((IntKind.u64.wrap ((IntKind.u64.wrap ((IntKind.u64.wrap ((rd l0 x20_1))) * (IntKind.u64.wrap (rd l1 x27_2)))) + (IntKind.u64.wrap (rd x5_2 (ji14))))) + x8_2)) % 4294967296)))) ?hg ?ho ?hn ?hr ?_; (case ho => rfl); (case hg => rfl); (case hn => rfl); (case hr => first | (go_simp; done) | (go_simp; rfl)); intro w20 hw; have hg : wr.grownBy w20 (some go17) := (by rw [hw]; exact HP19.2); have hp_ : Kd.R (Kd.int .u32) 48 w20 w.heap.size (fun k_ => (w.heap.size ≤ k_)) (.slice (some ⟨go17, 0, none⟩) x5_2.length co18) y344 := (by rw [hw, Ny344.out]; exact HP19.1); clear HP19; replace HO_5 := Aside0.mk (hp_); replace HB := Aside0.mk ((by rw [hw]; exact below_set (HB.out) GB17.out : Below w.heap.size w w20)); clear hg hw hp_))
               go_roundg k2
               case measure => have := HK1.out; have := HK2.out; omega
               case rel => exact ⟨(y344), ((IntKind.u64.wrap ((IntKind.u64.wrap ((IntKind.u64.wrap ((IntKind.u64.wrap ((rd l0 x20_1))) * (IntKind.u64.wrap (rd l1 x27_2)))) + (IntKind.u64.wrap (rd x5_2 (ji14))))) + x8_2)) / 4294967296), (wrap64 (x27_2 + 1)), (by first | rfl | (simp; done) | (simp only [← hji14] <;> (first | rfl | simp)) | (simp [*]; done)), (by first | rfl | (simp; done) | (simp [*]; done)), H', ⟨by have := HK1.out; have := HK2.out; omega⟩, ⟨by (with_reducible repeat (first | apply Kd.R_alloc | apply Kd.R_drewN | apply Kd.R_drew)); exact HO_5.out⟩, ⟨by repeat (first | (with_reducible first | exact HB.out | apply below_alloc | apply pw_below_drewN | apply below_drew1) | exact HB.out)⟩⟩
              ·
               rw [if_neg c16] at H
               exact absurd H (by simp)
             ·
              rw [if_neg c15] at H
              exact absurd H (by simp)
            ·
             rw [if_neg c13] at H
             exact absurd H (by simp)
           ·
            rw [if_neg c12] at H
            exact absurd H (by simp)
          ·
           rw [if_neg c11] at H
           have c11b0 : decide (x27_2 < (l1.length : Int)) = false := decide_eq_false c11
           clear c11
           obtain ⟨ji21, hji21⟩ : ∃ j_ : Int, (wrap64 (x20_1 + (l1.length : Int))) = j_ := ⟨_, rfl⟩
           replace H : (if 0 ≤ (ji21) then (if (ji21) < (x5_2.length : Int) then (nat_times.l0 k2 l1 (x5_2.set ((ji21) : Int).toNat ((x8_2) % 4294967296)) l0 (l0.length : Int) (wrap64 (x20_1 + 1))) else (none)) else (none)) = some r := by first | (rw [hji21] at H; exact H) | (simp only [hji21] at H ⊢; exact H)
           have hji21w : (IntKind.i64.wrap (x20_1 + (l1.length : Int))) = ji21 := (i64_w _).trans hji21
           by_cases c22 : 0 ≤ (ji21)
           ·
            rw [if_pos c22] at H
            have c22b0 : decide (0 ≤ (ji21)) = true := decide_eq_true c22
            clear c22
            by_cases c23 : (ji21) < (x5_2.length : Int)
            ·
             rw [if_pos c23] at H
             have c23b0 : decide ((ji21) < (x5_2.length : Int)) = true := decide_eq_true c23
             clear c23
             obtain ⟨y345, hy345⟩ : ∃ y_ : List Int, y_ = (x5_2.set ((ji21) : Int).toNat ((x8_2) % 4294967296)) := ⟨_, rfl⟩
             replace H : (nat_times.l0 k2 l1 y345 l0 (l0.length : Int) (wrap64 (x20_1 + 1))) = some r := by first | (rw [hy345]; with_reducible exact H) | (have H2_ := (Option.bind_some _ _).symm.trans H; rw [hy345]; with_reducible exact H2_) | (have H2_ := (Option.bind_some _ _).symm.trans H; with_reducible exact H2_) | with_reducible exact H | (rw [hy345]; exact H) | exact H
             have Ny345 := Aside0.mk hy345
             clear hy345
             have H' := Aside0.mk H
             clear H
             have p24 : 0 ≤ ((ji21) : Int) := of_decide_eq_true (by first | (with_reducible assumption) | assumption)
             have q24 : ((ji21) : Int) < ((x5_2.length : Int) : Int) := of_decide_eq_true (by first | (with_reducible assumption) | assumption)
             obtain ⟨go24, co24, eo24, gb24, gl24, cl24, HG24⟩ := Kd.R_form HO_5.out (by omega)
             (first | cases eo24 | (injection eo24 with ea_ en_ ec_; (first | subst ea_ | (injection ea_ with ea_; subst ea_)); subst ec_; clear en_))
             have GB24 := Aside0.mk gb24
             have GG24 := Aside0.mk HG24
             clear gb24 gl24 HG24
             obtain ⟨hx24_0, hf24_0⟩ := Kd.R_celln 0 HO_5.out ((ji21) : Int) p24 q24
             replace p24 := eq_true p24
             replace q24 := eq_true q24
             have HP25 := Kd.R_putg HO_5.out ((ji21) : Int) ((x8_2) % 4294967296)
             go_wp2_with (first | ((with_reducible refine gate_store (t := 48) (p := 64) rfl ?_); refine store_event (t := 48) (p := 64) (v := ?vo_w26) (w1 := (wr.setCell ⟨go24, ((ji21) : Int).toNat, none⟩ (.int .u32 ((x8_2) % 4294967296)))) ?hg ?ho ?hn ?hr ?_; (case ho => rfl); (case hg => rfl); (case hn => rfl); (case hr => first | (go_simp; done) | (go_simp; rfl)); intro w26 hw; have hg : wr.grownBy w26 (some go24) := (by rw [hw]; exact HP25.2); have hp_ : Kd.R (Kd.int .u32) 48 w26 w.heap.size (fun k_ => (w.heap.size ≤ k_)) (.slice (some ⟨go24, 0, none⟩) x5_2.length co24) y345 := (by rw [hw, Ny345.out]; exact HP25.1); clear HP25; replace HO_5 := Aside0.mk (hp_); replace HB := Aside0.mk ((by rw [hw]; exact below_set (HB.out) GB24.out : Below w.heap.size w w26)); clear hg hw hp_))
             go_roundg k2
             case measure => have := HK1.out; have := HK2.out; omega
             case rel => exact ⟨(y345), (wrap64 (x20_1 + 1)), (by first | rfl | (simp; done) | (simp [*]; done)), H', ⟨by have := HK1.out; have := HK2.out; omega⟩, ⟨by (with_reducible repeat (first | apply Kd.R_alloc | apply Kd.R_drewN | apply Kd.R_drew)); exact HO_5.out⟩, ⟨by repeat (first | (with_reducible first | exact HB.out | apply below_alloc | apply pw_below_drewN | apply below_drew1) | exact HB.out)⟩⟩
            ·
             rw [if_neg c23] at H
             exact absurd H (by simp)
           ·
            rw [if_neg c22] at H
            exact absurd H (by simp)
       ·
        rw [if_neg c10] at H
        exact absurd H (by simp)
      ·
       rw [if_neg c9] at H
       exact absurd H (by simp)
     ·
      rw [if_neg c8] at H
      have c8b0 : decide (x20_1 < (l0.length : Int)) = false := decide_eq_false c8
      clear c8
      replace H := Option.bind_eq_some_iff.mp H
      obtain ⟨t338, A270, H⟩ := H
      replace H : (some t338) = some r := H
      have A27 := Aside0.mk A270
      clear A270
      obtain rfl := Option.some.inj H
      obtain ⟨Ao28, co28, eo28⟩ := Kd.R_slice HO_5.out
      subst eo28
      go_wp2_with (first | ((with_reducible refine gate_callee (f := 179) rfl ?_); refine goesL_ (some 67) rfl rfl Try.func179 (by kernel_rfl) rfl #[.slice Ao28 x5_1.length co28] rfl lu ?_; (with_reducible refine (nat_short.calls k1 (fun k_ => some k_ = (.slice Ao28 x5_1.length co28 : Value).ownBlock) _ _ x5_1 t338 _ ?side1 A27.out).mono ?_); (case side1 => exact Kd.R_V (Kd.R_tight rfl (HO_5.out))); rintro e w29 ⟨v339, rfl, ho0, hb⟩; refine ⟨_, rfl, ?_⟩; have HO340 := Aside0.mk (Kd.V_lower (Kd.V_mono (ok' := fun k_ => (w.heap.size ≤ k_)) ho0 (fun k_ hk_ => Or.elim hk_ (fun hs_ => ((HO_5.out).1 k_ hs_.symm)) (fun hn_ => (Nat.le_trans (below_size (bu HB.out)) hn_)))) (below_size (bu HB.out))); replace HO_5 := Aside0.mk (Kd.R_below (by (with_reducible repeat (first | apply Kd.R_alloc | apply Kd.R_drewN | apply Kd.R_drew)); exact HO_5.out) hb); replace HB := Aside0.mk (below_step (bu HB.out) hb); (try clear hb); (try clear hb2); (try clear hk); (try clear hi); (try clear ho0)))
      go_ret
      exact ⟨_, by first | rfl | (simp [errW_none, errW_some] <;> rfl) | (simp only [← hji3]; first | rfl | (simp [errW_none, errW_some] <;> rfl)) | (simp [*, errW_none, errW_some] <;> rfl), by (with_reducible repeat (first | apply Kd.V_alloc | apply Kd.V_drewN | apply Kd.V_drew)); exact HO340.out, by repeat (first | (with_reducible first | exact HB.out | apply below_alloc | apply pw_below_drewN | apply below_drew1) | exact HB.out)⟩
  ·
   rw [if_neg c5] at H
   exact absurd H (by simp)
 ·
  rw [if_neg c4] at H
  exact absurd H (by simp)
end Go.Proofs.Ytecfdemglbfnoaa.PT
end
section
namespace Go.Proofs.Ytecfdemglbfnoaa.PT
open Go.RowKit Go.Proofs.YtecfdemglbfnoaaW.PrintWords Go.Proofs.YtecfdemglbfnoaaW.PrintLast Go.Proofs.YtecfdemglbfnoaaW.PrintMore
attribute [local go_sem] max2_int min2_int max_two min_two max_three min_three max_four min_four   -- for this text's walks alone
set_option linter.unusedVariables false
set_option linter.unusedSimpArgs false
def nat_Mul.l0 : Nat → List Int → List (List Int) → Int → Int → Option (List Int)
 | 0, _, _, _, _ => none
 | k + 1, x3, x7, x8, x9 => if x9 < x8 then (if 0 ≤ x9 then (if x9 < (x7.length : Int) then ((nat_short.f k (rd_L4 x7 x9)).bind fun t350 => ((nat_times.f k x3 t350).bind fun t353 => (nat_Mul.l0 k t353 x7 x8 (wrap64 (x9 + 1))))) else (none)) else (none)) else ((nat_Trim.f k x3).bind fun t356 => (some t356))
def nat_Mul.f (k : Nat) (l0 : List (List Int)) : Option (List Int) := nat_Mul.l0 k (([1] : List Int)) l0 (l0.length : Int) 0
set_option maxHeartbeats 8000000 in
set_option maxRecDepth 100000 in
theorem nat_Mul.calls (k : Nat) (A0 : Option Addr) (c0 : Nat) (l0 : List (List Int)) (r : List Int) (w : World) (hr0 : Kd.C (Kd.slice 48 (Kd.int .u32)) w A0 l0.length l0) (hc0 : l0.length ≤ c0) (h : nat_Mul.f k l0 = some r) :
 Calls Try.prog 145 #[.slice A0 l0.length c0] w fun e w' => ∃ v0_ : Value, e = .returned (v0_) ∧ Kd.R (Kd.int .u32) 48 w' w.heap.size (fun _ => True) v0_ r ∧ Below w.heap.size w w' := by
 have HR0 := Aside0.mk hr0
 have HC0 := Aside0.mk hc0
 clear hr0 hc0
 have HB := Aside0.mk (Below.refl w.heap.size w)
 have H : (nat_Mul.l0 k (([1] : List Int)) l0 (l0.length : Int) 0) = some r := h
 clear h
 obtain ⟨y346, hy346⟩ : ∃ y_ : List Int, y_ = (([1] : List Int)) := ⟨_, rfl⟩
 replace H : (nat_Mul.l0 k y346 l0 (l0.length : Int) 0) = some r := by first | (rw [hy346]; with_reducible exact H) | (have H2_ := (Option.bind_some _ _).symm.trans H; rw [hy346]; with_reducible exact H2_) | (have H2_ := (Option.bind_some _ _).symm.trans H; with_reducible exact H2_) | with_reducible exact H | (rw [hy346]; exact H) | exact H
 have Ny346 := Aside0.mk hy346
 clear hy346
 have H' := Aside0.mk H
 clear H
 go_enter Try.func145, Try.ntmps145
 go_wp2_with (first | ((with_reducible refine gate_dst (N := 6) rfl ?_); refine Kd.R_lit (Kd.int .u32) _ 48 ?hg (N := 6) ?hd (xs := ([1] : List Int)) (inner := [.int .u32 1]) (ok := fun _ => True) (okp := fun _ => True) ?hr ?hp (fun _ hk => hk) trivial (Below.refl _ _) (Nat.le_refl _) (by simp) ?_; (case hd => rfl); (case hg => rfl); (case hr => first | (go_simp; done) | (go_simp; rfl)); (case hp => exact (Reps.one (show Kd.M (Kd.int .u32) _ _ _ 1 [.int .u32 1] from rfl) (Reps.none _ _))); intro v347 w2 ho3 hb hg_ hnew_; clear hg_ hnew_; (first | rw [← Ny346.out] at ho3 | (simp only [Int.reduceToNat] at ho3; rw [← Ny346.out] at ho3)); have HO348 := Aside0.mk (Kd.R_lower ho3 (below_size (bu HB.out))); replace HB := Aside0.mk (below_step (bu HB.out) hb); clear hb ho3))
 go_loopg [3, 9] k (fun kq v3 v9 w' => ∃ (x3_1 : List Int) (x9_1 : Int), v9 = .int .i64 x9_1 ∧ Aside0 (nat_Mul.l0 kq x3_1 l0 (l0.length : Int) x9_1 = some r) ∧ Aside0 (kq ≤ k) ∧ Aside0 (Kd.V (Kd.int .u32) 48 w' w.heap.size (fun _ => True) v3 x3_1) ∧ Aside0 (Below w.heap.size w w'))
 case atStart => exact ⟨(y346), (0), (by first | rfl | (simp; done) | (simp [*]; done)), H', ⟨Nat.le_refl _⟩, ⟨Kd.R_V (by (with_reducible repeat (first | apply Kd.R_alloc | apply Kd.R_drewN | apply Kd.R_drew)); exact HO348.out)⟩, ⟨by repeat (first | (with_reducible first | exact HB.out | apply below_alloc | apply pw_below_drewN | apply below_drew1) | exact HB.out)⟩⟩
 case round =>
  clear H'
  try clear c1
  try clear p2
  obtain ⟨x3_1, x9_1, rfl, HA, HK1, HO_3, HB⟩ := hrel
  cases gk with
  | zero => exact absurd HA.out (by simp [nat_Mul.l0])
  | succ k1 =>
   have H := HA.out
   clear HA
   simp only [nat_Mul.l0] at H
   by_cases c4 : x9_1 < (l0.length : Int)
   ·
    rw [if_pos c4] at H
    have c4b0 : decide (x9_1 < (l0.length : Int)) = true := decide_eq_true c4
    clear c4
    by_cases c5 : 0 ≤ x9_1
    ·
     rw [if_pos c5] at H
     have c5b0 : decide (0 ≤ x9_1) = true := decide_eq_true c5
     clear c5
     by_cases c6 : x9_1 < (l0.length : Int)
     ·
      rw [if_pos c6] at H
      have c6b0 : decide (x9_1 < (l0.length : Int)) = true := decide_eq_true c6
      clear c6
      replace H := Option.bind_eq_some_iff.mp H
      obtain ⟨t350, A70, H⟩ := H
      replace H : ((nat_times.f k1 x3_1 t350).bind fun t353 => (nat_Mul.l0 k1 t353 l0 (l0.length : Int) (wrap64 (x9_1 + 1)))) = some r := H
      have A7 := Aside0.mk A70
      clear A70
      replace H := Option.bind_eq_some_iff.mp H
      obtain ⟨t353, A80, H⟩ := H
      replace H : (nat_Mul.l0 k1 t353 l0 (l0.length : Int) (wrap64 (x9_1 + 1))) = some r := H
      have A8 := Aside0.mk A80
      clear A80
      have H' := Aside0.mk H
      clear H
      have p349 : 0 ≤ (x9_1 : Int) := of_decide_eq_true (by first | (with_reducible assumption) | assumption)
      have q349 : x9_1 < (l0.length : Int) := of_decide_eq_true (by first | (with_reducible assumption) | assumption)
      obtain ⟨ad349, A349_0, c349_0, e349, hx349_0, hl349_0, hi349_0⟩ := at_L4 HR0.out x9_1 p349 q349
      cases e349
      replace hx349_0 := (HB.out.cell (World.block_lt_of_cell? w _ hx349_0)).trans hx349_0
      have HR349_0 := Aside0.mk hi349_0
      have HC349_0 := Aside0.mk hl349_0
      clear hi349_0 hl349_0
      replace p349 := eq_true p349
      replace q349 := eq_true q349
      go_wp2_with (first | ((with_reducible refine gate_callee (f := 179) rfl ?_); refine goesL_ (some 15) rfl rfl Try.func179 (by kernel_rfl) rfl #[.slice A349_0 (rd_L4 l0 x9_1).length c349_0] rfl lu ?_; (with_reducible refine (nat_short.calls k1 (fun k_ => k_ < w.heap.size) _ _ (rd_L4 l0 x9_1) t350 _ ?side1 A7.out).mono ?_); (case side1 => exact Kd.V_mk HC349_0.out (Kd.F_below (Kd.C_F (Kd.heap_int .u32) HR349_0.out) (bu HB.out))); rintro e w9 ⟨v351, rfl, ho0, hb⟩; refine ⟨_, rfl, ?_⟩; replace HO_3 := Aside0.mk (Kd.V_below (vu HO_3.out) hb); have HO352 := Aside0.mk (Kd.V_lower (Kd.V_mono (ok' := fun k_ => True) ho0 (fun k_ hk_ => trivial)) (below_size (bu HB.out))); replace HB := Aside0.mk (below_step (bu HB.out) hb); (try clear hb); (try clear hb2); (try clear hk); (try clear hi); (try clear ho0); obtain ⟨Ao10, co10, eo10⟩ := Kd.V_slice HO_3.out; subst eo10; obtain ⟨Ao11, co11, eo11⟩ := Kd.V_slice HO352.out; subst eo11) | ((with_reducible refine gate_callee (f := 180) rfl ?_); refine goesL_ (some 16) rfl rfl Try.func180 (by kernel_rfl) rfl #[.slice Ao10 x3_1.length co10, .slice Ao11 t350.length co11] rfl lu ?_; (with_reducible refine (nat_times.calls k1 _ _ x3_1 _ _ t350 t353 _ ?side1 ?side2 ?side3 ?side4 A8.out).mono ?_); (case side1 => repeat (first | exact (Kd.V_reads' HO_3.out).2.2 | (with_reducible refine Kd.C_alloc ?_ _) | (with_reducible refine Kd.C_drewN ?_ _) | (with_reducible refine Kd.C_drew ?_))); (case side2 => exact (Kd.V_reads' HO_3.out).2.1); (case side3 => repeat (first | exact (Kd.V_reads' HO352.out).2.2 | (with_reducible refine Kd.C_alloc ?_ _) | (with_reducible refine Kd.C_drewN ?_ _) | (with_reducible refine Kd.C_drew ?_))); (case side4 => exact (Kd.V_reads' HO352.out).2.1); rintro e w12 ⟨v354, rfl, ho0, hb⟩; refine ⟨_, rfl, ?_⟩; replace HO_3 := Aside0.mk (Kd.V_below (vu HO_3.out) hb); replace HO352 := Aside0.mk (Kd.V_below (vu HO352.out) hb); have HO355 := Aside0.mk (Kd.V_lower (Kd.V_mono (ok' := fun k_ => True) ho0 (fun k_ hk_ => trivial)) (below_size (bu HB.out))); replace HB := Aside0.mk (below_step (bu HB.out) hb); (try clear hb); (try clear hb2); (try clear hk); (try clear hi); (try clear ho0)))
      go_roundg k1
      case measure => have := HK1.out; omega
      case rel => exact ⟨(t353), (wrap64 (x9_1 + 1)), (by first | rfl | (simp; done) | (simp [*]; done)), H', ⟨by have := HK1.out; omega⟩, ⟨by (with_reducible repeat (first | apply Kd.V_alloc | apply Kd.V_drewN | apply Kd.V_drew)); exact HO355.out⟩, ⟨by repeat (first | (with_reducible first | exact HB.out | apply below_alloc | apply pw_below_drewN | apply below_drew1) | exact HB.out)⟩⟩
     ·
      rw [if_neg c6] at H
      exact absurd H (by simp)
    ·
     rw [if_neg c5] at H
     exact absurd H (by simp)
   ·
    rw [if_neg c4] at H
    have c4b0 : decide (x9_1 < (l0.length : Int)) = false := decide_eq_false c4
    clear c4
    replace H := Option.bind_eq_some_iff.mp H
    obtain ⟨t356, A130, H⟩ := H
    replace H : (some t356) = some r := H
    have A13 := Aside0.mk A130
    clear A130
    obtain rfl := Option.some.inj H
    obtain ⟨Ao14, co14, eo14⟩ := Kd.V_slice HO_3.out
    subst eo14
    go_wp2_with (first | ((with_reducible refine gate_callee (f := 177) rfl ?_); refine goesL_ (some 19) rfl rfl Try.func177 (by kernel_rfl) rfl #[.slice Ao14 x3_1.length co14] rfl lu ?_; (with_reducible refine (nat_Trim.calls k1 _ _ x3_1 t356 _ ?side1 ?side2 A13.out).mono ?_); (case side1 => repeat (first | exact (Kd.V_reads' HO_3.out).2.2 | (with_reducible refine Kd.C_alloc ?_ _) | (with_reducible refine Kd.C_drewN ?_ _) | (with_reducible refine Kd.C_drew ?_))); (case side2 => exact (Kd.V_reads' HO_3.out).2.1); rintro e w15 ⟨v357, rfl, ho0, hb⟩; refine ⟨_, rfl, ?_⟩; replace HO_3 := Aside0.mk (Kd.V_elder' (vu HO_3.out) (Kd.R_base ho0) hb); have HO358 := Aside0.mk (Kd.R_lower ho0 (below_size (bu HB.out))); replace HB := Aside0.mk (below_step (bu HB.out) hb); (try clear hb); (try clear hb2); (try clear hk); (try clear hi); (try clear ho0)))
    go_ret
    exact ⟨_, by first | rfl | (simp [errW_none, errW_some] <;> rfl) | (simp [*, errW_none, errW_some] <;> rfl), by (with_reducible repeat (first | apply Kd.R_alloc | apply Kd.R_drewN | apply Kd.R_drew)); exact HO358.out, by repeat (first | (with_reducible first | exact HB.out | apply below_alloc | apply pw_below_drewN | apply below_drew1) | exact HB.out)⟩
end Go.Proofs.Ytecfdemglbfnoaa.PT
end
section
namespace Go.Proofs.Ytecfdemglbfnoaa.PT
open Go.RowKit Go.Proofs.YtecfdemglbfnoaaW.PrintWords Go.Proofs.YtecfdemglbfnoaaW.PrintLast Go.Proofs.YtecfdemglbfnoaaW.PrintMore
attribute [local go_sem] max2_int min2_int max_two min_two max_three min_three max_four min_four   -- for this text's walks alone
set_option linter.unusedVariables false
set_option linter.unusedSimpArgs false
def rational_one.f  : Option (List Int) := some (([1] : List Int))
set_option maxHeartbeats 8000000 in
set_option maxRecDepth 100000 in
theorem rational_one.calls  (r : List Int) (w : World) (h : rational_one.f  = some r) :
 Calls Try.prog 161 #[] w fun e w' => ∃ v0_ : Value, e = .returned (v0_) ∧ Kd.R (Kd.int .u32) 48 w' w.heap.size (fun _ => True) v0_ r ∧ Below w.heap.size w w' := by
 have HB := Aside0.mk (Below.refl w.heap.size w)
 have H : (some (([1] : List Int))) = some r := h
 clear h
 obtain ⟨y930, hy930⟩ : ∃ y_ : List Int, y_ = (([1] : List Int)) := ⟨_, rfl⟩
 replace H : (some y930) = some r := by first | (rw [hy930]; with_reducible exact H) | (have H2_ := (Option.bind_some _ _).symm.trans H; rw [hy930]; with_reducible exact H2_) | (have H2_ := (Option.bind_some _ _).symm.trans H; with_reducible exact H2_) | with_reducible exact H | (rw [hy930]; exact H) | exact H
 have Ny930 := Aside0.mk hy930
 clear hy930
 obtain rfl := Option.some.inj H
 go_enter Try.func161, Try.ntmps161
 go_wp2_with (first | ((with_reducible refine gate_dst (N := 1) rfl ?_); refine Kd.R_lit (Kd.int .u32) _ 48 ?hg (N := 1) ?hd (xs := ([1] : List Int)) (inner := [.int .u32 1]) (ok := fun _ => True) (okp := fun _ => True) ?hr ?hp (fun _ hk => hk) trivial (Below.refl _ _) (Nat.le_refl _) (by simp) ?_; (case hd => rfl); (case hg => rfl); (case hr => first | (go_simp; done) | (go_simp; rfl)); (case hp => exact (Reps.one (show Kd.M (Kd.int .u32) _ _ _ 1 [.int .u32 1] from rfl) (Reps.none _ _))); intro v931 w1 ho2 hb hg_ hnew_; clear hg_ hnew_; (first | rw [← Ny930.out] at ho2 | (simp only [Int.reduceToNat] at ho2; rw [← Ny930.out] at ho2)); have HO932 := Aside0.mk (Kd.R_lower ho2 (below_size (bu HB.out))); replace HB := Aside0.mk (below_step (bu HB.out) hb); clear hb ho2))
 go_ret
 exact ⟨_, by first | rfl | (simp [errW_none, errW_some] <;> rfl) | (simp [*, errW_none, errW_some] <;> rfl), by (with_reducible repeat (first | apply Kd.R_alloc | apply Kd.R_drewN | apply Kd.R_drew)); exact HO932.out, by repeat (first | (with_reducible first | exact HB.out | apply below_alloc | apply pw_below_drewN | apply below_drew1) | exact HB.out)⟩
end Go.Proofs.Ytecfdemglbfnoaa.PT
end
section
namespace Go.Proofs.Ytecfdemglbfnoaa.PT
open Go.RowKit Go.Proofs.YtecfdemglbfnoaaW.PrintWords Go.Proofs.YtecfdemglbfnoaaW.PrintLast Go.Proofs.YtecfdemglbfnoaaW.PrintMore
attribute [local go_sem] max2_int min2_int max_two min_two max_three min_three max_four min_four   -- for this text's walks alone
set_option linter.unusedVariables false
set_option linter.unusedSimpArgs false
def nat_Of.f (k : Nat) (a0 : Int) : Option (List Int) := (nat_Trim.f k (([(a0) % 4294967296, (a0 / 4294967296) % 4294967296] : List Int))).bind fun t272 => (some t272)
set_option maxHeartbeats 8000000 in
set_option maxRecDepth 100000 in
theorem nat_Of.calls (k : Nat) (a0 : Int) (r : List Int) (w : World) (h : nat_Of.f k a0 = some r) :
 Calls Try.prog 141 #[.int .u64 a0] w fun e w' => ∃ v0_ : Value, e = .returned (v0_) ∧ Kd.R (Kd.int .u32) 48 w' w.heap.size (fun _ => True) v0_ r ∧ Below w.heap.size w w' := by
 have HB := Aside0.mk (Below.refl w.heap.size w)
 have H : ((nat_Trim.f k (([(a0) % 4294967296, (a0 / 4294967296) % 4294967296] : List Int))).bind fun t272 => (some t272)) = some r := h
 clear h
 obtain ⟨y269, hy269⟩ : ∃ y_ : List Int, y_ = (([(a0) % 4294967296, (a0 / 4294967296) % 4294967296] : List Int)) := ⟨_, rfl⟩
 replace H : ((nat_Trim.f k y269).bind fun t272 => (some t272)) = some r := by first | (rw [hy269]; with_reducible exact H) | (have H2_ := (Option.bind_some _ _).symm.trans H; rw [hy269]; with_reducible exact H2_) | (have H2_ := (Option.bind_some _ _).symm.trans H; with_reducible exact H2_) | with_reducible exact H | (rw [hy269]; exact H) | exact H
 have Ny269 := Aside0.mk hy269
 clear hy269
 replace H := Option.bind_eq_some_iff.mp H
 obtain ⟨t272, A20, H⟩ := H
 replace H : (some t272) = some r := H
 have A2 := Aside0.mk A20
 clear A20
 obtain rfl := Option.some.inj H
 go_enter Try.func141, Try.ntmps141
 go_wp2_with (first | ((with_reducible refine gate_dst (N := 8) rfl ?_); refine Kd.R_lit (Kd.int .u32) _ 48 ?hg (N := 8) ?hd (xs := ([(a0) % 4294967296, (a0 / 4294967296) % 4294967296] : List Int)) (inner := [.int .u32 ((a0) % 4294967296), .int .u32 ((a0 / 4294967296) % 4294967296)]) (ok := fun _ => True) (okp := fun _ => True) ?hr ?hp (fun _ hk => hk) trivial (Below.refl _ _) (Nat.le_refl _) (by simp) ?_; (case hd => rfl); (case hg => rfl); (case hr => first | (go_simp; done) | (go_simp; rfl)); (case hp => exact (Reps.one (show Kd.M (Kd.int .u32) _ _ _ ((a0) % 4294967296) [.int .u32 ((a0) % 4294967296)] from rfl) (Reps.one (show Kd.M (Kd.int .u32) _ _ _ ((a0 / 4294967296) % 4294967296) [.int .u32 ((a0 / 4294967296) % 4294967296)] from rfl) (Reps.none _ _)))); intro v270 w3 ho4 hb hg_ hnew_; clear hg_ hnew_; (first | rw [← Ny269.out] at ho4 | (simp only [Int.reduceToNat] at ho4; rw [← Ny269.out] at ho4)); have HO271 := Aside0.mk (Kd.R_lower ho4 (below_size (bu HB.out))); replace HB := Aside0.mk (below_step (bu HB.out) hb); clear hb ho4; obtain ⟨Ao5, co5, eo5⟩ := Kd.R_slice HO271.out; subst eo5) | ((with_reducible refine gate_callee (f := 177) rfl ?_); refine goesL_ (some 9) rfl rfl Try.func177 (by kernel_rfl) rfl #[.slice Ao5 y269.length co5] rfl lu ?_; (with_reducible refine (nat_Trim.calls k _ _ y269 t272 _ ?side1 ?side2 A2.out).mono ?_); (case side1 => repeat (first | exact (Kd.R_reads' HO271.out).2.2 | (with_reducible refine Kd.C_alloc ?_ _) | (with_reducible refine Kd.C_drewN ?_ _) | (with_reducible refine Kd.C_drew ?_))); (case side2 => exact (Kd.R_reads' HO271.out).2.1); rintro e w6 ⟨v273, rfl, ho0, hb⟩; refine ⟨_, rfl, ?_⟩; have HO274 := Aside0.mk (Kd.R_lower (Kd.R_new' ho0 (Kd.R_lt (by (with_reducible repeat (first | apply Kd.R_alloc | apply Kd.R_drewN | apply Kd.R_drew)); exact HO271.out))) (below_size (bu HB.out))); replace HO271 := Aside0.mk (Kd.R_elder' (by (with_reducible repeat (first | apply Kd.R_alloc | apply Kd.R_drewN | apply Kd.R_drew)); exact HO271.out) (Kd.R_base ho0) hb); replace HB := Aside0.mk (below_step (bu HB.out) hb); (try clear hb); (try clear hb2); (try clear hk); (try clear hi); (try clear ho0)))
 go_ret
 exact ⟨_, by first | rfl | (simp [errW_none, errW_some] <;> rfl) | (simp [*, errW_none, errW_some] <;> rfl), by (with_reducible repeat (first | apply Kd.R_alloc | apply Kd.R_drewN | apply Kd.R_drew)); exact Kd.R_mono HO274.out (fun _ hk => trivial), by repeat (first | (with_reducible first | exact HB.out | apply below_alloc | apply pw_below_drewN | apply below_drew1) | exact HB.out)⟩
end Go.Proofs.Ytecfdemglbfnoaa.PT
end
section
namespace Go.Proofs.Ytecfdemglbfnoaa.PT
open Go.RowKit Go.Proofs.YtecfdemglbfnoaaW.PrintWords Go.Proofs.YtecfdemglbfnoaaW.PrintLast Go.Proofs.YtecfdemglbfnoaaW.PrintMore
attribute [local go_sem] max2_int min2_int max_two min_two max_three min_three max_four min_four   -- for this text's walks alone
set_option linter.unusedVariables false
set_option linter.unusedSimpArgs false
def nat_Cmp.l0 : Nat → List Int → List Int → Int → Option (Int)
 | 0, _, _, _ => none
 | k + 1, x0, x1, x5 => if x5 ≥ 0 then (if 0 ≤ x5 then (if x5 < (x0.length : Int) then (if x5 < (x1.length : Int) then (if (rd x0 x5) < (rd x1 x5) then (some (-1)) else (if (rd x0 x5) > (rd x1 x5) then (some 1) else (nat_Cmp.l0 k x0 x1 (wrap64 (x5 - 1))))) else (none)) else (none)) else (none)) else (some 0)
def nat_Cmp.f (k : Nat) (l0 : List Int) (l1 : List Int) : Option (Int) := (nat_short.f k l0).bind fun t377 => ((nat_short.f k l1).bind fun t380 => (if (t377.length : Int) = (t380.length : Int) then (nat_Cmp.l0 k t377 t380 (wrap64 ((t377.length : Int) - 1))) else (if (t377.length : Int) < (t380.length : Int) then (some (-1)) else (some 1))))
set_option maxHeartbeats 8000000 in
set_option maxRecDepth 100000 in
theorem nat_Cmp.calls (k : Nat) (A0 : Option Addr) (c0 : Nat) (l0 : List Int) (A1 : Option Addr) (c1 : Nat) (l1 : List Int) (r : Int) (w : World) (hr0 : Kd.C (Kd.int .u32) w A0 l0.length l0) (hc0 : l0.length ≤ c0) (hr1 : Kd.C (Kd.int .u32) w A1 l1.length l1) (hc1 : l1.length ≤ c1) (h : nat_Cmp.f k l0 l1 = some r) :
 Calls Try.prog 146 #[.slice A0 l0.length c0, .slice A1 l1.length c1] w fun e w' => e = .returned (.int .i64 r) ∧ Below w.heap.size w w' := by
 have HR0 := Aside0.mk hr0
 have HC0 := Aside0.mk hc0
 clear hr0 hc0
 have HR1 := Aside0.mk hr1
 have HC1 := Aside0.mk hc1
 clear hr1 hc1
 have HB := Aside0.mk (Below.refl w.heap.size w)
 have H : ((nat_short.f k l0).bind fun t377 => ((nat_short.f k l1).bind fun t380 => (if (t377.length : Int) = (t380.length : Int) then (nat_Cmp.l0 k t377 t380 (wrap64 ((t377.length : Int) - 1))) else (if (t377.length : Int) < (t380.length : Int) then (some (-1)) else (some 1))))) = some r := h
 clear h
 replace H := Option.bind_eq_some_iff.mp H
 obtain ⟨t377, A30, H⟩ := H
 replace H : ((nat_short.f k l1).bind fun t380 => (if (t377.length : Int) = (t380.length : Int) then (nat_Cmp.l0 k t377 t380 (wrap64 ((t377.length : Int) - 1))) else (if (t377.length : Int) < (t380.length : Int) then (some (-1)) else (some 1)))) = some r := H
 have A3 := Aside0.mk A30
 clear A30
 replace H := Option.bind_eq_some_iff.mp H
 obtain ⟨t380, A40, H⟩ := H
 replace H : (if (t377.length : Int) = (t380.length : Int) then (nat_Cmp.l0 k t377 t380 (wrap64 ((t377.length : Int) - 1))) else (if (t377.length : Int) < (t380.length : Int) then (some (-1)) else (some 1))) = some r := H
 have A4 := Aside0.mk A40
 clear A40
 by_cases c5 : (t377.length : Int) = (t380.length : Int)
 ·
  rw [if_pos c5] at H
  have c5b0 : ((t377.length : Int) == (t380.length : Int)) = true := beq_iff_eq.mpr c5
  have c5b1 : ((t377.length : Int) != (t380.length : Int)) = false := bne_eq_false_iff_eq.mpr c5
  have c5b2 : (t377.length == t380.length) = true := by first | simpa using c5 | (simp at c5 ⊢; omega)
  clear c5
  have H' := Aside0.mk H
  clear H
  go_enter Try.func146, Try.ntmps146
  go_wp2_with (first | (go_at_call 179; (with_reducible refine (nat_short.calls k (fun k_ => k_ < w.heap.size) _ _ l0 t377 _ ?side1 A3.out).mono ?_); (case side1 => exact Kd.V_mk HC0.out (Kd.F_below (Kd.C_F (Kd.heap_int .u32) HR0.out) (bu HB.out))); rintro e w6 ⟨v378, rfl, ho0, hb⟩; have HO379 := Aside0.mk (Kd.V_lower (Kd.V_mono (ok' := fun k_ => True) ho0 (fun k_ hk_ => trivial)) (below_size (bu HB.out))); replace HB := Aside0.mk (below_step (bu HB.out) hb); (try clear hb); (try clear hb2); (try clear hk); (try clear hi); (try clear ho0)) | (go_at_call 179; (with_reducible refine (nat_short.calls k (fun k_ => k_ < w.heap.size) _ _ l1 t380 _ ?side1 A4.out).mono ?_); (case side1 => exact Kd.V_mk HC1.out (Kd.F_below (Kd.C_F (Kd.heap_int .u32) HR1.out) (bu HB.out))); rintro e w7 ⟨v381, rfl, ho0, hb⟩; replace HO379 := Aside0.mk (Kd.V_below (vu HO379.out) hb); have HO382 := Aside0.mk (Kd.V_lower (Kd.V_mono (ok' := fun k_ => True) ho0 (fun k_ hk_ => trivial)) (below_size (bu HB.out))); replace HB := Aside0.mk (below_step (bu HB.out) hb); (try clear hb); (try clear hb2); (try clear hk); (try clear hi); (try clear ho0); obtain ⟨Ao8, co8, eo8⟩ := Kd.V_slice HO379.out; subst eo8; obtain ⟨Ao9, co9, eo9⟩ := Kd.V_slice HO382.out; subst eo9))
  repeat (go_quiet (first | (go_at_call 179; (with_reducible refine (nat_short.calls k (fun k_ => k_ < w.heap.size) _ _ l0 t377 _ ?side1 A3.out).mono ?_); (case side1 => exact Kd.V_mk HC0.out (Kd.F_below (Kd.C_F (Kd.heap_int .u32) HR0.out) (bu HB.out))); rintro e w6 ⟨v378, rfl, ho0, hb⟩; have HO379 := Aside0.mk (Kd.V_lower (Kd.V_mono (ok' := fun k_ => True) ho0 (fun k_ hk_ => trivial)) (below_size (bu HB.out))); replace HB := Aside0.mk (below_step (bu HB.out) hb); (try clear hb); (try clear hb2); (try clear hk); (try clear hi); (try clear ho0)) | (go_at_call 179; (with_reducible refine (nat_short.calls k (fun k_ => k_ < w.heap.size) _ _ l1 t380 _ ?side1 A4.out).mono ?_); (case side1 => exact Kd.V_mk HC1.out (Kd.F_below (Kd.C_F (Kd.heap_int .u32) HR1.out) (bu HB.out))); rintro e w7 ⟨v381, rfl, ho0, hb⟩; replace HO379 := Aside0.mk (Kd.V_below (vu HO379.out) hb); have HO382 := Aside0.mk (Kd.V_lower (Kd.V_mono (ok' := fun k_ => True) ho0 (fun k_ hk_ => trivial)) (below_size (bu HB.out))); replace HB := Aside0.mk (below_step (bu HB.out) hb); (try clear hb); (try clear hb2); (try clear hk); (try clear hi); (try clear ho0); obtain ⟨Ao8, co8, eo8⟩ := Kd.V_slice HO379.out; subst eo8; obtain ⟨Ao9, co9, eo9⟩ := Kd.V_slice HO382.out; subst eo9)); try go_wp2_with (first | (go_at_call 179; (with_reducible refine (nat_short.calls k (fun k_ => k_ < w.heap.size) _ _ l0 t377 _ ?side1 A3.out).mono ?_); (case side1 => exact Kd.V_mk HC0.out (Kd.F_below (Kd.C_F (Kd.heap_int .u32) HR0.out) (bu HB.out))); rintro e w6 ⟨v378, rfl, ho0, hb⟩; have HO379 := Aside0.mk (Kd.V_lower (Kd.V_mono (ok' := fun k_ => True) ho0 (fun k_ hk_ => trivial)) (below_size (bu HB.out))); replace HB := Aside0.mk (below_step (bu HB.out) hb); (try clear hb); (try clear hb2); (try clear hk); (try clear hi); (try clear ho0)) | (go_at_call 179; (with_reducible refine (nat_short.calls k (fun k_ => k_ < w.heap.size) _ _ l1 t380 _ ?side1 A4.out).mono ?_); (case side1 => exact Kd.V_mk HC1.out (Kd.F_below (Kd.C_F (Kd.heap_int .u32) HR1.out) (bu HB.out))); rintro e w7 ⟨v381, rfl, ho0, hb⟩; replace HO379 := Aside0.mk (Kd.V_below (vu HO379.out) hb); have HO382 := Aside0.mk (Kd.V_lower (Kd.V_mono (ok' := fun k_ => True) ho0 (fun k_ hk_ => trivial)) (below_size (bu HB.out))); replace HB := Aside0.mk (below_step (bu HB.out) hb); (try clear hb); (try clear hb2); (try clear hk); (try clear hi); (try clear ho0); obtain ⟨Ao8, co8, eo8⟩ := Kd.V_slice HO379.out; subst eo8; obtain ⟨Ao9, co9, eo9⟩ := Kd.V_slice HO382.out; subst eo9)))
  go_loopg [5] k (fun kq v5 w' => ∃ (x5_1 : Int), v5 = .int .i64 x5_1 ∧ Aside0 (nat_Cmp.l0 kq t377 t380 x5_1 = some r) ∧ Aside0 (kq ≤ k) ∧ Aside0 (Kd.V (Kd.int .u32) 48 w' w.heap.size (fun _ => True) (.slice Ao8 t377.length co8) t377) ∧ Aside0 (Kd.V (Kd.int .u32) 48 w' w.heap.size (fun _ => True) (.slice Ao9 t380.length co9) t380) ∧ Aside0 (Below w.heap.size w w'))
  case atStart => exact ⟨(wrap64 ((t377.length : Int) - 1)), (by first | rfl | (simp; done) | (simp [*]; done)), H', ⟨Nat.le_refl _⟩, ⟨by (with_reducible repeat (first | apply Kd.V_alloc | apply Kd.V_drewN | apply Kd.V_drew)); exact HO379.out⟩, ⟨by (with_reducible repeat (first | apply Kd.V_alloc | apply Kd.V_drewN | apply Kd.V_drew)); exact HO382.out⟩, ⟨by repeat (first | (with_reducible first | exact HB.out | apply below_alloc | apply pw_below_drewN | apply below_drew1) | exact HB.out)⟩⟩
  case round =>
   clear H'
   try clear c1
   try clear p2
   try clear c5
   try clear c5b0
   try clear c5b1
   try clear c5b2
   try clear p6
   obtain ⟨x5_1, rfl, HA, HK1, HO_0, HO_1, HB⟩ := hrel
   cases gk with
   | zero => exact absurd HA.out (by simp [nat_Cmp.l0])
   | succ k1 =>
    have H := HA.out
    clear HA
    simp only [nat_Cmp.l0] at H
    by_cases c10 : x5_1 ≥ 0
    ·
     rw [if_pos c10] at H
     have c10b0 : decide (0 ≤ x5_1) = true := decide_eq_true c10
     clear c10
     by_cases c11 : 0 ≤ x5_1
     ·
      rw [if_pos c11] at H
      have c11b0 : decide (0 ≤ x5_1) = true := decide_eq_true c11
      clear c11
      by_cases c12 : x5_1 < (t377.length : Int)
      ·
       rw [if_pos c12] at H
       have c12b0 : decide (x5_1 < (t377.length : Int)) = true := decide_eq_true c12
       clear c12
       by_cases c13 : x5_1 < (t380.length : Int)
       ·
        rw [if_pos c13] at H
        have c13b0 : decide (x5_1 < (t380.length : Int)) = true := decide_eq_true c13
        clear c13
        by_cases c14 : (rd t377 x5_1) < (rd t380 x5_1)
        ·
         rw [if_pos c14] at H
         have c14b0 : decide ((rd t377 x5_1) < (rd t380 x5_1)) = true := decide_eq_true c14
         clear c14
         obtain rfl := Option.some.inj H
         have p383 : 0 ≤ (x5_1 : Int) := of_decide_eq_true (by first | (with_reducible assumption) | assumption)
         have q383 : x5_1 < (t377.length : Int) := of_decide_eq_true (by first | (with_reducible assumption) | assumption)
         obtain ⟨ad383, e383, hx383_0⟩ := Kd.at_int (Kd.V_reads' HO_0.out).2.2 x5_1 p383 q383
         cases e383
         replace p383 := eq_true p383
         replace q383 := eq_true q383
         have p384 : 0 ≤ (x5_1 : Int) := of_decide_eq_true (by first | (with_reducible assumption) | assumption)
         have q384 : x5_1 < (t380.length : Int) := of_decide_eq_true (by first | (with_reducible assumption) | assumption)
         obtain ⟨ad384, e384, hx384_0⟩ := Kd.at_int (Kd.V_reads' HO_1.out).2.2 x5_1 p384 q384
         cases e384
         replace p384 := eq_true p384
         replace q384 := eq_true q384
         go_wp2
         repeat (go_quiet (fail); try go_wp2)
         go_ret
         exact ⟨by first | rfl | (simp [errW_none, errW_some] <;> rfl) | (simp [*, errW_none, errW_some] <;> rfl), by repeat (first | (with_reducible first | exact HB.out | apply below_alloc | apply pw_below_drewN | apply below_drew1) | exact HB.out)⟩
        ·
         rw [if_neg c14] at H
         have c14b0 : decide ((rd t377 x5_1) < (rd t380 x5_1)) = false := decide_eq_false c14
         clear c14
         by_cases c15 : (rd t377 x5_1) > (rd t380 x5_1)
         ·
          rw [if_pos c15] at H
          have c15b0 : decide ((rd t380 x5_1) < (rd t377 x5_1)) = true := decide_eq_true c15
          clear c15
          obtain rfl := Option.some.inj H
          have p383 : 0 ≤ (x5_1 : Int) := of_decide_eq_true (by first | (with_reducible assumption) | assumption)
          have q383 : x5_1 < (t377.length : Int) := of_decide_eq_true (by first | (with_reducible assumption) | assumption)
          obtain ⟨ad383, e383, hx383_0⟩ := Kd.at_int (Kd.V_reads' HO_0.out).2.2 x5_1 p383 q383
          cases e383
          replace p383 := eq_true p383
          replace q383 := eq_true q383
          have p384 : 0 ≤ (x5_1 : Int) := of_decide_eq_true (by first | (with_reducible assumption) | assumption)
          have q384 : x5_1 < (t380.length : Int) := of_decide_eq_true (by first | (with_reducible assumption) | assumption)
          obtain ⟨ad384, e384, hx384_0⟩ := Kd.at_int (Kd.V_reads' HO_1.out).2.2 x5_1 p384 q384
          cases e384
          replace p384 := eq_true p384
          replace q384 := eq_true q384
          have p385 : 0 ≤ (x5_1 : Int) := of_decide_eq_true (by first | (with_reducible assumption) | assumption)
          have q385 : x5_1 < (t377.length : Int) := of_decide_eq_true (by first | (with_reducible assumption) | assumption)
          obtain ⟨ad385, e385, hx385_0⟩ := Kd.at_int (Kd.V_reads' HO_0.out).2.2 x5_1 p385 q385
          obtain rfl : ad383 = ad385 := (by injection e385)
          replace p385 := eq_true p385
          replace q385 := eq_true q385
          have p386 : 0 ≤ (x5_1 : Int) := of_decide_eq_true (by first | (with_reducible assumption) | assumption)
          have q386 : x5_1 < (t380.length : Int) := of_decide_eq_true (by first | (with_reducible assumption) | assumption)
          obtain ⟨ad386, e386, hx386_0⟩ := Kd.at_int (Kd.V_reads' HO_1.out).2.2 x5_1 p386 q386
          obtain rfl : ad384 = ad386 := (by injection e386)
          replace p386 := eq_true p386
          replace q386 := eq_true q386
          go_wp2
          repeat (go_quiet (fail); try go_wp2)
          go_ret
          exact ⟨by first | rfl | (simp [errW_none, errW_some] <;> rfl) | (simp [*, errW_none, errW_some] <;> rfl), by repeat (first | (with_reducible first | exact HB.out | apply below_alloc | apply pw_below_drewN | apply below_drew1) | exact HB.out)⟩
         ·
          rw [if_neg c15] at H
          have c15b0 : decide ((rd t380 x5_1) < (rd t377 x5_1)) = false := decide_eq_false c15
          clear c15
          have H' := Aside0.mk H
          clear H
          have p383 : 0 ≤ (x5_1 : Int) := of_decide_eq_true (by first | (with_reducible assumption) | assumption)
          have q383 : x5_1 < (t377.length : Int) := of_decide_eq_true (by first | (with_reducible assumption) | assumption)
          obtain ⟨ad383, e383, hx383_0⟩ := Kd.at_int (Kd.V_reads' HO_0.out).2.2 x5_1 p383 q383
          cases e383
          replace p383 := eq_true p383
          replace q383 := eq_true q383
          have p384 : 0 ≤ (x5_1 : Int) := of_decide_eq_true (by first | (with_reducible assumption) | assumption)
          have q384 : x5_1 < (t380.length : Int) := of_decide_eq_true (by first | (with_reducible assumption) | assumption)
          obtain ⟨ad384, e384, hx384_0⟩ := Kd.at_int (Kd.V_reads' HO_1.out).2.2 x5_1 p384 q384
          cases e384
          replace p384 := eq_true p384
          replace q384 := eq_true q384
          have p385 : 0 ≤ (x5_1 : Int) := of_decide_eq_true (by first | (with_reducible assumption) | assumption)
          have q385 : x5_1 < (t377.length : Int) := of_decide_eq_true (by first | (with_reducible assumption) | assumption)
          obtain ⟨ad385, e385, hx385_0⟩ := Kd.at_int (Kd.V_reads' HO_0.out).2.2 x5_1 p385 q385
          obtain rfl : ad383 = ad385 := (by injection e385)
          replace p385 := eq_true p385
          replace q385 := eq_true q385
          have p386 : 0 ≤ (x5_1 : Int) := of_decide_eq_true (by first | (with_reducible assumption) | assumption)
          have q386 : x5_1 < (t380.length : Int) := of_decide_eq_true (by first | (with_reducible assumption) | assumption)
          obtain ⟨ad386, e386, hx386_0⟩ := Kd.at_int (Kd.V_reads' HO_1.out).2.2 x5_1 p386 q386
          obtain rfl : ad384 = ad386 := (by injection e386)
          replace p386 := eq_true p386
          replace q386 := eq_true q386
          go_wp2
          repeat (go_quiet (fail); try go_wp2)
          go_roundg k1
          case measure => have := HK1.out; omega
          case rel => exact ⟨(wrap64 (x5_1 - 1)), (by first | rfl | (simp; done) | (simp [*]; done)), H', ⟨by have := HK1.out; omega⟩, ⟨by (with_reducible repeat (first | apply Kd.V_alloc | apply Kd.V_drewN | apply Kd.V_drew)); exact HO_0.out⟩, ⟨by (with_reducible repeat (first | apply Kd.V_alloc | apply Kd.V_drewN | apply Kd.V_drew)); exact HO_1.out⟩, ⟨by repeat (first | (with_reducible first | exact HB.out | apply below_alloc | apply pw_below_drewN | apply below_drew1) | exact HB.out)⟩⟩
       ·
        rw [if_neg c13] at H
        exact absurd H (by simp)
      ·
       rw [if_neg c12] at H
       exact absurd H (by simp)
     ·
      rw [if_neg c11] at H
      exact absurd H (by simp)
    ·
     rw [if_neg c10] at H
     have c10b0 : decide (0 ≤ x5_1) = false := decide_eq_false c10
     clear c10
     obtain rfl := Option.some.inj H
     go_wp2
     repeat (go_quiet (fail); try go_wp2)
     go_ret
     exact ⟨by first | rfl | (simp [errW_none, errW_some] <;> rfl) | (simp [*, errW_none, errW_some] <;> rfl), by repeat (first | (with_reducible first | exact HB.out | apply below_alloc | apply pw_below_drewN | apply below_drew1) | exact HB.out)⟩
 ·
  rw [if_neg c5] at H
  have c5b0 : ((t377.length : Int) == (t380.length : Int)) = false := beq_eq_false_iff_ne.mpr c5
  have c5b1 : ((t377.length : Int) != (t380.length : Int)) = true := bne_iff_ne.mpr c5
  have c5b2 : (t377.length == t380.length) = false := by first | simpa using c5 | (simp at c5 ⊢; omega)
  by_cases c16 : (t377.length : Int) < (t380.length : Int)
  ·
   rw [if_pos c16] at H
   have c16b0 : decide ((t377.length : Int) < (t380.length : Int)) = true := decide_eq_true c16
   have c16b1 : decide (t377.length < t380.length) = true := decide_eq_true (Int.ofNat_lt.mp c16)
   clear c16
   obtain rfl := Option.some.inj H
   go_enter Try.func146, Try.ntmps146
   go_wp2_with (first | (go_at_call 179; (with_reducible refine (nat_short.calls k (fun k_ => k_ < w.heap.size) _ _ l0 t377 _ ?side1 A3.out).mono ?_); (case side1 => exact Kd.V_mk HC0.out (Kd.F_below (Kd.C_F (Kd.heap_int .u32) HR0.out) (bu HB.out))); rintro e w17 ⟨v378, rfl, ho0, hb⟩; have HO379 := Aside0.mk (Kd.V_lower (Kd.V_mono (ok' := fun k_ => True) ho0 (fun k_ hk_ => trivial)) (below_size (bu HB.out))); replace HB := Aside0.mk (below_step (bu HB.out) hb); (try clear hb); (try clear hb2); (try clear hk); (try clear hi); (try clear ho0)) | (go_at_call 179; (with_reducible refine (nat_short.calls k (fun k_ => k_ < w.heap.size) _ _ l1 t380 _ ?side1 A4.out).mono ?_); (case side1 => exact Kd.V_mk HC1.out (Kd.F_below (Kd.C_F (Kd.heap_int .u32) HR1.out) (bu HB.out))); rintro e w18 ⟨v381, rfl, ho0, hb⟩; replace HO379 := Aside0.mk (Kd.V_below (vu HO379.out) hb); have HO382 := Aside0.mk (Kd.V_lower (Kd.V_mono (ok' := fun k_ => True) ho0 (fun k_ hk_ => trivial)) (below_size (bu HB.out))); replace HB := Aside0.mk (below_step (bu HB.out) hb); (try clear hb); (try clear hb2); (try clear hk); (try clear hi); (try clear ho0); obtain ⟨Ao19, co19, eo19⟩ := Kd.V_slice HO379.out; subst eo19; obtain ⟨Ao20, co20, eo20⟩ := Kd.V_slice HO382.out; subst eo20))
   repeat (go_quiet (first | (go_at_call 179; (with_reducible refine (nat_short.calls k (fun k_ => k_ < w.heap.size) _ _ l0 t377 _ ?side1 A3.out).mono ?_); (case side1 => exact Kd.V_mk HC0.out (Kd.F_below (Kd.C_F (Kd.heap_int .u32) HR0.out) (bu HB.out))); rintro e w17 ⟨v378, rfl, ho0, hb⟩; have HO379 := Aside0.mk (Kd.V_lower (Kd.V_mono (ok' := fun k_ => True) ho0 (fun k_ hk_ => trivial)) (below_size (bu HB.out))); replace HB := Aside0.mk (below_step (bu HB.out) hb); (try clear hb); (try clear hb2); (try clear hk); (try clear hi); (try clear ho0)) | (go_at_call 179; (with_reducible refine (nat_short.calls k (fun k_ => k_ < w.heap.size) _ _ l1 t380 _ ?side1 A4.out).mono ?_); (case side1 => exact Kd.V_mk HC1.out (Kd.F_below (Kd.C_F (Kd.heap_int .u32) HR1.out) (bu HB.out))); rintro e w18 ⟨v381, rfl, ho0, hb⟩; replace HO379 := Aside0.mk (Kd.V_below (vu HO379.out) hb); have HO382 := Aside0.mk (Kd.V_lower (Kd.V_mono (ok' := fun k_ => True) ho0 (fun k_ hk_ => trivial)) (below_size (bu HB.out))); replace HB := Aside0.mk (below_step (bu HB.out) hb); (try clear hb); (try clear hb2); (try clear hk); (try clear hi); (try clear ho0); obtain ⟨Ao19, co19, eo19⟩ := Kd.V_slice HO379.out; subst eo19; obtain ⟨Ao20, co20, eo20⟩ := Kd.V_slice HO382.out; subst eo20)); try go_wp2_with (first | (go_at_call 179; (with_reducible refine (nat_short.calls k (fun k_ => k_ < w.heap.size) _ _ l0 t377 _ ?side1 A3.out).mono ?_); (case side1 => exact Kd.V_mk HC0.out (Kd.F_below (Kd.C_F (Kd.heap_int .u32) HR0.out) (bu HB.out))); rintro e w17 ⟨v378, rfl, ho0, hb⟩; have HO379 := Aside0.mk (Kd.V_lower (Kd.V_mono (ok' := fun k_ => True) ho0 (fun k_ hk_ => trivial)) (below_size (bu HB.out))); replace HB := Aside0.mk (below_step (bu HB.out) hb); (try clear hb); (try clear hb2); (try clear hk); (try clear hi); (try clear ho0)) | (go_at_call 179; (with_reducible refine (nat_short.calls k (fun k_ => k_ < w.heap.size) _ _ l1 t380 _ ?side1 A4.out).mono ?_); (case side1 => exact Kd.V_mk HC1.out (Kd.F_below (Kd.C_F (Kd.heap_int .u32) HR1.out) (bu HB.out))); rintro e w18 ⟨v381, rfl, ho0, hb⟩; replace HO379 := Aside0.mk (Kd.V_below (vu HO379.out) hb); have HO382 := Aside0.mk (Kd.V_lower (Kd.V_mono (ok' := fun k_ => True) ho0 (fun k_ hk_ => trivial)) (below_size (bu HB.out))); replace HB := Aside0.mk (below_step (bu HB.out) hb); (try clear hb); (try clear hb2); (try clear hk); (try clear hi); (try clear ho0); obtain ⟨Ao19, co19, eo19⟩ := Kd.V_slice HO379.out; subst eo19; obtain ⟨Ao20, co20, eo20⟩ := Kd.V_slice HO382.out; subst eo20)))
   go_ret
   exact ⟨by first | rfl | (simp [errW_none, errW_some] <;> rfl) | (simp [*, errW_none, errW_some] <;> rfl), by repeat (first | (with_reducible first | exact HB.out | apply below_alloc | apply pw_below_drewN | apply below_drew1) | exact HB.out)⟩
  ·
   rw [if_neg c16] at H
   have c16b0 : decide ((t377.length : Int) < (t380.length : Int)) = false := decide_eq_false c16
   have c16b1 : decide (t377.length < t380.length) = false := decide_eq_false (fun h => c16 (Int.ofNat_lt.mpr h))
   clear c16
   obtain rfl := Option.some.inj H
   go_enter Try.func146, Try.ntmps146
   go_wp2_with (first | (go_at_call 179; (with_reducible refine (nat_short.calls k (fun k_ => k_ < w.heap.size) _ _ l0 t377 _ ?side1 A3.out).mono ?_); (case side1 => exact Kd.V_mk HC0.out (Kd.F_below (Kd.C_F (Kd.heap_int .u32) HR0.out) (bu HB.out))); rintro e w21 ⟨v378, rfl, ho0, hb⟩; have HO379 := Aside0.mk (Kd.V_lower (Kd.V_mono (ok' := fun k_ => True) ho0 (fun k_ hk_ => trivial)) (below_size (bu HB.out))); replace HB := Aside0.mk (below_step (bu HB.out) hb); (try clear hb); (try clear hb2); (try clear hk); (try clear hi); (try clear ho0)) | (go_at_call 179; (with_reducible refine (nat_short.calls k (fun k_ => k_ < w.heap.size) _ _ l1 t380 _ ?side1 A4.out).mono ?_); (case side1 => exact Kd.V_mk HC1.out (Kd.F_below (Kd.C_F (Kd.heap_int .u32) HR1.out) (bu HB.out))); rintro e w22 ⟨v381, rfl, ho0, hb⟩; replace HO379 := Aside0.mk (Kd.V_below (vu HO379.out) hb); have HO382 := Aside0.mk (Kd.V_lower (Kd.V_mono (ok' := fun k_ => True) ho0 (fun k_ hk_ => trivial)) (below_size (bu HB.out))); replace HB := Aside0.mk (below_step (bu HB.out) hb); (try clear hb); (try clear hb2); (try clear hk); (try clear hi); (try clear ho0); obtain ⟨Ao23, co23, eo23⟩ := Kd.V_slice HO379.out; subst eo23; obtain ⟨Ao24, co24, eo24⟩ := Kd.V_slice HO382.out; subst eo24))
   repeat (go_quiet (first | (go_at_call 179; (with_reducible refine (nat_short.calls k (fun k_ => k_ < w.heap.size) _ _ l0 t377 _ ?side1 A3.out).mono ?_); (case side1 => exact Kd.V_mk HC0.out (Kd.F_below (Kd.C_F (Kd.heap_int .u32) HR0.out) (bu HB.out))); rintro e w21 ⟨v378, rfl, ho0, hb⟩; have HO379 := Aside0.mk (Kd.V_lower (Kd.V_mono (ok' := fun k_ => True) ho0 (fun k_ hk_ => trivial)) (below_size (bu HB.out))); replace HB := Aside0.mk (below_step (bu HB.out) hb); (try clear hb); (try clear hb2); (try clear hk); (try clear hi); (try clear ho0)) | (go_at_call 179; (with_reducible refine (nat_short.calls k (fun k_ => k_ < w.heap.size) _ _ l1 t380 _ ?side1 A4.out).mono ?_); (case side1 => exact Kd.V_mk HC1.out (Kd.F_below (Kd.C_F (Kd.heap_int .u32) HR1.out) (bu HB.out))); rintro e w22 ⟨v381, rfl, ho0, hb⟩; replace HO379 := Aside0.mk (Kd.V_below (vu HO379.out) hb); have HO382 := Aside0.mk (Kd.V_lower (Kd.V_mono (ok' := fun k_ => True) ho0 (fun k_ hk_ => trivial)) (below_size (bu HB.out))); replace HB := Aside0.mk (below_step (bu HB.out) hb); (try clear hb); (try clear hb2); (try clear hk); (try clear hi); (try clear ho0); obtain ⟨Ao23, co23, eo23⟩ := Kd.V_slice HO379.out; subst eo23; obtain ⟨Ao24, co24, eo24⟩ := Kd.V_slice HO382.out; subst eo24)); try go_wp2_with (first | (go_at_call 179; (with_reducible refine (nat_short.calls k (fun k_ => k_ < w.heap.size) _ _ l0 t377 _ ?side1 A3.out).mono ?_); (case side1 => exact Kd.V_mk HC0.out (Kd.F_below (Kd.C_F (Kd.heap_int .u32) HR0.out) (bu HB.out))); rintro e w21 ⟨v378, rfl, ho0, hb⟩; have HO379 := Aside0.mk (Kd.V_lower (Kd.V_mono (ok' := fun k_ => True) ho0 (fun k_ hk_ => trivial)) (below_size (bu HB.out))); replace HB := Aside0.mk (below_step (bu HB.out) hb); (try clear hb); (try clear hb2); (try clear hk); (try clear hi); (try clear ho0)) | (go_at_call 179; (with_reducible refine (nat_short.calls k (fun k_ => k_ < w.heap.size) _ _ l1 t380 _ ?side1 A4.out).mono ?_); (case side1 => exact Kd.V_mk HC1.out (Kd.F_below (Kd.C_F (Kd.heap_int .u32) HR1.out) (bu HB.out))); rintro e w22 ⟨v381, rfl, ho0, hb⟩; replace HO379 := Aside0.mk (Kd.V_below (vu HO379.out) hb); have HO382 := Aside0.mk (Kd.V_lower (Kd.V_mono (ok' := fun k_ => True) ho0 (fun k_ hk_ => trivial)) (below_size (bu HB.out))); replace HB := Aside0.mk (below_step (bu HB.out) hb); (try clear hb); (try clear hb2); (try clear hk); (try clear hi); (try clear ho0); obtain ⟨Ao23, co23, eo23⟩ := Kd.V_slice HO379.out; subst eo23; obtain ⟨Ao24, co24, eo24⟩ := Kd.V_slice HO382.out; subst eo24)))
   go_ret
   exact ⟨by first | rfl | (simp [errW_none, errW_some] <;> rfl) | (simp [*, errW_none, errW_some] <;> rfl), by repeat (first | (with_reducible first | exact HB.out | apply below_alloc | apply pw_below_drewN | apply below_drew1) | exact HB.out)⟩
end Go.Proofs.Ytecfdemglbfnoaa.PT
end
section
namespace Go.Proofs.Ytecfdemglbfnoaa.PT
open Go.RowKit Go.Proofs.YtecfdemglbfnoaaW.PrintWords Go.Proofs.YtecfdemglbfnoaaW.PrintLast Go.Proofs.YtecfdemglbfnoaaW.PrintMore
attribute [local go_sem] max2_int min2_int max_two min_two max_three min_three max_four min_four   -- for this text's walks alone
set_option linter.unusedVariables false
set_option linter.unusedSimpArgs false
def nat_digit.l0 : Nat → List Int → Int → List Int → Int → Int → Option (List Int × Int)
 | 0, _, _, _, _, _ => none
 | k + 1, x0, x1, x6, x7, x8 => if x8 ≥ 0 then (if 0 ≤ x8 then (if x8 < (x0.length : Int) then (if (IntKind.u64.wrap (x1)) = 0 then (none) else (if x8 < (x6.length : Int) then (nat_digit.l0 k x0 x1 (x6.set (x8 : Int).toNat ((IntKind.u64.wrap (Int.tdiv (Go.bits .or .u64 (IntKind.u64.wrap (x7 * 4294967296)) (IntKind.u64.wrap (rd x0 x8))) (IntKind.u64.wrap (x1)))) % 4294967296)) (Int.tmod (Go.bits .or .u64 (IntKind.u64.wrap (x7 * 4294967296)) (IntKind.u64.wrap (rd x0 x8))) (IntKind.u64.wrap (x1))) (wrap64 (x8 - 1))) else (none))) else (none)) else (none)) else ((nat_short.f k x6).bind fun t938 => (some (t938, (x7) % 4294967296)))
def nat_digit.f (k : Nat) (l0 : List Int) (a1 : Int) : Option (List Int × Int) := if 0 ≤ (l0.length : Int) then (if ((l0.length : Int) : Int).toNat ≤ 70368744177664 then (nat_digit.l0 k l0 a1 (List.replicate ((l0.length : Int) : Int).toNat 0) 0 (wrap64 ((l0.length : Int) - 1))) else (none)) else (none)
set_option maxHeartbeats 8000000 in
set_option maxRecDepth 100000 in
theorem nat_digit.calls (k : Nat) (A0 : Option Addr) (c0 : Nat) (l0 : List Int) (a1 : Int) (r1 : List Int) (r2 : Int) (w : World) (hr0 : Kd.C (Kd.int .u32) w A0 l0.length l0) (hc0 : l0.length ≤ c0) (h : nat_digit.f k l0 a1 = some (r1, r2)) :
 Calls Try.prog 186 #[.slice A0 l0.length c0, .int .u32 a1] w fun e w' => ∃ v0_ : Value, e = .returned (.tuple #[v0_, .int .u32 r2]) ∧ Kd.V (Kd.int .u32) 48 w' w.heap.size (fun k_ => (w.heap.size ≤ k_)) v0_ r1 ∧ Below w.heap.size w w' := by
 have HR0 := Aside0.mk hr0
 have HC0 := Aside0.mk hc0
 clear hr0 hc0
 have HB := Aside0.mk (Below.refl w.heap.size w)
 have H : (if 0 ≤ (l0.length : Int) then (if ((l0.length : Int) : Int).toNat ≤ 70368744177664 then (nat_digit.l0 k l0 a1 (List.replicate ((l0.length : Int) : Int).toNat 0) 0 (wrap64 ((l0.length : Int) - 1))) else (none)) else (none)) = some (r1, r2) := h
 clear h
 by_cases c3 : 0 ≤ (l0.length : Int)
 ·
  rw [if_pos c3] at H
  have c3b0 := eq_true c3
  have c3b1 : decide (0 ≤ (l0.length : Int)) = true := decide_eq_true c3
  clear c3
  by_cases c4 : ((l0.length : Int) : Int).toNat ≤ 70368744177664
  ·
   rw [if_pos c4] at H
   have c4b0 := eq_true c4
   have c4b1 : decide (((l0.length : Int) : Int).toNat ≤ 70368744177664) = true := decide_eq_true c4
   clear c4
   obtain ⟨y933, hy933⟩ : ∃ y_ : List Int, y_ = (List.replicate ((l0.length : Int) : Int).toNat 0) := ⟨_, rfl⟩
   replace H : (nat_digit.l0 k l0 a1 y933 0 (wrap64 ((l0.length : Int) - 1))) = some (r1, r2) := by first | (rw [hy933]; with_reducible exact H) | (have H2_ := (Option.bind_some _ _).symm.trans H; rw [hy933]; with_reducible exact H2_) | (have H2_ := (Option.bind_some _ _).symm.trans H; with_reducible exact H2_) | with_reducible exact H | (rw [hy933]; exact H) | exact H
   have Ny933 := Aside0.mk hy933
   clear hy933
   have H' := Aside0.mk H
   clear H
   go_enter Try.func186, Try.ntmps186
   go_wp2_with (first | ((with_reducible refine gate_dst (N := 11) rfl ?_); refine Kd.R_make (Kd.int .u32) _ 48 rfl (N := 11) rfl 42 _ _ rfl (l0.length : Int) rfl rfl Try.underlying42 (.int .u32 0) 4 info48 rfl (by decide) (by omega) 0 (ok := fun _ => True) (okp := fun _ => True) rfl (fun _ hk => hk) trivial (of_decide_eq_true (by first | (with_reducible assumption) | assumption)) (Nat.le_trans (Nat.mul_le_mul_right _ (of_decide_eq_true (by first | (with_reducible assumption) | assumption) : (l0.length : Int).toNat ≤ 70368744177664)) (by omega)) (Below.refl _ _) (Nat.le_refl _) ?_; intro v934 w5 ho6 hb hg_ hnew_; clear hg_ hnew_; (first | rw [← Ny933.out] at ho6 | (simp only [Int.reduceToNat] at ho6; rw [← Ny933.out] at ho6)); have HO935 := Aside0.mk (Kd.R_lower (Kd.R_newM (M := fun k_ => (w.heap.size ≤ k_)) ho6 (below_size (bu HB.out)) (fun k_ h_ => h_)) (below_size (bu HB.out))); replace HB := Aside0.mk (below_step (bu HB.out) hb); clear hb ho6))
   go_loopg [7, 8] k (fun kq v7 v8 w' => ∃ (x6_1 : List Int) (x7_1 : Int) (x8_1 : Int), v7 = .int .u64 x7_1 ∧ v8 = .int .i64 x8_1 ∧ Aside0 (nat_digit.l0 kq l0 a1 x6_1 x7_1 x8_1 = some (r1, r2)) ∧ Aside0 (kq ≤ k) ∧ Aside0 (Kd.R (Kd.int .u32) 48 w' w.heap.size (fun k_ => (w.heap.size ≤ k_)) v934 x6_1) ∧ Aside0 (Below w.heap.size w w'))
   case atStart => exact ⟨(y933), (0), (wrap64 ((l0.length : Int) - 1)), (by first | rfl | (simp; done) | (simp [*]; done)), (by first | rfl | (simp; done) | (simp [*]; done)), H', ⟨Nat.le_refl _⟩, ⟨by (with_reducible repeat (first | apply Kd.R_alloc | apply Kd.R_drewN | apply Kd.R_drew)); exact Kd.R_mono HO935.out (fun _ hk => hk.1)⟩, ⟨by repeat (first | (with_reducible first | exact HB.out | apply below_alloc | apply pw_below_drewN | apply below_drew1) | exact HB.out)⟩⟩
   case round =>
    clear H'
    try clear c1
    try clear p2
    try clear c3
    try clear c3b0
    try clear c3b1
    try clear c4
    try clear c4b0
    try clear c4b1
    try clear p6
    obtain ⟨x6_1, x7_1, x8_1, rfl, rfl, HA, HK1, HO_6, HB⟩ := hrel
    cases gk with
    | zero => exact absurd HA.out (by simp [nat_digit.l0])
    | succ k1 =>
     have H := HA.out
     clear HA
     simp only [nat_digit.l0] at H
     by_cases c7 : x8_1 ≥ 0
     ·
      rw [if_pos c7] at H
      have c7b0 : decide (0 ≤ x8_1) = true := decide_eq_true c7
      clear c7
      by_cases c8 : 0 ≤ x8_1
      ·
       rw [if_pos c8] at H
       have c8b0 : decide (0 ≤ x8_1) = true := decide_eq_true c8
       clear c8
       by_cases c9 : x8_1 < (l0.length : Int)
       ·
        rw [if_pos c9] at H
        have c9b0 : decide (x8_1 < (l0.length : Int)) = true := decide_eq_true c9
        clear c9
        by_cases c10 : (IntKind.u64.wrap (a1)) = 0
        ·
         rw [if_pos c10] at H
         exact absurd H (by simp)
        ·
         rw [if_neg c10] at H
         have c10b0 : ((IntKind.u64.wrap (a1)) == 0) = false := beq_eq_false_iff_ne.mpr c10
         have c10b1 : ((IntKind.u64.wrap (a1)) != 0) = true := bne_iff_ne.mpr c10
         by_cases c11 : x8_1 < (x6_1.length : Int)
         ·
          rw [if_pos c11] at H
          have c11b0 : decide (x8_1 < (x6_1.length : Int)) = true := decide_eq_true c11
          clear c11
          obtain ⟨y937, hy937⟩ : ∃ y_ : List Int, y_ = (x6_1.set (x8_1 : Int).toNat ((IntKind.u64.wrap (Int.tdiv (Go.bits .or .u64 (IntKind.u64.wrap (x7_1 * 4294967296)) (IntKind.u64.wrap (rd l0 x8_1))) (IntKind.u64.wrap (a1)))) % 4294967296)) := ⟨_, rfl⟩
          replace H : (nat_digit.l0 k1 l0 a1 y937 (Int.tmod (Go.bits .or .u64 (IntKind.u64.wrap (x7_1 * 4294967296)) (IntKind.u64.wrap (rd l0 x8_1))) (IntKind.u64.wrap (a1))) (wrap64 (x8_1 - 1))) = some (r1, r2) := by first | (rw [hy937]; with_reducible exact H) | (have H2_ := (Option.bind_some _ _).symm.trans H; rw [hy937]; with_reducible exact H2_) | (have H2_ := (Option.bind_some _ _).symm.trans H; with_reducible exact H2_) | with_reducible exact H | (rw [hy937]; exact H) | exact H
          have Ny937 := Aside0.mk hy937
          clear hy937
          have H' := Aside0.mk H
          clear H
          have p936 : 0 ≤ (x8_1 : Int) := of_decide_eq_true (by first | (with_reducible assumption) | assumption)
          have q936 : x8_1 < (l0.length : Int) := of_decide_eq_true (by first | (with_reducible assumption) | assumption)
          obtain ⟨ad936, e936, hx936_0⟩ := Kd.at_int HR0.out x8_1 p936 q936
          cases e936
          replace hx936_0 := (HB.out.cell (World.block_lt_of_cell? w _ hx936_0)).trans hx936_0
          replace p936 := eq_true p936
          replace q936 := eq_true q936
          have p12 : 0 ≤ (x8_1 : Int) := of_decide_eq_true (by first | (with_reducible assumption) | assumption)
          have q12 : (x8_1 : Int) < ((x6_1.length : Int) : Int) := of_decide_eq_true (by first | (with_reducible assumption) | assumption)
          obtain ⟨go12, co12, eo12, gb12, gl12, cl12, HG12⟩ := Kd.R_form HO_6.out (by omega)
          (first | cases eo12 | (injection eo12 with ea_ en_ ec_; (first | subst ea_ | (injection ea_ with ea_; subst ea_)); subst ec_; clear en_))
          have GB12 := Aside0.mk gb12
          have GG12 := Aside0.mk HG12
          clear gb12 gl12 HG12
          obtain ⟨hx12_0, hf12_0⟩ := Kd.R_celln 0 HO_6.out (x8_1 : Int) p12 q12
          replace p12 := eq_true p12
          replace q12 := eq_true q12
          have HP13 := Kd.R_putg HO_6.out (x8_1 : Int) ((IntKind.u64.wrap (Int.tdiv (Go.bits .or .u64 (IntKind.u64.wrap (x7_1 * 4294967296)) (IntKind.u64.wrap (rd l0 x8_1))) (IntKind.u64.wrap (a1)))) % 4294967296)
          go_wp2_with (first | ((with_reducible refine gate_store (t := 48) (p := 34) rfl ?_); refine store_event (t := 48) (p := 34) (v := ?vo_w14) (w1 := (wr.setCell ⟨go12, (x8_1 : Int).toNat, none⟩ (.int .u32 ((IntKind.u64.wrap (Int.tdiv (Go.bits .or .u64 (IntKind.u64.wrap (x7_1 * 4294967296)) (IntKind.u64.wrap (rd l0 x8_1))) (IntKind.u64.wrap (a1)))) % 4294967296)))) ?hg ?ho ?hn ?hr ?_; (case ho => rfl); (case hg => rfl); (case hn => rfl); (case hr => first | (go_simp; done) | (go_simp; rfl)); intro w14 hw; have hg : wr.grownBy w14 (some go12) := (by rw [hw]; exact HP13.2); have hp_ : Kd.R (Kd.int .u32) 48 w14 w.heap.size (fun k_ => (w.heap.size ≤ k_)) (.slice (some ⟨go12, 0, none⟩) x6_1.length co12) y937 := (by rw [hw, Ny937.out]; exact HP13.1); clear HP13; replace HO_6 := Aside0.mk (hp_); replace HB := Aside0.mk ((by rw [hw]; exact below_set (HB.out) GB12.out : Below w.heap.size w w14)); clear hg hw hp_))
          go_roundg k1
          case measure => have := HK1.out; omega
          case rel => exact ⟨(y937), (Int.tmod (Go.bits .or .u64 (IntKind.u64.wrap (x7_1 * 4294967296)) (IntKind.u64.wrap (rd l0 x8_1))) (IntKind.u64.wrap (a1))), (wrap64 (x8_1 - 1)), (by first | rfl | (simp; done) | (simp [*]; done)), (by first | rfl | (simp; done) | (simp [*]; done)), H', ⟨by have := HK1.out; omega⟩, ⟨by (with_reducible repeat (first | apply Kd.R_alloc | apply Kd.R_drewN | apply Kd.R_drew)); exact HO_6.out⟩, ⟨by repeat (first | (with_reducible first | exact HB.out | apply below_alloc | apply pw_below_drewN | apply below_drew1) | exact HB.out)⟩⟩
         ·
          rw [if_neg c11] at H
          exact absurd H (by simp)
       ·
        rw [if_neg c9] at H
        exact absurd H (by simp)
      ·
       rw [if_neg c8] at H
       exact absurd H (by simp)
     ·
      rw [if_neg c7] at H
      have c7b0 : decide (0 ≤ x8_1) = false := decide_eq_false c7
      clear c7
      replace H := Option.bind_eq_some_iff.mp H
      obtain ⟨t938, A150, H⟩ := H
      replace H : (some (t938, (x7_1) % 4294967296)) = some (r1, r2) := H
      have A15 := Aside0.mk A150
      clear A150
      simp only [Option.some.injEq, Prod.mk.injEq] at H
      obtain ⟨rfl, rfl⟩ := H
      obtain ⟨Ao16, co16, eo16⟩ := Kd.R_slice HO_6.out
      subst eo16
      go_wp2_with (first | ((with_reducible refine gate_callee (f := 179) rfl ?_); refine goesL_ (some 40) rfl rfl Try.func179 (by kernel_rfl) rfl #[.slice Ao16 x6_1.length co16] rfl lu ?_; (with_reducible refine (nat_short.calls k1 (fun k_ => some k_ = (.slice Ao16 x6_1.length co16 : Value).ownBlock) _ _ x6_1 t938 _ ?side1 A15.out).mono ?_); (case side1 => exact Kd.R_V (Kd.R_tight rfl (HO_6.out))); rintro e w17 ⟨v939, rfl, ho0, hb⟩; refine ⟨_, rfl, ?_⟩; have HO940 := Aside0.mk (Kd.V_lower (Kd.V_mono (ok' := fun k_ => (w.heap.size ≤ k_)) ho0 (fun k_ hk_ => Or.elim hk_ (fun hs_ => ((HO_6.out).1 k_ hs_.symm)) (fun hn_ => (Nat.le_trans (below_size (bu HB.out)) hn_)))) (below_size (bu HB.out))); replace HO_6 := Aside0.mk (Kd.R_below (by (with_reducible repeat (first | apply Kd.R_alloc | apply Kd.R_drewN | apply Kd.R_drew)); exact HO_6.out) hb); replace HB := Aside0.mk (below_step (bu HB.out) hb); (try clear hb); (try clear hb2); (try clear hk); (try clear hi); (try clear ho0)))
      go_ret2
      exact ⟨_, by first | rfl | (simp [errW_none, errW_some] <;> rfl) | (simp [*, errW_none, errW_some] <;> rfl), by (with_reducible repeat (first | apply Kd.V_alloc | apply Kd.V_drewN | apply Kd.V_drew)); exact HO940.out, by repeat (first | (with_reducible first | exact HB.out | apply below_alloc | apply pw_below_drewN | apply below_drew1) | exact HB.out)⟩
  ·
   rw [if_neg c4] at H
   exact absurd H (by simp)
 ·
  rw [if_neg c3] at H
  exact absurd H (by simp)
end Go.Proofs.Ytecfdemglbfnoaa.PT
end
section
namespace Go.Proofs.Ytecfdemglbfnoaa.PT
def valn : List Int → Nat
  | [] => 0
  | x :: xs => x.toNat + 4294967296 * valn xs
def padn : Nat → Nat → List Int
  | 0, _ => []
  | n + 1, m => (m % 4294967296 : Nat) :: padn n (m / 4294967296)
end Go.Proofs.Ytecfdemglbfnoaa.PT
namespace Go.Proofs.Ytecfdemglbfnoaa.Num
open Go.RowKit Go.Proofs.Ytecfdemglbfnoaa.PT Go.Proofs.YtecfdemglbfnoaaW.PrintWords
/-- The powers of the base. -/
def pw (n : Nat) : Nat := if h : n = 0 then 1 else pw (n - 1) * 4294967296
termination_by n
decreasing_by omega
theorem pw_zero : pw 0 = 1 := by rw [pw]; simp
theorem pw_succ (n : Nat) : pw (n + 1) = pw n * 4294967296 := by rw [pw]; simp
theorem pw_eq (n : Nat) : pw n = 4294967296 ^ n := by
  induction n with
  | zero => exact pw_zero
  | succ n ih => rw [pw_succ, ih, Nat.pow_succ]
theorem pw_pos (n : Nat) : 0 < pw n := by rw [pw_eq]; exact Nat.pow_pos (by decide)
theorem pw_mono {m n : Nat} (h : m ≤ n) : pw m ≤ pw n := by rw [pw_eq, pw_eq]; exact Nat.pow_le_pow_right (by decide) h
theorem pw_add (m n : Nat) : pw (m + n) = pw m * pw n := by rw [pw_eq, pw_eq, pw_eq]; exact Nat.pow_add ..
/-- Every entry is a limb. -/
def U (l : List Int) : Prop := ∀ x ∈ l, 0 ≤ x ∧ x < 4294967296
/-- The canonical limbs of a number. -/
def lb (n : Nat) : List Int := if h : n = 0 then [] else ((n % 4294967296 : Nat) : Int) :: lb (n / 4294967296)
termination_by n
decreasing_by omega
theorem lb_zero : lb 0 = [] := by rw [lb]; simp
theorem lb_pos {n : Nat} (h : n ≠ 0) : lb n = ((n % 4294967296 : Nat) : Int) :: lb (n / 4294967296) := by rw [lb]; simp [h]
theorem U_nil : U [] := by intro x hx; cases hx
theorem U_cons {x : Int} {l : List Int} (h : 0 ≤ x ∧ x < 4294967296) (hl : U l) : U (x :: l) := by
  intro y hy
  rcases List.mem_cons.1 hy with rfl | hy
  · exact h
  · exact hl y hy
theorem U_tail {x : Int} {l : List Int} (h : U (x :: l)) : U l := fun y hy => h y (List.mem_cons_of_mem _ hy)
theorem U_head {x : Int} {l : List Int} (h : U (x :: l)) : 0 ≤ x ∧ x < 4294967296 := h x (List.mem_cons_self ..)
theorem U_take {l : List Int} (h : U l) (n : Nat) : U (l.take n) := fun x hx => h x (List.mem_of_mem_take hx)
theorem U_drop {l : List Int} (h : U l) (n : Nat) : U (l.drop n) := fun x hx => h x (List.mem_of_mem_drop hx)
theorem U_append {a b : List Int} (ha : U a) (hb : U b) : U (a ++ b) := by
  intro x hx
  rcases List.mem_append.1 hx with h | h
  · exact ha x h
  · exact hb x h
theorem U_set {l : List Int} (h : U l) {d : Int} (hd : 0 ≤ d ∧ d < 4294967296) (i : Nat) : U (l.set i d) := by
  intro x hx
  rcases List.mem_or_eq_of_mem_set hx with h' | rfl
  · exact h x h'
  · exact hd
theorem U_replicate (n : Nat) : U (List.replicate n 0) := by
  intro x hx
  rw [List.eq_of_mem_replicate hx]; omega
theorem U_rd {l : List Int} (h : U l) (i : Int) : 0 ≤ rd l i ∧ rd l i < 4294967296 := by
  unfold rd
  by_cases hi : i.toNat < l.length
  · rw [List.getD_eq_getElem?_getD, List.getElem?_eq_getElem hi]; exact h _ (List.getElem_mem hi)
  · rw [List.getD_eq_getElem?_getD, List.getElem?_eq_none (by omega)]; simp
theorem U_lb (n : Nat) : U (lb n) := by
  induction n using Nat.strongRecOn with
  | ind n ih =>
    by_cases h : n = 0
    · subst h; rw [lb_zero]; exact U_nil
    · rw [lb_pos h]; exact U_cons (by omega) (ih _ (by omega))
theorem valn_nil : valn [] = 0 := rfl
theorem valn_cons (x : Int) (l : List Int) : valn (x :: l) = x.toNat + 4294967296 * valn l := rfl
theorem valn_lb (n : Nat) : valn (lb n) = n := by
  induction n using Nat.strongRecOn with
  | ind n ih =>
    by_cases h : n = 0
    · subst h; rw [lb_zero]; rfl
    · rw [lb_pos h, valn_cons, ih _ (by omega)]; omega
theorem lb_eq_nil {n : Nat} : lb n = [] ↔ n = 0 := by
  constructor
  · intro h; have := valn_lb n; rw [h] at this; exact this.symm
  · rintro rfl; exact lb_zero
theorem valn_append (a b : List Int) : valn (a ++ b) = valn a + pw a.length * valn b := by
  induction a with
  | nil => simp [valn_nil, pw_zero]
  | cons x a ih => rw [List.cons_append, valn_cons, ih, valn_cons, List.length_cons, pw_succ, Nat.mul_add, Nat.add_assoc, Nat.mul_comm (pw a.length) 4294967296, Nat.mul_assoc]
theorem valn_lt {l : List Int} (h : U l) : valn l < pw l.length := by
  induction l with
  | nil => simp [valn_nil, pw_zero]
  | cons x l ih =>
    have hx := U_head h
    have := ih (U_tail h)
    rw [valn_cons, List.length_cons, pw_succ]
    omega
theorem valn_replicate (n : Nat) : valn (List.replicate n 0) = 0 := by
  induction n with
  | zero => rfl
  | succ n ih => rw [List.replicate_succ, valn_cons, ih]; rfl
theorem valn_take_drop (l : List Int) (n : Nat) (h : n ≤ l.length) : valn l = valn (l.take n) + pw n * valn (l.drop n) := by
  conv => lhs; rw [← List.take_append_drop n l]
  rw [valn_append, List.length_take, Nat.min_eq_left h]
theorem rd_eq (l : List Int) (i : Nat) (h : i < l.length) : rd l (i : Int) = l[i] := by simp [rd, h]
theorem rd_ge (l : List Int) (i : Nat) (h : l.length ≤ i) : rd l (i : Int) = 0 := by simp [rd, h]
theorem take_rd (l : List Int) (i : Nat) (h : i < l.length) : l.take (i + 1) = l.take i ++ [rd l (i : Int)] := by
  rw [rd_eq l i h, List.take_add_one, List.getElem?_eq_getElem h]; rfl
theorem drop_rd (l : List Int) (i : Nat) (h : i < l.length) : l.drop i = rd l (i : Int) :: l.drop (i + 1) := by
  rw [rd_eq l i h]; exact List.drop_eq_getElem_cons h
theorem valn_take_succ (l : List Int) (i : Nat) : valn (l.take (i + 1)) = valn (l.take i) + pw i * (rd l (i : Int)).toNat := by
  by_cases h : i < l.length
  · rw [take_rd l i h, valn_append, List.length_take, Nat.min_eq_left (by omega), valn_cons, valn_nil]; simp
  · rw [rd_ge l i (by omega), List.take_of_length_le (by omega), List.take_of_length_le (by omega)]; simp
theorem valn_set_take (z : List Int) (i : Nat) (d : Int) (h : i < z.length) : valn ((z.set i d).take (i + 1)) = valn (z.take i) + pw i * d.toNat := by
  rw [valn_take_succ, List.take_set_of_le (Nat.le_refl _), rd_eq _ _ (by simpa using h), List.getElem_set_self]
theorem valn_drop_rd (l : List Int) (i : Nat) : valn (l.drop i) = (rd l (i : Int)).toNat + 4294967296 * valn (l.drop (i + 1)) := by
  by_cases h : i < l.length
  · rw [drop_rd l i h, valn_cons]
  · rw [rd_ge l i (by omega), List.drop_eq_nil_of_le (by omega), List.drop_eq_nil_of_le (by omega)]; rfl
theorem valn_set (z : List Int) (i : Nat) (d : Int) (h : i < z.length) : valn (z.set i d) + pw i * (rd z (i : Int)).toNat = valn z + pw i * d.toNat := by
  have h1 := valn_take_drop z (i + 1) (by omega)
  have h2 := valn_take_drop (z.set i d) (i + 1) (by rw [List.length_set]; omega)
  rw [valn_set_take z i d h, List.drop_set_of_lt (by omega)] at h2
  rw [valn_take_succ] at h1
  omega
theorem rd_set_eq (z : List Int) (i : Nat) (d : Int) (h : i < z.length) : rd (z.set i d) (i : Int) = d := by
  rw [rd_eq _ _ (by simpa using h), List.getElem_set_self]
/-- Canonical limbs are those of their value. -/
theorem lb_valn {l : List Int} (h : U l) (hl : l = [] ∨ l.getLast? ≠ some 0) : lb (valn l) = l := by
  induction l with
  | nil => exact lb_zero
  | cons x l ih =>
    have hx := U_head h
    have key : l = [] ∨ l.getLast? ≠ some 0 := by
      by_cases e : l = []
      · exact .inl e
      · right
        rcases hl with h' | h'
        · exact absurd h' (by simp)
        · rw [List.getLast?_cons] at h'
          cases hl2 : l.getLast? with
          | none => simp
          | some y => rw [hl2] at h'; simpa using h'
    have ih := ih (U_tail h) key
    have hne : valn (x :: l) ≠ 0 := by
      rw [valn_cons]
      by_cases e : l = []
      · subst e
        have : x ≠ 0 := by
          rintro rfl
          rcases hl with h' | h'
          · cases h'
          · exact h' rfl
        omega
      · have : valn l ≠ 0 := by
          intro h0
          rw [h0, lb_zero] at ih
          exact e ih.symm
        omega
    rw [lb_pos hne, valn_cons]
    have e1 : (x.toNat + 4294967296 * valn l) / 4294967296 = valn l := by omega
    have e2 : (((x.toNat + 4294967296 * valn l) % 4294967296 : Nat) : Int) = x := by omega
    rw [e1, e2, ih]
theorem lb_last (n : Nat) : lb n = [] ∨ (lb n).getLast? ≠ some 0 := by
  induction n using Nat.strongRecOn with
  | ind n ih =>
    by_cases h : n = 0
    · exact .inl (by rw [h, lb_zero])
    · right
      rw [lb_pos h, List.getLast?_cons]
      rcases ih (n / 4294967296) (by omega) with h' | h'
      · rw [h']
        have := lb_eq_nil.1 h'
        simp; omega
      · cases hl2 : (lb (n / 4294967296)).getLast? with
        | none =>
          have : lb (n / 4294967296) = [] := by simpa using hl2
          have := lb_eq_nil.1 this
          simp; omega
        | some y => rw [hl2] at h'; simpa using h'
/-- Zeros above leave the value. -/
theorem valn_take_of_zero (l : List Int) (n : Nat) (h : n ≤ l.length) (hz : valn (l.drop n) = 0) : valn (l.take n) = valn l := by
  rw [valn_take_drop l n h, hz]; simp
theorem lb_len_le {n : Nat} : ∀ {m : Nat}, n < pw m → (lb n).length ≤ m := by
  induction n using Nat.strongRecOn with
  | ind n ih =>
    intro m hm
    by_cases h : n = 0
    · rw [h, lb_zero]; simp
    · rw [lb_pos h, List.length_cons]
      cases m with
      | zero => rw [pw_zero] at hm; omega
      | succ m =>
        have : n / 4294967296 < pw m := by
          rw [pw_succ] at hm
          exact (Nat.div_lt_iff_lt_mul (by omega)).2 hm
        have := ih _ (by omega) this
        omega
theorem lb_len {l : List Int} (h : U l) : (lb (valn l)).length ≤ l.length := lb_len_le (valn_lt h)
theorem lt_pow_len (n : Nat) : n < pw (lb n).length := by
  have := valn_lt (U_lb n); rwa [valn_lb] at this
theorem pow_len_le {n : Nat} (h : n ≠ 0) : pw ((lb n).length - 1) ≤ n := by
  induction n using Nat.strongRecOn with
  | ind n ih =>
    rw [lb_pos h, List.length_cons, Nat.add_sub_cancel]
    by_cases h2 : n / 4294967296 = 0
    · rw [h2, lb_zero, List.length_nil, pw_zero]; omega
    · have := ih (n / 4294967296) (by omega) h2
      cases hL : (lb (n / 4294967296)).length with
      | zero => rw [pw_zero]; omega
      | succ m =>
        rw [hL, Nat.add_sub_cancel] at this
        rw [pw_succ]; omega
theorem len_lt_of_lt {m n : Nat} (h : (lb m).length < (lb n).length) : m < n := by
  by_cases h0 : n = 0
  · rw [h0, lb_zero] at h; simp at h
  have h1 := lt_pow_len m
  have h2 := pow_len_le h0
  have h3 : pw (lb m).length ≤ pw ((lb n).length - 1) := pw_mono (by omega)
  omega
theorem rd_lb_last {n : Nat} (h : n ≠ 0) : rd (lb n) (((lb n).length - 1 : Nat) : Int) ≠ 0 := by
  have hne : lb n ≠ [] := fun e => h (lb_eq_nil.1 e)
  have hlen : 0 < (lb n).length := List.length_pos_iff.2 hne
  rcases lb_last n with h' | h'
  · exact absurd h' hne
  · rw [rd_eq _ _ (by omega)]
    rw [List.getLast?_eq_getElem?, List.getElem?_eq_getElem (by omega)] at h'
    intro e; exact h' (by rw [e])
theorem padn_len (n m : Nat) : (padn n m).length = n := by
  induction n generalizing m with
  | zero => rfl
  | succ n ih => simp [padn, ih]
theorem U_padn (n m : Nat) : U (padn n m) := by
  induction n generalizing m with
  | zero => exact U_nil
  | succ n ih => exact U_cons (by omega) (ih _)
theorem valn_padn (n m : Nat) : valn (padn n m) = m % pw n := by
  induction n generalizing m with
  | zero => simp [padn, valn_nil, pw_zero, Nat.mod_one]
  | succ n ih =>
    rw [padn, valn_cons, ih, pw_succ, Nat.mul_comm (pw n), Nat.mod_mul]
    omega
theorem valn_padn_lt {n m : Nat} (h : m < pw n) : valn (padn n m) = m := by rw [valn_padn, Nat.mod_eq_of_lt h]
theorem padn_mod (n a b : Nat) : padn n (a + pw n * b) = padn n a := by
  induction n generalizing a with
  | zero => rfl
  | succ n ih =>
    rw [padn, padn, pw_succ, Nat.mul_right_comm]
    have e1 : (a + pw n * b * 4294967296) % 4294967296 = a % 4294967296 := by omega
    have e2 : (a + pw n * b * 4294967296) / 4294967296 = a / 4294967296 + pw n * b := by omega
    rw [e1, e2, ih]
/-- The limbs of a number, in a row of given length, are the only ones. -/
theorem padn_valn {l : List Int} (h : U l) : padn l.length (valn l) = l := by
  induction l with
  | nil => rfl
  | cons x l ih =>
    have hx := U_head h
    rw [List.length_cons, padn, valn_cons]
    have e1 : (x.toNat + 4294967296 * valn l) / 4294967296 = valn l := by omega
    have e2 : (((x.toNat + 4294967296 * valn l) % 4294967296 : Nat) : Int) = x := by omega
    rw [e1, e2, ih (U_tail h)]
end Go.Proofs.Ytecfdemglbfnoaa.Num
end
section
namespace Go.Proofs.Ytecfdemglbfnoaa.PT
open Go.RowKit Go.Proofs.YtecfdemglbfnoaaW.PrintWords Go.Proofs.YtecfdemglbfnoaaW.PrintLast Go.Proofs.YtecfdemglbfnoaaW.PrintMore
/-- zs with xs in place of what lies from o on. -/
def sp (zs : List Int) (o : Nat) (xs : List Int) : List Int := zs.take o ++ xs ++ zs.drop (o + xs.length)
theorem sp_len {zs xs : List Int} {o : Nat} (h : o + xs.length ≤ zs.length) : (sp zs o xs).length = zs.length := by
  simp only [sp, List.length_append, List.length_take, List.length_drop]; omega
theorem sp_get {zs xs : List Int} {o i : Nat} (h : o + xs.length ≤ zs.length) (hi : i < xs.length) : (sp zs o xs)[o + i]? = xs[i]? := by
  have ht : (zs.take o).length = o := by rw [List.length_take]; omega
  rw [sp, List.append_assoc, List.getElem?_append_right (by omega), ht, Nat.add_sub_cancel_left, List.getElem?_append_left hi]
theorem sp_rd {zs xs : List Int} {o i : Nat} (h : o + xs.length ≤ zs.length) (hi : i < xs.length) : rd (sp zs o xs) ((o + i : Nat) : Int) = rd xs (i : Int) := by
  unfold rd
  rw [List.getD_eq_getElem?_getD, List.getD_eq_getElem?_getD, Int.toNat_natCast, Int.toNat_natCast, sp_get h hi]
theorem sp_set {zs xs : List Int} {o i : Nat} (h : o + xs.length ≤ zs.length) (hi : i < xs.length) (v : Int) : (sp zs o xs).set (o + i) v = sp zs o (xs.set i v) := by
  have ht : (zs.take o).length = o := by rw [List.length_take]; omega
  rw [sp, sp, List.length_set, List.append_assoc, List.append_assoc, List.set_append_right _ _ (by omega), ht, Nat.add_sub_cancel_left, List.set_append_left _ _ hi]
theorem add_off (g o j : Nat) : (⟨g, o, none⟩ : Addr).add j = ⟨g, o + j, none⟩ := by unfold Addr.add; split <;> simp_all
section
variable {w : World} {base g N cap o : Nat} {ok : Nat → Prop} {zs xs : List Int}
theorem win_cell (h : Kd.R (Kd.int .u32) 48 w base ok (.slice (some ⟨g, 0, none⟩) N cap) (sp zs o xs)) (hl : o + xs.length ≤ zs.length) (i : Int) (h0 : 0 ≤ i) (h1 : i < (xs.length : Int)) :
    w.cell? ⟨g, o + i.toNat, none⟩ = some (.int .u32 (rd xs i)) ∧ w.frozen? ⟨g, o + i.toNat, none⟩ = false := by
  obtain ⟨j, rfl⟩ := Int.eq_ofNat_of_zero_le h0
  obtain ⟨hn, _⟩ := Kd.R_reads' h
  have := Kd.R_celln (0 : Int) h ((o + j : Nat) : Int) (by omega) (by rw [hn, sp_len hl]; omega)
  have e : rdOf (0 : Int) (sp zs o xs) ((o + j : Nat) : Int) = rd xs (j : Int) := sp_rd hl (by omega)
  rw [e] at this
  exact this
theorem win_put (h : Kd.R (Kd.int .u32) 48 w base ok (.slice (some ⟨g, 0, none⟩) N cap) (sp zs o xs)) (hl : o + xs.length ≤ zs.length) (i : Int) (h0 : 0 ≤ i) (h1 : i < (xs.length : Int)) (x : Int) :
    Kd.R (Kd.int .u32) 48 (w.setCell ⟨g, o + i.toNat, none⟩ (.int .u32 x)) base ok (.slice (some ⟨g, 0, none⟩) N cap) (sp zs o (xs.set i.toNat x)) ∧ w.grownBy (w.setCell ⟨g, o + i.toNat, none⟩ (.int .u32 x)) (some g) := by
  obtain ⟨j, rfl⟩ := Int.eq_ofNat_of_zero_le h0
  have := Kd.R_putg h ((o + j : Nat) : Int) x
  rw [Int.toNat_natCast, sp_set hl (by omega)] at this
  exact this
end
/-- The window of n limbs at o in the own row g, whose other limbs are those of zs. -/
def Wn (g o N cap n : Nat) (zs : List Int) (w : World) (base : Nat) (ok : Nat → Prop) (xs : List Int) : Prop :=
  xs.length = n ∧ o + n ≤ zs.length ∧ Kd.R (Kd.int .u32) 48 w base ok (.slice (some ⟨g, 0, none⟩) N cap) (sp zs o xs)
section
variable {w w' w1 : World} {base g N cap o n m : Nat} {ok ok' : Nat → Prop} {zs xs : List Int}
theorem Wn_alloc (h : Wn g o N cap n zs w base ok xs) (x : Obj) : Wn g o N cap n zs (w.alloc x) base ok xs := ⟨h.1, h.2.1, Kd.R_alloc h.2.2 x⟩
theorem Wn_drew (h : Wn g o N cap n zs w base ok xs) : Wn g o N cap n zs w.drew base ok xs := ⟨h.1, h.2.1, Kd.R_drew h.2.2⟩
theorem Wn_drewN (h : Wn g o N cap n zs w base ok xs) (m : Nat) : Wn g o N cap n zs (w.drewN m) base ok xs := ⟨h.1, h.2.1, Kd.R_drewN h.2.2 m⟩
theorem Wn_at (hq : w.drewN m = w') (h : Wn g o N cap n zs w base ok xs) : Wn g o N cap n zs w' base ok xs := by subst hq; exact Wn_drewN h m
theorem Wn_mono (h : Wn g o N cap n zs w base ok xs) (hm : ∀ k, ok k → ok' k) : Wn g o N cap n zs w base ok' xs := ⟨h.1, h.2.1, Kd.R_mono h.2.2 hm⟩
theorem Wn_cell (h : Wn g o N cap n zs w base ok xs) (i : Int) (h0 : 0 ≤ i) (h1 : i < (n : Int)) : w.cell? ⟨g, o + i.toNat, none⟩ = some (.int .u32 (rd xs i)) ∧ w.frozen? ⟨g, o + i.toNat, none⟩ = false :=
  win_cell h.2.2 (by rw [h.1]; exact h.2.1) i h0 (by rw [h.1]; exact h1)
theorem Wn_put (h : Wn g o N cap n zs w base ok xs) (i : Int) (h0 : 0 ≤ i) (h1 : i < (n : Int)) (x : Int) :
    Wn g o N cap n zs (w.setCell ⟨g, o + i.toNat, none⟩ (.int .u32 x)) base ok (xs.set i.toNat x) ∧ w.grownBy (w.setCell ⟨g, o + i.toNat, none⟩ (.int .u32 x)) (some g) := by
  have := win_put h.2.2 (by rw [h.1]; exact h.2.1) i h0 (by rw [h.1]; exact h1) x
  exact ⟨⟨by rw [List.length_set]; exact h.1, h.2.1, this.1⟩, this.2⟩
theorem Wn_ok (h : Wn g o N cap n zs w base ok xs) : ∀ k, some g = some k → ok k := fun k hk => h.2.2.1 k (by simpa [Value.ownBlock] using hk)
theorem Wn_base (h : Wn g o N cap n zs w base ok xs) : base ≤ g := Kd.R_base h.2.2 g rfl
end
end Go.Proofs.Ytecfdemglbfnoaa.PT
end
section
namespace Go.Proofs.Ytecfdemglbfnoaa.Num
/-- What the guess keeps: q is at least the true quotient. u = (top*B + u2)*p + ul, v = (v1*B + v2)*p + vl, ul and vl below p. -/
theorem guess_down {u v q r top v1 v2 u2 p ul vl : Nat} (hu : u = (top * 4294967296 + u2) * p + ul) (hul : ul < p) (hv : v = (v1 * 4294967296 + v2) * p + vl)
    (ht : q * v1 + r = top) (h : r * 4294967296 + u2 < q * v2) : u < q * v := by
  have h1 : top * 4294967296 + u2 + 1 ≤ q * (v1 * 4294967296 + v2) := by
    rw [← ht, Nat.add_mul, Nat.mul_add, Nat.mul_assoc]; omega
  have h2 : (top * 4294967296 + u2 + 1) * p ≤ q * (v1 * 4294967296 + v2) * p := Nat.mul_le_mul_right p h1
  have h3 : q * v = q * (v1 * 4294967296 + v2) * p + q * vl := by rw [hv, Nat.mul_add, Nat.mul_assoc]
  rw [Nat.add_mul] at h2
  omega
theorem guess_up {u v q r top v1 v2 u2 p ul vl : Nat} (hu : u = (top * 4294967296 + u2) * p + ul) (hv : v = (v1 * 4294967296 + v2) * p + vl) (hvl : vl < p)
    (ht : q * v1 + r = top) (h : q * v2 ≤ r * 4294967296 + u2) (hq : q ≤ 4294967295) (hv1 : 1 ≤ v1) : q * v < u + v := by
  have h1 : q * (v1 * 4294967296 + v2) ≤ top * 4294967296 + u2 := by
    rw [← ht, Nat.add_mul, Nat.mul_add, Nat.mul_assoc]; omega
  have h2 : q * (v1 * 4294967296 + v2) * p ≤ (top * 4294967296 + u2) * p := Nat.mul_le_mul_right p h1
  have h3 : q * v = q * (v1 * 4294967296 + v2) * p + q * vl := by rw [hv, Nat.mul_add, Nat.mul_assoc]
  have h4 : q * vl ≤ 4294967295 * p := Nat.mul_le_mul hq (Nat.le_of_lt hvl)
  have h5 : 1 * p ≤ v1 * p := Nat.mul_le_mul_right p hv1
  have h6 : v = v1 * p * 4294967296 + v2 * p + vl := by rw [hv, Nat.add_mul, Nat.mul_right_comm]
  have h7 : 0 < p := by omega
  omega
theorem quo_of {u v q : Nat} (h1 : q * v ≤ u) (h2 : u < q * v + v) : u / v = q ∧ u % v = u - q * v := by
  have hv : 0 < v := by omega
  have e : u / v = q := by
    rw [Nat.div_eq_iff hv]
    constructor
    · exact h1
    · omega
  refine ⟨e, ?_⟩
  have := Nat.div_add_mod u v
  rw [e, Nat.mul_comm] at this
  omega
end Go.Proofs.Ytecfdemglbfnoaa.Num
end
section
namespace Go.Proofs.Ytecfdemglbfnoaa.PT
open Go.RowKit Go.Proofs.YtecfdemglbfnoaaW.PrintWords Go.Proofs.YtecfdemglbfnoaaW.PrintLast Go.Proofs.YtecfdemglbfnoaaW.PrintMore
attribute [local go_sem] max2_int min2_int max_two min_two max_three min_three max_four min_four   -- for this text's walks alone
set_option linter.unusedVariables false
set_option linter.unusedSimpArgs false
end Go.Proofs.Ytecfdemglbfnoaa.PT
end
section
namespace Go.Proofs.Ytecfdemglbfnoaa.PT
open Go.RowKit Go.Proofs.YtecfdemglbfnoaaW.PrintWords Go.Proofs.YtecfdemglbfnoaaW.PrintLast Go.Proofs.YtecfdemglbfnoaaW.PrintMore
attribute [local go_sem] max2_int min2_int max_two min_two max_three min_three max_four min_four   -- for this text's walks alone
set_option linter.unusedVariables false
set_option linter.unusedSimpArgs false
end Go.Proofs.Ytecfdemglbfnoaa.PT
end
section
namespace Go.Proofs.Ytecfdemglbfnoaa.PT
open Go.RowKit Go.Proofs.YtecfdemglbfnoaaW.PrintWords Go.Proofs.YtecfdemglbfnoaaW.PrintLast Go.Proofs.YtecfdemglbfnoaaW.PrintMore
attribute [local go_sem] max2_int min2_int max_two min_two max_three min_three max_four min_four   -- for this text's walks alone
set_option linter.unusedVariables false
set_option linter.unusedSimpArgs false
end Go.Proofs.Ytecfdemglbfnoaa.PT
end
section
namespace Go.Proofs.Ytecfdemglbfnoaa.PT
open Go.RowKit Go.Proofs.YtecfdemglbfnoaaW.PrintWords Go.Proofs.YtecfdemglbfnoaaW.PrintLast Go.Proofs.YtecfdemglbfnoaaW.PrintMore
attribute [local go_sem] max2_int min2_int max_two min_two max_three min_three max_four min_four   -- for this text's walks alone
set_option linter.unusedVariables false
set_option linter.unusedSimpArgs false
end Go.Proofs.Ytecfdemglbfnoaa.PT
end
section
namespace Go.Proofs.Ytecfdemglbfnoaa.PT
open Go.RowKit Go.Proofs.YtecfdemglbfnoaaW.PrintWords Go.Proofs.YtecfdemglbfnoaaW.PrintLast Go.Proofs.YtecfdemglbfnoaaW.PrintMore
attribute [local go_sem] max2_int min2_int max_two min_two max_three min_three max_four min_four   -- for this text's walks alone
set_option linter.unusedVariables false
set_option linter.unusedSimpArgs false
end Go.Proofs.Ytecfdemglbfnoaa.PT
end
section
namespace Go.Proofs.Ytecfdemglbfnoaa.PT
open Go.RowKit Go.Proofs.YtecfdemglbfnoaaW.PrintWords Go.Proofs.YtecfdemglbfnoaaW.PrintLast Go.Proofs.YtecfdemglbfnoaaW.PrintMore
attribute [local go_sem] max2_int min2_int max_two min_two max_three min_three max_four min_four   -- for this text's walks alone
set_option linter.unusedVariables false
set_option linter.unusedSimpArgs false
end Go.Proofs.Ytecfdemglbfnoaa.PT
end
section
namespace Go.Proofs.Ytecfdemglbfnoaa.PT
open Go.RowKit Go.Proofs.YtecfdemglbfnoaaW.PrintWords Go.Proofs.YtecfdemglbfnoaaW.PrintLast Go.Proofs.YtecfdemglbfnoaaW.PrintMore
attribute [local go_sem] max2_int min2_int max_two min_two max_three min_three max_four min_four   -- for this text's walks alone
set_option linter.unusedVariables false
set_option linter.unusedSimpArgs false
end Go.Proofs.Ytecfdemglbfnoaa.PT
end
section
namespace Go.Proofs.Ytecfdemglbfnoaa.Num
open Go.RowKit Go.Proofs.Ytecfdemglbfnoaa.PT Go.Proofs.YtecfdemglbfnoaaW.PrintWords Go.Proofs.YtecfdemglbfnoaaW.PrintLast Go.Proofs.YtecfdemglbfnoaaW.PrintMore
theorem w64 {x : Int} (h : -9223372036854775808 ≤ x) (h' : x ≤ 9223372036854775807) : wrap64 x = x := by unfold wrap64; omega
theorem u64 {x : Int} (h : 0 ≤ x) (h' : x < 18446744073709551616) : IntKind.u64.wrap x = x := by
  have e : IntKind.u64.wrap x = x % 18446744073709551616 := by simp [IntKind.wrap, IntKind.bits, IntKind.signed]
  rw [e]; omega
theorem up (i : Nat) (h : i < 9223372036854775807) : wrap64 ((i : Int) + 1) = ((i + 1 : Nat) : Int) := by rw [w64 (by omega) (by omega)]; rfl
theorem dn (n : Nat) (h : n < 9223372036854775807) : wrap64 (((n + 1 : Nat) : Int) - 1) = (n : Int) := by rw [w64 (by omega) (by omega)]; omega
/-- A cut of l behind which only zeros lie, and whose last limb is none: the canonical limbs. -/
theorem cut_lb {l : List Int} (h : U l) (n : Nat) (hn : n ≤ l.length) (hz : valn (l.drop n) = 0) (hl : n = 0 ∨ rd l ((n - 1 : Nat) : Int) ≠ 0) : l.take n = lb (valn l) := by
  rw [← valn_take_of_zero l n hn hz]
  refine (lb_valn (U_take h n) ?_).symm
  rcases hl with rfl | hl
  · left; simp
  · by_cases h0 : n = 0
    · left; subst h0; simp
    · right
      have e : n - 1 + 1 = n := by omega
      rw [← e, take_rd l (n - 1) (by omega), List.getLast?_append]
      simpa using hl
theorem short_l0 {l : List Int} (h : U l) (hs : l.length ≤ 9223372036854775807) : ∀ n : Nat, n ≤ l.length → valn (l.drop n) = 0 → Ev (fun k => nat_short.l0 k l (n : Int)) (lb (valn l)) := by
  intro n
  induction n with
  | zero =>
    intro hn hz
    rw [← cut_lb h 0 hn hz (.inl rfl)]
    refine Ev.step (f := fun _ => some (l.take 0)) (fun k => ?_) (Ev.now _)
    simp only [nat_short.l0]
    rw [if_neg (by omega), if_pos (by omega), if_pos (by omega)]; rfl
  | succ n ih =>
    intro hn hz
    by_cases e : rd l (n : Int) = 0
    · refine Ev.step (f := fun k => nat_short.l0 k l (n : Int)) (fun k => ?_) (ih (by omega) (by rw [valn_drop_rd, e, hz]; rfl))
      simp only [nat_short.l0]
      rw [if_pos (by omega), dn n (by omega), if_pos (by omega), if_pos (by omega), if_pos e]
    · rw [← cut_lb h (n + 1) hn hz (.inr (by simpa using e))]
      refine Ev.step (f := fun _ => some (l.take (n + 1))) (fun k => ?_) (Ev.now _)
      simp only [nat_short.l0]
      rw [if_pos (by omega), dn n (by omega), if_pos (by omega), if_pos (by omega), if_neg e, if_pos (by omega), if_pos (by omega)]; rfl
theorem short_f {l : List Int} (h : U l) (hs : l.length ≤ 9223372036854775807) : Ev (fun k => nat_short.f k l) (lb (valn l)) :=
  short_l0 h hs l.length (Nat.le_refl _) (by simp [valn_nil])
theorem Trim_f {l : List Int} (h : U l) (hs : l.length < 35184372088832) : Ev (fun k => nat_Trim.f k l) (lb (valn l)) := by
  unfold nat_Trim.f
  refine Ev.bind (short_f h (by omega)) ?_
  have := lb_len h
  refine Ev.congr (f := fun _ => some (lb (valn l))) (fun k => ?_) (Ev.now _)
  rw [if_pos (by simpa using Nat.lt_of_le_of_lt this hs)]; rfl
theorem valn_two (n : Nat) (h : n < 18446744073709551616) : valn [((n : Int)) % 4294967296, ((n : Int) / 4294967296) % 4294967296] = n := by
  simp only [valn_cons, valn_nil]; omega
theorem Of_f (n : Nat) (h : n < 18446744073709551616) : Ev (fun k => nat_Of.f k (n : Int)) (lb n) := by
  unfold nat_Of.f
  have := Trim_f (l := [((n : Int)) % 4294967296, ((n : Int) / 4294967296) % 4294967296]) (U_cons (by omega) (U_cons (by omega) U_nil)) (by simp)
  rw [valn_two n h] at this
  exact Ev.bind this (Ev.now _)
theorem step_val {p T S1 S2 a b c d c' : Nat} (h : T + p * c = S1 + S2) (e : a + b + c = d + 4294967296 * c') : (T + p * d) + p * 4294967296 * c' = (S1 + p * a) + (S2 + p * b) := by
  have h1 : p * (a + b + c) = p * (d + 4294967296 * c') := by rw [e]
  simp only [Nat.mul_add] at h1
  have h2 : p * (4294967296 * c') = p * 4294967296 * c' := by rw [Nat.mul_assoc]
  omega
theorem rdL4_at (ls : List (List Int)) (i : Nat) (h : i < ls.length) : ls.drop i = rd_L4 ls (i : Int) :: ls.drop (i + 1) := by
  simp [rd_L4, h]
theorem rdL4_mem (ls : List (List Int)) (i : Nat) (h : i < ls.length) : rd_L4 ls (i : Int) ∈ ls := by simp [rd_L4, h]
end Go.Proofs.Ytecfdemglbfnoaa.Num
end
section
namespace Go.Proofs.Ytecfdemglbfnoaa.PT
open Go.RowKit Go.Proofs.YtecfdemglbfnoaaW.PrintWords Go.Proofs.YtecfdemglbfnoaaW.PrintLast Go.Proofs.YtecfdemglbfnoaaW.PrintMore
attribute [local go_sem] max2_int min2_int max_two min_two max_three min_three max_four min_four   -- for this text's walks alone
set_option linter.unusedVariables false
set_option linter.unusedSimpArgs false
def nat_shift.l0 : Nat → List Int → Int → List Int → Int → List Int → Int → Int → Option (List Int)
 | 0, _, _, _, _, _, _, _ => none
 | k + 1, x0, x1, x5, x6, x14, x15, x16 => if x16 < x15 then (if 0 ≤ x16 then (if x16 < (x14.length : Int) then (if 0 ≤ x1 then (if x16 < (x5.length : Int) then (nat_shift.l0 k x0 x1 (x5.set (x16 : Int).toNat ((Go.bits .or .u64 (shl .u64 (IntKind.u64.wrap (rd x14 x16)) x1) x6) % 4294967296)) ((Go.bits .or .u64 (shl .u64 (IntKind.u64.wrap (rd x14 x16)) x1) x6) / 4294967296) x14 x15 (wrap64 (x16 + 1))) else (none)) else (none)) else (none)) else (none)) else (if 0 ≤ (x0.length : Int) then (if (x0.length : Int) < (x5.length : Int) then (some (x5.set ((x0.length : Int) : Int).toNat ((x6) % 4294967296))) else (none)) else (none))
def nat_shift.f (k : Nat) (l0 : List Int) (a1 : Int) : Option (List Int) := if 0 ≤ (wrap64 ((l0.length : Int) + 1)) then (if (wrap64 ((l0.length : Int) + 1) : Int).toNat ≤ 70368744177664 then (nat_shift.l0 k l0 a1 (List.replicate (wrap64 ((l0.length : Int) + 1) : Int).toNat 0) 0 l0 (l0.length : Int) 0) else (none)) else (none)
set_option maxHeartbeats 8000000 in
set_option maxRecDepth 100000 in
theorem nat_shift.calls (k : Nat) (A0 : Option Addr) (c0 : Nat) (l0 : List Int) (a1 : Int) (r : List Int) (w : World) (hr0 : Kd.C (Kd.int .u32) w A0 l0.length l0) (hc0 : l0.length ≤ c0) (h : nat_shift.f k l0 a1 = some r) :
 Calls Try.prog 189 #[.slice A0 l0.length c0, .int .i64 a1] w fun e w' => ∃ v0_ : Value, e = .returned (v0_) ∧ Kd.R (Kd.int .u32) 48 w' w.heap.size (fun _ => True) v0_ r ∧ Below w.heap.size w w' := by
 have HR0 := Aside0.mk hr0
 have HC0 := Aside0.mk hc0
 clear hr0 hc0
 have HB := Aside0.mk (Below.refl w.heap.size w)
 have H : (if 0 ≤ (wrap64 ((l0.length : Int) + 1)) then (if (wrap64 ((l0.length : Int) + 1) : Int).toNat ≤ 70368744177664 then (nat_shift.l0 k l0 a1 (List.replicate (wrap64 ((l0.length : Int) + 1) : Int).toNat 0) 0 l0 (l0.length : Int) 0) else (none)) else (none)) = some r := h
 clear h
 obtain ⟨ji3, hji3⟩ : ∃ j_ : Int, (wrap64 ((l0.length : Int) + 1)) = j_ := ⟨_, rfl⟩
 replace H : (if 0 ≤ (ji3) then (if (ji3 : Int).toNat ≤ 70368744177664 then (nat_shift.l0 k l0 a1 (List.replicate (ji3 : Int).toNat 0) 0 l0 (l0.length : Int) 0) else (none)) else (none)) = some r := by first | (rw [hji3] at H; exact H) | (simp only [hji3] at H ⊢; exact H)
 have hji3w : (IntKind.i64.wrap ((l0.length : Int) + 1)) = ji3 := (i64_w _).trans hji3
 by_cases c4 : 0 ≤ (ji3)
 ·
  rw [if_pos c4] at H
  have c4b0 := eq_true c4
  have c4b1 : decide (0 ≤ (ji3)) = true := decide_eq_true c4
  clear c4
  by_cases c5 : (ji3 : Int).toNat ≤ 70368744177664
  ·
   rw [if_pos c5] at H
   have c5b0 := eq_true c5
   have c5b1 : decide ((ji3 : Int).toNat ≤ 70368744177664) = true := decide_eq_true c5
   clear c5
   obtain ⟨y942, hy942⟩ : ∃ y_ : List Int, y_ = (List.replicate (ji3 : Int).toNat 0) := ⟨_, rfl⟩
   replace H : (nat_shift.l0 k l0 a1 y942 0 l0 (l0.length : Int) 0) = some r := by first | (rw [hy942]; with_reducible exact H) | (have H2_ := (Option.bind_some _ _).symm.trans H; rw [hy942]; with_reducible exact H2_) | (have H2_ := (Option.bind_some _ _).symm.trans H; with_reducible exact H2_) | with_reducible exact H | (rw [hy942]; exact H) | exact H
   have Ny942 := Aside0.mk hy942
   clear hy942
   have H' := Aside0.mk H
   clear H
   go_enter Try.func189, Try.ntmps189
   go_wp2_with (first | ((with_reducible refine gate_dst (N := 13) rfl ?_); refine Kd.R_make (Kd.int .u32) _ 48 rfl (N := 13) rfl 42 _ _ rfl ji3 rfl rfl Try.underlying42 (.int .u32 0) 4 info48 rfl (by decide) (by omega) 0 (ok := fun _ => True) (okp := fun _ => True) rfl (fun _ hk => hk) trivial (of_decide_eq_true (by first | (with_reducible assumption) | assumption)) (Nat.le_trans (Nat.mul_le_mul_right _ (of_decide_eq_true (by first | (with_reducible assumption) | assumption) : ji3.toNat ≤ 70368744177664)) (by omega)) (Below.refl _ _) (Nat.le_refl _) ?_; intro v943 w6 ho7 hb hg_ hnew_; clear hg_ hnew_; (first | rw [← Ny942.out] at ho7 | (simp only [Int.reduceToNat] at ho7; rw [← Ny942.out] at ho7)); have HO944 := Aside0.mk (Kd.R_lower ho7 (below_size (bu HB.out))); replace HB := Aside0.mk (below_step (bu HB.out) hb); clear hb ho7))
   go_loopg [6, 16] k (fun kq v6 v16 w' => ∃ (x5_1 : List Int) (x6_1 : Int) (x16_1 : Int), v6 = .int .u64 x6_1 ∧ v16 = .int .i64 x16_1 ∧ Aside0 (nat_shift.l0 kq l0 a1 x5_1 x6_1 l0 (l0.length : Int) x16_1 = some r) ∧ Aside0 (kq ≤ k) ∧ Aside0 (Kd.R (Kd.int .u32) 48 w' w.heap.size (fun _ => True) v943 x5_1) ∧ Aside0 (Below w.heap.size w w'))
   case atStart => exact ⟨(y942), (0), (0), (by first | rfl | (simp; done) | (simp [*]; done)), (by first | rfl | (simp; done) | (simp [*]; done)), H', ⟨Nat.le_refl _⟩, ⟨by (with_reducible repeat (first | apply Kd.R_alloc | apply Kd.R_drewN | apply Kd.R_drew)); exact HO944.out⟩, ⟨by repeat (first | (with_reducible first | exact HB.out | apply below_alloc | apply pw_below_drewN | apply below_drew1) | exact HB.out)⟩⟩
   case round =>
    clear H'
    try clear c1
    try clear p2
    try clear c4
    try clear c4b0
    try clear c4b1
    try clear c5
    try clear c5b0
    try clear c5b1
    try clear p6
    obtain ⟨x5_1, x6_1, x16_1, rfl, rfl, HA, HK1, HO_5, HB⟩ := hrel
    cases gk with
    | zero => exact absurd HA.out (by simp [nat_shift.l0])
    | succ k1 =>
     have H := HA.out
     clear HA
     simp only [nat_shift.l0] at H
     by_cases c8 : x16_1 < (l0.length : Int)
     ·
      rw [if_pos c8] at H
      have c8b0 : decide (x16_1 < (l0.length : Int)) = true := decide_eq_true c8
      clear c8
      by_cases c9 : 0 ≤ x16_1
      ·
       rw [if_pos c9] at H
       have c9b0 : decide (0 ≤ x16_1) = true := decide_eq_true c9
       clear c9
       by_cases c10 : x16_1 < (l0.length : Int)
       ·
        rw [if_pos c10] at H
        have c10b0 : decide (x16_1 < (l0.length : Int)) = true := decide_eq_true c10
        clear c10
        by_cases c11 : 0 ≤ a1
        ·
         rw [if_pos c11] at H
         have c11b0 := eq_true c11
         have c11b1 : decide (0 ≤ a1) = true := decide_eq_true c11
         clear c11
         obtain ⟨ji12, hji12⟩ : ∃ j_ : Int, (shl .u64 (IntKind.u64.wrap (rd l0 x16_1)) a1) = j_ := ⟨_, rfl⟩
         replace H : (if x16_1 < (x5_1.length : Int) then (nat_shift.l0 k1 l0 a1 (x5_1.set (x16_1 : Int).toNat ((Go.bits .or .u64 (ji12) x6_1) % 4294967296)) ((Go.bits .or .u64 (ji12) x6_1) / 4294967296) l0 (l0.length : Int) (wrap64 (x16_1 + 1))) else (none)) = some r := by first | (rw [hji12] at H; exact H) | (simp only [hji12] at H ⊢; exact H)
         have hji12_ : (IntKind.u64.wrap ((IntKind.u64.wrap (rd l0 x16_1)) * 2 ^ min a1.toNat 64)) = ji12 := hji12
         have hji12z : a1 ≤ 64 → (IntKind.u64.wrap ((IntKind.u64.wrap (rd l0 x16_1)) * 2 ^ a1.toNat)) = ji12 := shl_small hji12
         by_cases c13 : x16_1 < (x5_1.length : Int)
         ·
          rw [if_pos c13] at H
          have c13b0 : decide (x16_1 < (x5_1.length : Int)) = true := decide_eq_true c13
          clear c13
          obtain ⟨y946, hy946⟩ : ∃ y_ : List Int, y_ = (x5_1.set (x16_1 : Int).toNat ((Go.bits .or .u64 (ji12) x6_1) % 4294967296)) := ⟨_, rfl⟩
          replace H : (nat_shift.l0 k1 l0 a1 y946 ((Go.bits .or .u64 (ji12) x6_1) / 4294967296) l0 (l0.length : Int) (wrap64 (x16_1 + 1))) = some r := by first | (rw [hy946]; with_reducible exact H) | (have H2_ := (Option.bind_some _ _).symm.trans H; rw [hy946]; with_reducible exact H2_) | (have H2_ := (Option.bind_some _ _).symm.trans H; with_reducible exact H2_) | with_reducible exact H | (rw [hy946]; exact H) | exact H
          have Ny946 := Aside0.mk hy946
          clear hy946
          have H' := Aside0.mk H
          clear H
          have p945 : 0 ≤ (x16_1 : Int) := of_decide_eq_true (by first | (with_reducible assumption) | assumption)
          have q945 : x16_1 < (l0.length : Int) := of_decide_eq_true (by first | (with_reducible assumption) | assumption)
          obtain ⟨ad945, e945, hx945_0⟩ := Kd.at_int HR0.out x16_1 p945 q945
          cases e945
          replace hx945_0 := (HB.out.cell (World.block_lt_of_cell? w _ hx945_0)).trans hx945_0
          replace p945 := eq_true p945
          replace q945 := eq_true q945
          have p14 : 0 ≤ (x16_1 : Int) := of_decide_eq_true (by first | (with_reducible assumption) | assumption)
          have q14 : (x16_1 : Int) < ((x5_1.length : Int) : Int) := of_decide_eq_true (by first | (with_reducible assumption) | assumption)
          obtain ⟨go14, co14, eo14, gb14, gl14, cl14, HG14⟩ := Kd.R_form HO_5.out (by omega)
          (first | cases eo14 | (injection eo14 with ea_ en_ ec_; (first | subst ea_ | (injection ea_ with ea_; subst ea_)); subst ec_; clear en_))
          have GB14 := Aside0.mk gb14
          have GG14 := Aside0.mk HG14
          clear gb14 gl14 HG14
          obtain ⟨hx14_0, hf14_0⟩ := Kd.R_celln 0 HO_5.out (x16_1 : Int) p14 q14
          replace p14 := eq_true p14
          replace q14 := eq_true q14
          have HP15 := Kd.R_putg HO_5.out (x16_1 : Int) ((Go.bits .or .u64 (ji12) x6_1) % 4294967296)
          go_wp2_with (first | ((with_reducible refine gate_store (t := 48) (p := 31) rfl ?_); refine store_event (t := 48) (p := 31) (v := ?vo_w16) (w1 := (wr.setCell ⟨go14, (x16_1 : Int).toNat, none⟩ (.int .u32 ((Go.bits .or .u64 (ji12) x6_1) % 4294967296)))) ?hg ?ho ?hn ?hr ?_; (case ho => rfl); (case hg => rfl); (case hn => rfl); (case hr => first | (go_simp; done) | (go_simp; rfl)); intro w16 hw; have hg : wr.grownBy w16 (some go14) := (by rw [hw]; exact HP15.2); have hp_ : Kd.R (Kd.int .u32) 48 w16 w.heap.size (fun _ => True) (.slice (some ⟨go14, 0, none⟩) x5_1.length co14) y946 := (by rw [hw, Ny946.out]; exact HP15.1); clear HP15; replace HO_5 := Aside0.mk (hp_); replace HB := Aside0.mk ((by rw [hw]; exact below_set (HB.out) GB14.out : Below w.heap.size w w16)); clear hg hw hp_))
          go_roundg k1
          case measure => have := HK1.out; omega
          case rel => exact ⟨(y946), ((Go.bits .or .u64 (ji12) x6_1) / 4294967296), (wrap64 (x16_1 + 1)), (by first | rfl | (simp; done) | (simp only [← hji12] <;> (first | rfl | simp)) | (simp [*]; done)), (by first | rfl | (simp; done) | (simp [*]; done)), H', ⟨by have := HK1.out; omega⟩, ⟨by (with_reducible repeat (first | apply Kd.R_alloc | apply Kd.R_drewN | apply Kd.R_drew)); exact HO_5.out⟩, ⟨by repeat (first | (with_reducible first | exact HB.out | apply below_alloc | apply pw_below_drewN | apply below_drew1) | exact HB.out)⟩⟩
         ·
          rw [if_neg c13] at H
          exact absurd H (by simp)
        ·
         rw [if_neg c11] at H
         exact absurd H (by simp)
       ·
        rw [if_neg c10] at H
        exact absurd H (by simp)
      ·
       rw [if_neg c9] at H
       exact absurd H (by simp)
     ·
      rw [if_neg c8] at H
      have c8b0 : decide (x16_1 < (l0.length : Int)) = false := decide_eq_false c8
      clear c8
      by_cases c17 : 0 ≤ (l0.length : Int)
      ·
       rw [if_pos c17] at H
       have c17b0 : decide (0 ≤ (l0.length : Int)) = true := decide_eq_true c17
       have c17b1 : decide (0 ≤ l0.length) = true := decide_eq_true (by omega)
       clear c17
       by_cases c18 : (l0.length : Int) < (x5_1.length : Int)
       ·
        rw [if_pos c18] at H
        have c18b0 : decide ((l0.length : Int) < (x5_1.length : Int)) = true := decide_eq_true c18
        have c18b1 : decide (l0.length < x5_1.length) = true := decide_eq_true (Int.ofNat_lt.mp c18)
        clear c18
        obtain ⟨y947, hy947⟩ : ∃ y_ : List Int, y_ = (x5_1.set ((l0.length : Int) : Int).toNat ((x6_1) % 4294967296)) := ⟨_, rfl⟩
        replace H : (some y947) = some r := by first | (rw [hy947]; with_reducible exact H) | (have H2_ := (Option.bind_some _ _).symm.trans H; rw [hy947]; with_reducible exact H2_) | (have H2_ := (Option.bind_some _ _).symm.trans H; with_reducible exact H2_) | with_reducible exact H | (rw [hy947]; exact H) | exact H
        have Ny947 := Aside0.mk hy947
        clear hy947
        obtain rfl := Option.some.inj H
        have p19 : 0 ≤ ((l0.length : Int) : Int) := of_decide_eq_true (by first | (with_reducible assumption) | assumption)
        have q19 : ((l0.length : Int) : Int) < ((x5_1.length : Int) : Int) := of_decide_eq_true (by first | (with_reducible assumption) | assumption)
        obtain ⟨go19, co19, eo19, gb19, gl19, cl19, HG19⟩ := Kd.R_form HO_5.out (by omega)
        (first | cases eo19 | (injection eo19 with ea_ en_ ec_; (first | subst ea_ | (injection ea_ with ea_; subst ea_)); subst ec_; clear en_))
        have GB19 := Aside0.mk gb19
        have GG19 := Aside0.mk HG19
        clear gb19 gl19 HG19
        obtain ⟨hx19_0, hf19_0⟩ := Kd.R_celln 0 HO_5.out ((l0.length : Int) : Int) p19 q19
        (try simp only [Go.IntWalk.toNatUp] at hx19_0 hf19_0)
        replace p19 := eq_true p19
        replace q19 := eq_true q19
        have HP20 := Kd.R_putg HO_5.out ((l0.length : Int) : Int) ((x6_1) % 4294967296)
        go_wp2_with (first | ((with_reducible refine gate_store (t := 48) (p := 40) rfl ?_); refine store_event (t := 48) (p := 40) (v := ?vo_w21) (w1 := (wr.setCell ⟨go19, ((l0.length : Int) : Int).toNat, none⟩ (.int .u32 ((x6_1) % 4294967296)))) ?hg ?ho ?hn ?hr ?_; (case ho => rfl); (case hg => rfl); (case hn => rfl); (case hr => first | (go_simp; done) | (go_simp; rfl)); intro w21 hw; have hg : wr.grownBy w21 (some go19) := (by rw [hw]; exact HP20.2); have hp_ : Kd.R (Kd.int .u32) 48 w21 w.heap.size (fun _ => True) (.slice (some ⟨go19, 0, none⟩) x5_1.length co19) y947 := (by rw [hw, Ny947.out]; exact HP20.1); clear HP20; replace HO_5 := Aside0.mk (hp_); replace HB := Aside0.mk ((by rw [hw]; exact below_set (HB.out) GB19.out : Below w.heap.size w w21)); clear hg hw hp_))
        go_ret
        exact ⟨_, by first | rfl | (simp [errW_none, errW_some] <;> rfl) | (simp only [← hji3]; first | rfl | (simp [errW_none, errW_some] <;> rfl)) | (simp [*, errW_none, errW_some] <;> rfl), by (with_reducible repeat (first | apply Kd.R_alloc | apply Kd.R_drewN | apply Kd.R_drew)); exact HO_5.out, by repeat (first | (with_reducible first | exact HB.out | apply below_alloc | apply pw_below_drewN | apply below_drew1) | exact HB.out)⟩
       ·
        rw [if_neg c18] at H
        exact absurd H (by simp)
      ·
       rw [if_neg c17] at H
       exact absurd H (by simp)
  ·
   rw [if_neg c5] at H
   exact absurd H (by simp)
 ·
  rw [if_neg c4] at H
  exact absurd H (by simp)
end Go.Proofs.Ytecfdemglbfnoaa.PT
end
section
namespace Go.Proofs.Ytecfdemglbfnoaa.Num
open Go.RowKit Go.Proofs.Ytecfdemglbfnoaa.PT Go.Proofs.YtecfdemglbfnoaaW.PrintWords Go.Proofs.YtecfdemglbfnoaaW.PrintLast Go.Proofs.YtecfdemglbfnoaaW.PrintMore
theorem or64 (i x y : Nat) (hx : x % 2 ^ i = 0) (hx1 : x < 18446744073709551616) (hy : y < 2 ^ i) (hi : i ≤ 63) : Go.bits .or .u64 (x : Int) (y : Int) = ((x + y : Nat) : Int) := by
  have hp : 2 ^ i ≤ 2 ^ 63 := Nat.pow_le_pow_right (by decide) hi
  have h := bits_join .u64 64 (Nat.le_refl _) (fun n h0 h1 => u64 h0 h1) i (x : Int) (y : Int) (by omega) (by exact_mod_cast hx) (by omega) (by omega) (by exact_mod_cast hy) (by omega)
  rw [h]; rfl
theorem shl64 (x n : Nat) (hx : x < 4294967296) (hn : n ≤ 31) : shl .u64 (x : Int) (n : Int) = ((x * 2 ^ n : Nat) : Int) := by
  have hp : 2 ^ n ≤ 2 ^ 31 := Nat.pow_le_pow_right (by decide) hn
  have h1 : x * 2 ^ n ≤ 4294967295 * 2 ^ 31 := Nat.mul_le_mul (by omega) hp
  have hm : min ((n : Int)).toNat IntKind.u64.bits = n := by
    have : IntKind.u64.bits = 64 := rfl
    rw [Int.toNat_natCast, this]; omega
  unfold shl
  rw [hm]
  have e : (x : Int) * 2 ^ n = ((x * 2 ^ n : Nat) : Int) := by simp
  rw [e, u64 (by omega) (by omega)]
theorem shift_l0 {l : List Int} (h : U l) (n : Nat) (hn : n ≤ 31) (hs : l.length < 35184372088832) (d : Nat) : ∀ (i : Nat) (z : List Int) (c : Nat), i + d = l.length → z.length = l.length + 1 → U z → c < 2 ^ n →
    valn (z.take i) + pw i * c = valn (l.take i) * 2 ^ n →
    Ev (fun k => nat_shift.l0 k l (n : Int) z (c : Int) l (l.length : Int) (i : Int)) (padn (l.length + 1) (valn l * 2 ^ n)) := by
  have hp : 2 ^ n ≤ 2 ^ 31 := Nat.pow_le_pow_right (by decide) hn
  induction d with
  | zero =>
    intro i z c hi hz uz hc hv
    obtain rfl : i = l.length := by omega
    have u1 : U (z.set l.length (c : Int)) := U_set uz (by omega) _
    have key : valn (z.set l.length (c : Int)) = valn l * 2 ^ n := by
      have h1 := valn_set_take z l.length (c : Int) (by omega)
      rw [List.take_of_length_le (by rw [List.length_set]; omega), Int.toNat_natCast, hv, List.take_of_length_le (Nat.le_refl _)] at h1
      exact h1
    have h2 := padn_valn u1
    rw [key, List.length_set, hz] at h2
    rw [h2]
    refine Ev.step (f := fun _ => some (z.set l.length (c : Int))) (fun k => ?_) (Ev.now _)
    simp only [nat_shift.l0]
    have e : ((c : Int)) % 4294967296 = c := by omega
    rw [if_neg (by omega), if_pos (by omega), if_pos (by omega), e]; rfl
  | succ d ih =>
    intro i z c hi hz uz hc hv
    have h0 := U_rd h (i : Int)
    obtain ⟨x, hx⟩ : ∃ x : Nat, rd l (i : Int) = (x : Int) := ⟨(rd l (i : Int)).toNat, by omega⟩
    have hx4 : x < 4294967296 := by omega
    have hxp : x * 2 ^ n + 2 ^ n ≤ 4294967296 * 2 ^ n := by
      have : (x + 1) * 2 ^ n ≤ 4294967296 * 2 ^ n := Nat.mul_le_mul_right _ (by omega)
      rwa [Nat.add_mul, Nat.one_mul] at this
    have et : Go.bits .or .u64 (shl .u64 (IntKind.u64.wrap (rd l (i : Int))) (n : Int)) (c : Int) = ((x * 2 ^ n + c : Nat) : Int) := by
      rw [hx, u64 (by omega) (by omega), shl64 x n hx4 hn, or64 n _ _ (by simp) (by omega) hc (by omega)]
    have hdiv : (x * 2 ^ n + c) / 4294967296 < 2 ^ n := by omega
    have step := ih (i + 1) (z.set i (((x * 2 ^ n + c) % 4294967296 : Nat) : Int)) ((x * 2 ^ n + c) / 4294967296) (by omega) (by rw [List.length_set]; exact hz) (U_set uz (by omega) _) hdiv (by
      rw [valn_set_take z i _ (by omega), valn_take_succ l, pw_succ, Int.toNat_natCast, hx, Int.toNat_natCast, Nat.add_mul, ← hv]
      have e2 : pw i * x * 2 ^ n = pw i * (x * 2 ^ n) := Nat.mul_assoc ..
      have e3 : pw i * (x * 2 ^ n + c) = pw i * ((x * 2 ^ n + c) % 4294967296 + 4294967296 * ((x * 2 ^ n + c) / 4294967296)) := by rw [Nat.mod_add_div]
      rw [Nat.mul_add, Nat.mul_add, ← Nat.mul_assoc (pw i) 4294967296] at e3
      omega)
    refine Ev.step (fun k => ?_) step
    simp only [nat_shift.l0]
    rw [if_pos (by omega), if_pos (by omega), if_pos (by omega), if_pos (by omega), if_pos (by omega), et, up i (by omega), Int.toNat_natCast]
    have em : (((x * 2 ^ n + c : Nat) : Int)) % 4294967296 = (((x * 2 ^ n + c) % 4294967296 : Nat) : Int) := by omega
    have ed : (((x * 2 ^ n + c : Nat) : Int)) / 4294967296 = (((x * 2 ^ n + c) / 4294967296 : Nat) : Int) := by omega
    rw [em, ed]
theorem shift_f {l : List Int} (h : U l) (n : Nat) (hn : n ≤ 31) (hs : l.length < 35184372088832) : Ev (fun k => nat_shift.f k l (n : Int)) (padn (l.length + 1) (valn l * 2 ^ n)) := by
  have h := shift_l0 h n hn hs l.length 0 (List.replicate (l.length + 1) 0) 0 (by omega) (by simp) (U_replicate _) (Nat.two_pow_pos n) (by simp [valn_nil])
  refine Ev.congr (fun k => ?_) h
  unfold nat_shift.f
  rw [up l.length (by omega), if_pos (by omega), Int.toNat_natCast, if_pos (by omega)]; rfl
end Go.Proofs.Ytecfdemglbfnoaa.Num
end
section
namespace Go.Proofs.Ytecfdemglbfnoaa.PT
open Go.RowKit Go.Proofs.YtecfdemglbfnoaaW.PrintWords Go.Proofs.YtecfdemglbfnoaaW.PrintLast Go.Proofs.YtecfdemglbfnoaaW.PrintMore
attribute [local go_sem] max2_int min2_int max_two min_two max_three min_three max_four min_four   -- for this text's walks alone
set_option linter.unusedVariables false
set_option linter.unusedSimpArgs false
mutual
def nat_step.j1 : Nat → List Int → List Int → Int → Int → Option (Int × List Int)
  | 0, _, _, _, _ => none
  | k + 1, x0, x1, x5, x7 => nat_step.l1 k x0 x1 x5 x7 0 0 (x1.length : Int) 0
def nat_step.l1 : Nat → List Int → List Int → Int → Int → Int → Int → Int → Int → Option (Int × List Int)
  | 0, _, _, _, _, _, _, _, _ => none
  | k + 1, x0, x1, x5, x7, x9, x10, x85, x86 => if x86 < x85 then (if 0 ≤ x86 then (if x86 < (x1.length : Int) then (if x86 < (x0.length : Int) then (nat_step.l1 k (x0.set (x86 : Int).toNat ((IntKind.u64.wrap ((IntKind.u64.wrap ((IntKind.u64.wrap (rd x0 x86)) - ((IntKind.u64.wrap ((IntKind.u64.wrap (x7 * (IntKind.u64.wrap (rd x1 x86)))) + x10)) % 4294967296))) - x9)) % 4294967296)) x1 x5 x7 ((IntKind.u64.wrap ((IntKind.u64.wrap ((IntKind.u64.wrap (rd x0 x86)) - ((IntKind.u64.wrap ((IntKind.u64.wrap (x7 * (IntKind.u64.wrap (rd x1 x86)))) + x10)) % 4294967296))) - x9)) / 9223372036854775808) ((IntKind.u64.wrap ((IntKind.u64.wrap (x7 * (IntKind.u64.wrap (rd x1 x86)))) + x10)) / 4294967296) x85 (wrap64 (x86 + 1))) else (none)) else (none)) else (none)) else (if 0 ≤ x5 then (if x5 < (x0.length : Int) then ((some (x0.set (x5 : Int).toNat ((IntKind.u64.wrap ((IntKind.u64.wrap ((IntKind.u64.wrap (rd x0 x5)) - x10)) - x9)) % 4294967296) : List Int)).bind fun y960 => (if ((IntKind.u64.wrap ((IntKind.u64.wrap ((IntKind.u64.wrap (rd x0 x5)) - x10)) - x9)) / 9223372036854775808) = 0 then (some ((x7) % 4294967296, y960)) else (nat_step.l2 k y960 x1 x5 x7 0 (x1.length : Int) 0))) else (none)) else (none))
def nat_step.l2 : Nat → List Int → List Int → Int → Int → Int → Int → Int → Option (Int × List Int)
  | 0, _, _, _, _, _, _, _ => none
  | k + 1, x0, x1, x5, x7, x10, x139, x140 => if x140 < x139 then (if 0 ≤ x140 then (if x140 < (x0.length : Int) then (if x140 < (x1.length : Int) then (nat_step.l2 k (x0.set (x140 : Int).toNat ((IntKind.u64.wrap ((IntKind.u64.wrap ((IntKind.u64.wrap (rd x0 x140)) + (IntKind.u64.wrap (rd x1 x140)))) + x10)) % 4294967296)) x1 x5 x7 ((IntKind.u64.wrap ((IntKind.u64.wrap ((IntKind.u64.wrap (rd x0 x140)) + (IntKind.u64.wrap (rd x1 x140)))) + x10)) / 4294967296) x139 (wrap64 (x140 + 1))) else (none)) else (none)) else (none)) else (if 0 ≤ x5 then (if x5 < (x0.length : Int) then (some ((IntKind.u64.wrap (x7 - 1)) % 4294967296, (x0.set (x5 : Int).toNat (((rd x0 x5) + ((x10) % 4294967296)) % 4294967296)))) else (none)) else (none))
def nat_step.l0 : Nat → List Int → List Int → Int → Int → Int → Option (Int × List Int)
  | 0, _, _, _, _, _ => none
  | k + 1, x0, x1, x5, x7, x8 => if x8 < 4294967296 then (if x7 ≥ 4294967296 then (if 0 ≤ (wrap64 (x5 - 1)) then (if (wrap64 (x5 - 1)) < (x1.length : Int) then (nat_step.l0 k x0 x1 x5 (IntKind.u64.wrap (x7 - 1)) (IntKind.u64.wrap (x8 + (IntKind.u64.wrap (rd x1 (wrap64 (x5 - 1))))))) else (none)) else (none)) else (if 0 ≤ (wrap64 (x5 - 2)) then (if (wrap64 (x5 - 2)) < (x1.length : Int) then (if (wrap64 (x5 - 2)) < (x0.length : Int) then (if (IntKind.u64.wrap (x7 * (IntKind.u64.wrap (rd x1 (wrap64 (x5 - 2)))))) > (Go.bits .or .u64 (IntKind.u64.wrap (x8 * 4294967296)) (IntKind.u64.wrap (rd x0 (wrap64 (x5 - 2))))) then (if 0 ≤ (wrap64 (x5 - 1)) then (if (wrap64 (x5 - 1)) < (x1.length : Int) then (nat_step.l0 k x0 x1 x5 (IntKind.u64.wrap (x7 - 1)) (IntKind.u64.wrap (x8 + (IntKind.u64.wrap (rd x1 (wrap64 (x5 - 1))))))) else (none)) else (none)) else (nat_step.j1 k x0 x1 x5 x7)) else (none)) else (none)) else (none))) else (nat_step.j1 k x0 x1 x5 x7)
end
def nat_step.f (k : Nat) (l0 : List Int) (l1 : List Int) : Option (Int × List Int) := if 0 ≤ (l1.length : Int) then (if (l1.length : Int) < (l0.length : Int) then (if 0 ≤ (wrap64 ((l1.length : Int) - 1)) then (if (wrap64 ((l1.length : Int) - 1)) < (l0.length : Int) then (if (wrap64 ((l1.length : Int) - 1)) < (l1.length : Int) then (if (IntKind.u64.wrap (rd l1 (wrap64 ((l1.length : Int) - 1)))) = 0 then (none) else (nat_step.l0 k l0 l1 (l1.length : Int) (IntKind.u64.wrap (Int.tdiv (Go.bits .or .u64 (IntKind.u64.wrap ((IntKind.u64.wrap (rd l0 (l1.length : Int))) * 4294967296)) (IntKind.u64.wrap (rd l0 (wrap64 ((l1.length : Int) - 1))))) (IntKind.u64.wrap (rd l1 (wrap64 ((l1.length : Int) - 1)))))) (Int.tmod (Go.bits .or .u64 (IntKind.u64.wrap ((IntKind.u64.wrap (rd l0 (l1.length : Int))) * 4294967296)) (IntKind.u64.wrap (rd l0 (wrap64 ((l1.length : Int) - 1))))) (IntKind.u64.wrap (rd l1 (wrap64 ((l1.length : Int) - 1))))))) else (none)) else (none)) else (none)) else (none)) else (none)
end Go.Proofs.Ytecfdemglbfnoaa.PT
end
section
namespace Go.Proofs.Ytecfdemglbfnoaa.Num
open Go.RowKit Go.Proofs.Ytecfdemglbfnoaa.PT Go.Proofs.YtecfdemglbfnoaaW.PrintWords Go.Proofs.YtecfdemglbfnoaaW.PrintLast Go.Proofs.YtecfdemglbfnoaaW.PrintMore
theorem rd_nat {l : List Int} (h : U l) (i : Int) : ∃ x : Nat, rd l i = (x : Int) ∧ x < 4294967296 := by
  have := U_rd h i
  exact ⟨(rd l i).toNat, by omega, by omega⟩
/-- The guess's loop ends at the right limb or one above. -/
theorem guess_l0 {u v : List Int} {K : Nat} (hv : v.length = K + 2) (hu : u.length = K + 3) {A D top v1 v2 u2 p ul vl : Nat} {R : Int × List Int}
    (hA : A = (top * 4294967296 + u2) * p + ul) (hul : ul < p) (hD : D = (v1 * 4294967296 + v2) * p + vl) (hvl : vl < p) (ev1 : rd v ((K + 1 : Nat) : Int) = (v1 : Int)) (ev2 : rd v (K : Int) = (v2 : Int)) (eu2 : rd u (K : Int) = (u2 : Int))
    (b1 : v1 < 4294967296) (b2 : v2 < 4294967296) (b3 : u2 < 4294967296) (hn : 2147483648 ≤ v1) (hlt : A < 4294967296 * D) (htop : top < v1 * 4294967296 + 4294967296) (hs : K < 35184372088832)
    (hend : ∀ q : Nat, q ≤ 4294967295 → q * D < A + D → A < (q + 1) * D → Ev (fun k => nat_step.j1 k u v ((K + 2 : Nat) : Int) (q : Int)) R) :
    ∀ (q r : Nat), q * v1 + r = top → A < (q + 1) * D → q ≤ 4294967297 → Ev (fun k => nat_step.l0 k u v ((K + 2 : Nat) : Int) (q : Int) (r : Int)) R := by
  intro q
  induction q using Nat.strongRecOn with
  | ind q ih =>
    intro r hqr hq hq1
    have e1 : wrap64 (((K + 2 : Nat) : Int) - 1) = ((K + 1 : Nat) : Int) := by rw [w64 (by omega) (by omega)]; omega
    have e2 : wrap64 (((K + 2 : Nat) : Int) - 2) = (K : Int) := by rw [w64 (by omega) (by omega)]; omega
    have hr64 : r < 18446744073709551616 := by
      have : v1 * 4294967296 ≤ 4294967295 * 4294967296 := Nat.mul_le_mul_right _ (by omega)
      omega
    have again : A < q * D → r < 4294967296 → Ev (fun k => nat_step.l0 k u v ((K + 2 : Nat) : Int) (IntKind.u64.wrap ((q : Int) - 1)) (IntKind.u64.wrap ((r : Int) + IntKind.u64.wrap (v1 : Int)))) R := by
      intro h1 h2
      have hq0 : q ≠ 0 := by rintro rfl; simp at h1
      obtain ⟨q', rfl⟩ : ∃ q', q = q' + 1 := ⟨q - 1, by omega⟩
      have w1 : IntKind.u64.wrap (((q' + 1 : Nat) : Int) - 1) = (q' : Int) := by
        have : ((q' + 1 : Nat) : Int) - 1 = (q' : Int) := by omega
        rw [this]; exact u64 (by omega) (by omega)
      have w2 : IntKind.u64.wrap ((r : Int) + IntKind.u64.wrap (v1 : Int)) = ((r + v1 : Nat) : Int) := by
        rw [u64 (x := (v1 : Int)) (by omega) (by omega)]; exact u64 (by omega) (by omega)
      rw [w1, w2]
      exact ih q' (by omega) (r + v1) (by rw [Nat.add_mul] at hqr; omega) h1 (by omega)
    by_cases c1 : r < 4294967296
    · by_cases c2 : 4294967296 ≤ q
      · have h1 : A < q * D := Nat.lt_of_lt_of_le hlt (Nat.mul_le_mul_right _ c2)
        refine Ev.step (fun k => ?_) (again h1 c1)
        simp only [nat_step.l0, e1, e2]
        clear e1 e2
        rw [if_pos (by omega), if_pos (by omega), if_pos (by omega), if_pos (by omega), ev1]
      · have m1 : q * v2 ≤ 4294967295 * 4294967295 := Nat.mul_le_mul (by omega) (by omega)
        have w3 : IntKind.u64.wrap ((q : Int) * IntKind.u64.wrap (v2 : Int)) = ((q * v2 : Nat) : Int) := by
          rw [u64 (x := (v2 : Int)) (by omega) (by omega), ← Int.natCast_mul]; exact u64 (by omega) (by omega)
        have w4 : Go.bits .or .u64 (IntKind.u64.wrap ((r : Int) * 4294967296)) (IntKind.u64.wrap (u2 : Int)) = ((r * 4294967296 + u2 : Nat) : Int) := by
          have e : (r : Int) * 4294967296 = ((r * 4294967296 : Nat) : Int) := by simp
          rw [e, u64 (x := ((r * 4294967296 : Nat) : Int)) (by omega) (by omega), u64 (x := (u2 : Int)) (by omega) (by omega)]
          exact or64 32 _ _ (by simp) (by omega) (by omega) (by omega)
        by_cases c3 : r * 4294967296 + u2 < q * v2
        · have h1 : A < q * D := guess_down hA hul hD hqr c3
          refine Ev.step (fun k => ?_) (again h1 c1)
          simp only [nat_step.l0, e1, e2]
          clear e1 e2
          rw [if_pos (by omega), if_neg (by omega), if_pos (by omega), if_pos (by omega), if_pos (by omega), ev2, eu2, w3, w4, if_pos (by omega), if_pos (by omega), if_pos (by omega), ev1]
        · have h1 : q * D < A + D := guess_up hA hD hvl hqr (by omega) (by omega) (by omega)
          refine Ev.step (fun k => ?_) (hend q (by omega) h1 hq)
          simp only [nat_step.l0, e1, e2]
          clear e1 e2
          rw [if_pos (by omega), if_neg (by omega), if_pos (by omega), if_pos (by omega), if_pos (by omega), ev2, eu2, w3, w4, if_neg (by omega)]
    · have c2 : q ≤ 4294967295 := by
        by_cases c : 4294967296 ≤ q
        · have : 4294967296 * v1 ≤ q * v1 := Nat.mul_le_mul_right _ c
          omega
        · omega
      have m1 : q * v2 ≤ 4294967295 * 4294967295 := Nat.mul_le_mul (by omega) (by omega)
      have m2 : 4294967296 * 4294967296 ≤ r * 4294967296 := Nat.mul_le_mul_right _ (by omega)
      have h1 : q * D < A + D := guess_up hA hD hvl hqr (by omega) (by omega) (by omega)
      refine Ev.step (fun k => ?_) (hend q (by omega) h1 hq)
      simp only [nat_step.l0]
      rw [if_neg (by omega)]
theorem sub_val {T T' S0 Sv p q ui u' vi b c b' c' : Nat} (h : T + q * Sv = S0 + p * (b + c)) (hT : T' = T + p * u') (e : u' + q * vi + b + c = ui + 4294967296 * (b' + c')) :
    T' + q * (Sv + p * vi) = (S0 + p * ui) + p * 4294967296 * (b' + c') := by
  have h1 : p * (u' + q * vi + b + c) = p * (ui + 4294967296 * (b' + c')) := by rw [e]
  have h2 : q * (p * vi) = p * (q * vi) := Nat.mul_left_comm ..
  have h3 : p * 4294967296 * (b' + c') = p * (4294967296 * (b' + c')) := Nat.mul_assoc ..
  have h4 : p * (u' + q * vi + b + c) = p * u' + p * (q * vi) + p * (b + c) := by rw [Nat.add_assoc (u' + q * vi), Nat.mul_add, Nat.mul_add]
  rw [h3, Nat.mul_add q, h2, hT, Nat.add_assoc S0, ← Nat.mul_add p, ← h1, h4]
  omega
theorem u64_sub {x y b : Nat} (hx : x < 4294967296) (hy : y < 4294967296) (hb : b ≤ 1) :
    (b + y ≤ x → IntKind.u64.wrap (IntKind.u64.wrap ((x : Int) - (y : Int)) - (b : Int)) = ((x - y - b : Nat) : Int)) ∧
    (x < b + y → IntKind.u64.wrap (IntKind.u64.wrap ((x : Int) - (y : Int)) - (b : Int)) = ((18446744073709551616 + x - y - b : Nat) : Int)) := by
  have e : ∀ z : Int, IntKind.u64.wrap z = z % 18446744073709551616 := fun z => by simp [IntKind.wrap, IntKind.bits, IntKind.signed]
  rw [e, e]
  constructor <;> intro h <;> omega
theorem rd_drop {x u : List Int} {i : Nat} (h : x.drop i = u.drop i) (hi : i < x.length) (hu : i < u.length) : rd x (i : Int) = rd u (i : Int) ∧ x.drop (i + 1) = u.drop (i + 1) := by
  rw [drop_rd x i hi, drop_rd u i hu] at h
  injection h with h1 h2
  exact ⟨h1, h2⟩
/-- The subtracting loop: what is left, the borrow and the carry. -/
theorem sub_l1 {u v : List Int} (uv : U v) (hu : u.length = v.length + 1) (hs : v.length < 35184372088832) (q : Nat) (hq : q ≤ 4294967295) {R : Int × List Int}
    (hend : ∀ (x : List Int) (b c : Nat), x.length = u.length → U x → b ≤ 1 → c < 4294967296 → rd x (v.length : Int) = rd u (v.length : Int) → valn (x.take v.length) + q * valn v = valn (u.take v.length) + pw v.length * (b + c) →
      Ev (fun k => nat_step.l1 k x v (v.length : Int) (q : Int) (b : Int) (c : Int) (v.length : Int) (v.length : Int)) R) (n : Nat) :
    ∀ (i : Nat) (x : List Int) (b c : Nat), i + n = v.length → x.length = u.length → U x → b ≤ 1 → c < 4294967296 → x.drop i = u.drop i → valn (x.take i) + q * valn (v.take i) = valn (u.take i) + pw i * (b + c) →
      Ev (fun k => nat_step.l1 k x v (v.length : Int) (q : Int) (b : Int) (c : Int) (v.length : Int) (i : Int)) R := by
  induction n with
  | zero =>
    intro i x b c hi hx ux hb hc hd hv
    obtain rfl : i = v.length := by omega
    rw [List.take_of_length_le (Nat.le_refl v.length)] at hv
    exact hend x b c hx ux hb hc (rd_drop hd (by omega) (by omega)).1 hv
  | succ n ih =>
    intro i x b c hi hx ux hb hc hd hv
    obtain ⟨vi, evi, hvi⟩ := rd_nat uv (i : Int)
    obtain ⟨xi, exi, hxi⟩ := rd_nat ux (i : Int)
    obtain ⟨hrd, hdr⟩ := rd_drop hd (by omega) (by omega)
    have m1 : q * vi ≤ 4294967295 * 4294967295 := Nat.mul_le_mul hq (by omega)
    obtain ⟨P, hP⟩ : ∃ P, q * vi + c = P := ⟨_, rfl⟩
    have w1 : IntKind.u64.wrap (IntKind.u64.wrap ((q : Int) * IntKind.u64.wrap (vi : Int)) + (c : Int)) = (P : Int) := by
      rw [u64 (x := (vi : Int)) (by omega) (by omega), ← Int.natCast_mul, u64 (x := ((q * vi : Nat) : Int)) (by omega) (by omega), ← Int.natCast_add, hP]; exact u64 (by omega) (by omega)
    have w2 : (P : Int) % 4294967296 = ((P % 4294967296 : Nat) : Int) := by omega
    have w3 : (P : Int) / 4294967296 = ((P / 4294967296 : Nat) : Int) := by omega
    have hsub := u64_sub (x := xi) (y := P % 4294967296) (b := b) hxi (by omega) hb
    obtain ⟨u', b', hu', hb', ed, eb, hval⟩ : ∃ u' b' : Nat, u' < 4294967296 ∧ b' ≤ 1 ∧ (IntKind.u64.wrap (IntKind.u64.wrap ((xi : Int) - ((P % 4294967296 : Nat) : Int)) - (b : Int))) % 4294967296 = (u' : Int) ∧
        (IntKind.u64.wrap (IntKind.u64.wrap ((xi : Int) - ((P % 4294967296 : Nat) : Int)) - (b : Int))) / 9223372036854775808 = (b' : Int) ∧ u' + P % 4294967296 + b = xi + 4294967296 * b' := by
      by_cases c1 : b + P % 4294967296 ≤ xi
      · rw [hsub.1 c1]; exact ⟨xi - P % 4294967296 - b, 0, by omega, by omega, by omega, by omega, by omega⟩
      · rw [hsub.2 (by omega)]; exact ⟨4294967296 + xi - P % 4294967296 - b, 1, by omega, by omega, by omega, by omega, by omega⟩
    clear hsub
    have step := ih (i + 1) (x.set i (u' : Int)) b' (P / 4294967296) (by omega) (by rw [List.length_set]; exact hx) (U_set ux (by omega) _) hb' (by omega) (by rw [List.drop_set_of_lt (by omega)]; exact hdr) (by
      rw [valn_set_take x i _ (by omega), valn_take_succ v, valn_take_succ u, pw_succ, Int.toNat_natCast, evi, Int.toNat_natCast, ← hrd, exi, Int.toNat_natCast]
      exact sub_val hv rfl (by omega))
    refine Ev.step (fun k => ?_) step
    simp only [nat_step.l1]
    rw [if_pos (by omega), if_pos (by omega), if_pos (by omega), if_pos (by omega), evi, exi, w1, w2, w3, u64 (x := (xi : Int)) (by omega) (by omega), ed, eb, up i (by omega), Int.toNat_natCast]
/-- The loop that adds the divisor back. -/
theorem add_l2 {y v : List Int} (uv : U v) (hy : y.length = v.length + 1) (hs : v.length < 35184372088832) (q : Nat) (hq : q ≤ 4294967295) (hq0 : 1 ≤ q) (n : Nat) :
    ∀ (i : Nat) (x : List Int) (c : Nat), i + n = v.length → x.length = y.length → U x → c ≤ 1 → x.drop i = y.drop i → valn (x.take i) + pw i * c = valn (y.take i) + valn (v.take i) →
      Ev (fun k => nat_step.l2 k x v (v.length : Int) (q : Int) (c : Int) (v.length : Int) (i : Int)) ((((q - 1 : Nat) : Int)), padn (v.length + 1) (valn y + valn v)) := by
  induction n with
  | zero =>
    intro i x c hi hx ux hc hd hv
    obtain rfl : i = v.length := by omega
    obtain ⟨hrd, hdr⟩ := rd_drop hd (by omega) (by omega)
    obtain ⟨xk, exk, hxk⟩ := rd_nat ux (v.length : Int)
    obtain ⟨t, ht⟩ : ∃ t, xk + c = t := ⟨_, rfl⟩
    have u1 : U (x.set v.length ((t % 4294967296 : Nat) : Int)) := U_set ux (by omega) _
    have key : valn (x.set v.length ((t % 4294967296 : Nat) : Int)) + pw (v.length + 1) * (t / 4294967296) = valn y + valn v := by
      have h1 := valn_set_take x v.length ((t % 4294967296 : Nat) : Int) (by omega)
      rw [List.take_of_length_le (by rw [List.length_set]; omega), Int.toNat_natCast] at h1
      have h2 := valn_take_succ y v.length
      rw [List.take_of_length_le (by omega), ← hrd, exk, Int.toNat_natCast] at h2
      rw [List.take_of_length_le (Nat.le_refl v.length)] at hv
      have h3 : pw v.length * (xk + c) = pw v.length * (t % 4294967296 + 4294967296 * (t / 4294967296)) := by rw [Nat.mod_add_div, ht]
      rw [Nat.mul_add, Nat.mul_add, ← Nat.mul_assoc] at h3
      rw [h1, pw_succ]
      omega
    have h2 := padn_valn u1
    have h4 : padn (v.length + 1) (valn y + valn v) = x.set v.length ((t % 4294967296 : Nat) : Int) := by
      rw [List.length_set, hx, hy] at h2
      rw [← h2, ← key]
      exact padn_mod _ _ _
    rw [h4]
    refine Ev.step (f := fun _ => some ((((q - 1 : Nat) : Int)), x.set v.length ((t % 4294967296 : Nat) : Int))) (fun k => ?_) (Ev.now _)
    have w1 : IntKind.u64.wrap ((q : Int) - 1) = ((q - 1 : Nat) : Int) := by
      have : (q : Int) - 1 = ((q - 1 : Nat) : Int) := by omega
      rw [this]; exact u64 (by omega) (by omega)
    have w2 : (((q - 1 : Nat) : Int)) % 4294967296 = ((q - 1 : Nat) : Int) := by omega
    have w3 : ((xk : Int) + (c : Int) % 4294967296) % 4294967296 = ((t % 4294967296 : Nat) : Int) := by omega
    simp only [nat_step.l2]
    rw [if_neg (by omega), if_pos (by omega), if_pos (by omega), exk, w1, w2, w3, Int.toNat_natCast]
  | succ n ih =>
    intro i x c hi hx ux hc hd hv
    obtain ⟨vi, evi, hvi⟩ := rd_nat uv (i : Int)
    obtain ⟨xi, exi, hxi⟩ := rd_nat ux (i : Int)
    obtain ⟨hrd, hdr⟩ := rd_drop hd (by omega) (by omega)
    obtain ⟨t, ht⟩ : ∃ t, xi + vi + c = t := ⟨_, rfl⟩
    have w1 : IntKind.u64.wrap (IntKind.u64.wrap (IntKind.u64.wrap (xi : Int) + IntKind.u64.wrap (vi : Int)) + (c : Int)) = (t : Int) := by
      rw [u64 (x := (xi : Int)) (by omega) (by omega), u64 (x := (vi : Int)) (by omega) (by omega), u64 (x := (xi : Int) + (vi : Int)) (by omega) (by omega), u64 (by omega) (by omega)]; omega
    have w2 : (t : Int) % 4294967296 = ((t % 4294967296 : Nat) : Int) := by omega
    have w3 : (t : Int) / 4294967296 = ((t / 4294967296 : Nat) : Int) := by omega
    have step := ih (i + 1) (x.set i ((t % 4294967296 : Nat) : Int)) (t / 4294967296) (by omega) (by rw [List.length_set]; exact hx) (U_set ux (by omega) _) (by omega) (by rw [List.drop_set_of_lt (by omega)]; exact hdr) (by
      rw [valn_set_take x i _ (by omega), valn_take_succ v, valn_take_succ y, pw_succ, Int.toNat_natCast, evi, Int.toNat_natCast, ← hrd, exi, Int.toNat_natCast]
      exact step_val hv (by omega))
    refine Ev.step (fun k => ?_) step
    simp only [nat_step.l2]
    rw [if_pos (by omega), if_pos (by omega), if_pos (by omega), if_pos (by omega), evi, exi, w1, w2, w3, up i (by omega), Int.toNat_natCast]
end Go.Proofs.Ytecfdemglbfnoaa.Num
end
section
namespace Go.Proofs.Ytecfdemglbfnoaa.Num
open Go.RowKit Go.Proofs.Ytecfdemglbfnoaa.PT Go.Proofs.YtecfdemglbfnoaaW.PrintWords Go.Proofs.YtecfdemglbfnoaaW.PrintLast Go.Proofs.YtecfdemglbfnoaaW.PrintMore
theorem step_j1 {u v : List Int} (uu : U u) (uv : U v) (hu : u.length = v.length + 1) (hs : v.length < 35184372088832) (q : Nat) (hq : q ≤ 4294967295)
    (h1 : q * valn v < valn u + valn v) (h2 : valn u < (q + 1) * valn v) :
    Ev (fun k => nat_step.j1 k u v (v.length : Int) (q : Int)) ((((valn u / valn v : Nat) : Int)), padn (v.length + 1) (valn u % valn v)) := by
  rw [Nat.add_mul, Nat.one_mul] at h2
  refine Ev.step (f := fun k => nat_step.l1 k u v (v.length : Int) (q : Int) ((0 : Nat) : Int) ((0 : Nat) : Int) (v.length : Int) ((0 : Nat) : Int)) (fun k => rfl) ?_
  refine sub_l1 uv hu hs q hq ?_ v.length 0 u 0 0 (by omega) rfl uu (by omega) (by omega) rfl (by simp [valn_nil])
  intro x b c hx ux hb hc hr hv
  obtain ⟨uk, euk, huk⟩ := rd_nat ux (v.length : Int)
  have hU := valn_take_succ u v.length
  rw [List.take_of_length_le (by omega), ← hr, euk, Int.toNat_natCast] at hU
  have hsub := u64_sub (x := uk) (y := c) (b := b) huk hc hb
  have wuk : IntKind.u64.wrap (uk : Int) = (uk : Int) := u64 (by omega) (by omega)
  by_cases c1 : b + c ≤ uk
  · have hd := hsub.1 c1
    clear hsub
    have uy : U (x.set v.length ((uk - c - b : Nat) : Int)) := U_set ux (by omega) _
    have ky := valn_set_take x v.length ((uk - c - b : Nat) : Int) (by omega)
    rw [List.take_of_length_le (by rw [List.length_set]; omega), Int.toNat_natCast] at ky
    have e3 : pw v.length * uk = pw v.length * (uk - c - b) + pw v.length * (b + c) := by rw [← Nat.mul_add]; congr 1; omega
    obtain ⟨hq1, hq2⟩ := quo_of (u := valn u) (v := valn v) (q := q) (by omega) (by omega)
    have h5 := padn_valn uy
    rw [List.length_set, hx, hu] at h5
    have h6 : valn (x.set v.length ((uk - c - b : Nat) : Int)) = valn u % valn v := by omega
    rw [h6] at h5
    rw [hq1, h5]
    refine Ev.step (f := fun _ => some ((q : Int), x.set v.length ((uk - c - b : Nat) : Int))) (fun k => ?_) (Ev.now _)
    simp only [nat_step.l1]
    have w2 : ((uk - c - b : Nat) : Int) % 4294967296 = ((uk - c - b : Nat) : Int) := by omega
    have w3 : ((uk - c - b : Nat) : Int) / 9223372036854775808 = 0 := by omega
    have w4 : (q : Int) % 4294967296 = (q : Int) := by omega
    rw [if_neg (by omega), if_pos (by omega), if_pos (by omega), euk, wuk, hd, w2, w3, w4, Option.bind_some, if_pos rfl, Int.toNat_natCast]
  · have hd := hsub.2 (by omega)
    clear hsub
    obtain ⟨dd, hdd⟩ : ∃ dd : Nat, 4294967296 + uk - c - b = dd := ⟨_, rfl⟩
    have hdl : dd < 4294967296 := by omega
    have uy : U (x.set v.length (dd : Int)) := U_set ux (by omega) _
    have ky := valn_set_take x v.length (dd : Int) (by omega)
    rw [List.take_of_length_le (by rw [List.length_set]; omega), Int.toNat_natCast] at ky
    have e3 : pw v.length * uk + pw v.length * 4294967296 = pw v.length * dd + pw v.length * (b + c) := by rw [← Nat.mul_add, ← Nat.mul_add]; congr 1; omega
    have hyl : (x.set v.length (dd : Int)).length = v.length + 1 := by rw [List.length_set]; omega
    have ylt := valn_lt uy
    rw [hyl, pw_succ] at ylt
    have hq0 : 1 ≤ q := by
      cases q with
      | zero => rw [Nat.zero_mul] at *; omega
      | succ q => omega
    have eqv : (q - 1) * valn v + valn v = q * valn v := by
      obtain ⟨q', rfl⟩ : ∃ q', q = q' + 1 := ⟨q - 1, by omega⟩
      rw [Nat.add_sub_cancel, Nat.add_mul, Nat.one_mul]
    obtain ⟨hq1, hq2⟩ := quo_of (u := valn u) (v := valn v) (q := q - 1) (by omega) (by omega)
    have h7 := add_l2 uv hyl hs q hq hq0 v.length 0 (x.set v.length (dd : Int)) 0 (by omega) rfl uy (by omega) rfl (by simp [valn_nil])
    have e8 : valn (x.set v.length (dd : Int)) + valn v = valn u % valn v + pw (v.length + 1) * 1 := by rw [pw_succ, Nat.mul_one]; omega
    rw [e8, padn_mod] at h7
    rw [hq1]
    refine Ev.step (fun k => ?_) h7
    simp only [nat_step.l1]
    have w2 : ((18446744073709551616 + uk - c - b : Nat) : Int) % 4294967296 = (dd : Int) := by omega
    have w3 : ((18446744073709551616 + uk - c - b : Nat) : Int) / 9223372036854775808 = 1 := by omega
    rw [if_neg (by omega), if_pos (by omega), if_pos (by omega), euk, wuk, hd, w2, w3, Option.bind_some, if_neg (by omega), Int.toNat_natCast]; rfl
theorem take_lt' {l : List Int} (h : U l) (n : Nat) : valn (l.take n) < pw n :=
  Nat.lt_of_lt_of_le (valn_lt (U_take h n)) (pw_mono (by rw [List.length_take]; omega))
theorem valn_splitD (l : List Int) (n : Nat) : valn l = valn (l.take n) + pw n * valn (l.drop n) := by
  by_cases h : n ≤ l.length
  · exact valn_take_drop l n h
  · rw [List.take_of_length_le (by omega), List.drop_eq_nil_of_le (by omega), valn_nil]; simp
theorem tdiv_cast (a b : Nat) : Int.tdiv (a : Int) (b : Int) = ((a / b : Nat) : Int) := rfl
theorem tmod_cast (a b : Nat) : Int.tmod (a : Int) (b : Int) = ((a % b : Nat) : Int) := rfl
/-- One step of the division: the window u is below the divisor's multiple by the base, the divisor's last limb is at least half the base. -/
theorem step_f {u v : List Int} (uu : U u) (uv : U v) (hu : u.length = v.length + 1) (h2 : 2 ≤ v.length) (hs : v.length < 35184372088832) (hn : 2147483648 ≤ rd v ((v.length - 1 : Nat) : Int)) (hlt : valn u < 4294967296 * valn v) :
    Ev (fun k => nat_step.f k u v) ((((valn u / valn v : Nat) : Int)), padn (v.length + 1) (valn u % valn v)) := by
  obtain ⟨K, hK⟩ : ∃ K, v.length = K + 2 := ⟨v.length - 2, by omega⟩
  obtain ⟨v1, ev1, b1⟩ := rd_nat uv ((K + 1 : Nat) : Int)
  obtain ⟨v2, ev2, b2⟩ := rd_nat uv ((K : Nat) : Int)
  obtain ⟨u0, eu0, b0⟩ := rd_nat uu ((K + 2 : Nat) : Int)
  obtain ⟨u1, eu1, b3⟩ := rd_nat uu ((K + 1 : Nat) : Int)
  obtain ⟨u2, eu2, b4⟩ := rd_nat uu ((K : Nat) : Int)
  have hn1 : 2147483648 ≤ v1 := by
    have e : v.length - 1 = K + 1 := by omega
    rw [e, ev1] at hn; omega
  have sv : valn v = (v1 * 4294967296 + v2) * pw K + valn (v.take K) := by
    have a1 := valn_splitD v K
    have a2 := valn_drop_rd v K
    have a3 := valn_drop_rd v (K + 1)
    have z3 : v.drop (K + 1 + 1) = [] := List.drop_eq_nil_of_le (by omega)
    rw [z3, valn_nil, ev1, Int.toNat_natCast] at a3
    rw [ev2, Int.toNat_natCast] at a2
    have a4 : valn (v.drop K) = v1 * 4294967296 + v2 := by omega
    rw [a1, a4, Nat.mul_comm (pw K)]; omega
  have su : valn u = ((u0 * 4294967296 + u1) * 4294967296 + u2) * pw K + valn (u.take K) := by
    have a1 := valn_splitD u K
    have a2 := valn_drop_rd u K
    have a3 := valn_drop_rd u (K + 1)
    have a5 := valn_drop_rd u (K + 2)
    have z5 : u.drop (K + 2 + 1) = [] := List.drop_eq_nil_of_le (by omega)
    rw [z5, valn_nil, eu0, Int.toNat_natCast] at a5
    have e51 : K + 1 + 1 = K + 2 := rfl
    rw [e51] at a3
    rw [eu1, Int.toNat_natCast] at a3
    rw [eu2, Int.toNat_natCast] at a2
    have a4 : valn (u.drop K) = (u0 * 4294967296 + u1) * 4294967296 + u2 := by omega
    rw [a1, a4, Nat.mul_comm (pw K)]; omega
  have tl := take_lt' uv K
  have tu := take_lt' uu K
  have hu0 : u0 ≤ v1 := by
    by_cases c : u0 ≤ v1
    · exact c
    · exfalso
      have m1 : (v1 + 1) * 18446744073709551616 * pw K ≤ u0 * 18446744073709551616 * pw K := Nat.mul_le_mul_right _ (Nat.mul_le_mul_right _ (by omega))
      have m2 : (v1 * 4294967296 + v2 + 1) * pw K ≤ (v1 + 1) * 4294967296 * pw K := Nat.mul_le_mul_right _ (by omega)
      have m3 : u0 * 18446744073709551616 * pw K ≤ ((u0 * 4294967296 + u1) * 4294967296 + u2) * pw K := Nat.mul_le_mul_right _ (by omega)
      have m4 : (v1 + 1) * 18446744073709551616 * pw K = 4294967296 * ((v1 + 1) * 4294967296 * pw K) := by
        have e64 : (18446744073709551616 : Nat) = 4294967296 * 4294967296 := rfl
        rw [e64]; ac_rfl
      rw [Nat.add_mul _ 1, Nat.one_mul] at m2
      omega
  obtain ⟨top, htop⟩ : ∃ top, u0 * 4294967296 + u1 = top := ⟨_, rfl⟩
  rw [htop] at su
  have hv1 : v1 ≠ 0 := by omega
  have wt : Go.bits .or .u64 (IntKind.u64.wrap (IntKind.u64.wrap (u0 : Int) * 4294967296)) (IntKind.u64.wrap (u1 : Int)) = (top : Int) := by
    have e : (u0 : Int) * 4294967296 = ((u0 * 4294967296 : Nat) : Int) := by simp
    rw [u64 (x := (u0 : Int)) (by omega) (by omega), e, u64 (x := ((u0 * 4294967296 : Nat) : Int)) (by omega) (by omega), u64 (x := (u1 : Int)) (by omega) (by omega), or64 32 _ _ (by simp) (by omega) (by omega) (by omega), htop]
  have htb : top < v1 * 4294967296 + 4294967296 := by
    have : u0 * 4294967296 ≤ v1 * 4294967296 := Nat.mul_le_mul_right _ hu0
    omega
  have hq0 : top / v1 ≤ 4294967297 := by
    rw [Nat.div_le_iff_le_mul_add_pred (by omega)]; omega
  have hql : valn u < (top / v1 + 1) * valn v := by
    have d1 := Nat.div_add_mod top v1
    have d2 := Nat.mod_lt top (by omega : 0 < v1)
    have d3 : top + 1 ≤ (top / v1 + 1) * v1 := by rw [Nat.add_mul, Nat.one_mul, Nat.mul_comm (top / v1)]; omega
    have d4 : (top + 1) * (4294967296 * pw K) ≤ (top / v1 + 1) * v1 * (4294967296 * pw K) := Nat.mul_le_mul_right _ d3
    have d5 : (top / v1 + 1) * v1 * (4294967296 * pw K) ≤ (top / v1 + 1) * valn v := by
      rw [Nat.mul_assoc]
      refine Nat.mul_le_mul_left _ ?_
      rw [sv, ← Nat.mul_assoc, Nat.add_mul]; omega
    have d6 : (top * 4294967296 + u2 + 1) * pw K ≤ (top + 1) * 4294967296 * pw K := Nat.mul_le_mul_right _ (by omega)
    rw [Nat.add_mul _ 1, Nat.one_mul] at d6
    rw [← Nat.mul_assoc] at d4
    omega
  have hj : ∀ q : Nat, q ≤ 4294967295 → q * valn v < valn u + valn v → valn u < (q + 1) * valn v → Ev (fun k => nat_step.j1 k u v ((K + 2 : Nat) : Int) (q : Int)) ((((valn u / valn v : Nat) : Int)), padn (v.length + 1) (valn u % valn v)) := by
    intro q a1 a2 a3
    have := step_j1 uu uv hu hs q a1 a2 a3
    rwa [hK] at this ⊢
  have go := guess_l0 hK (by omega) su tu sv tl ev1 ev2 eu2 b1 b2 b4 hn1 hlt htb (by omega) hj (top / v1) (top % v1) (by rw [Nat.mul_comm]; exact Nat.div_add_mod ..) hql hq0
  refine Ev.congr (fun k => ?_) go
  have e1 : wrap64 (((v.length : Nat) : Int) - 1) = ((K + 1 : Nat) : Int) := by rw [w64 (by omega) (by omega)]; omega
  have eK : ((v.length : Nat) : Int) = ((K + 2 : Nat) : Int) := by omega
  unfold nat_step.f
  rw [e1, eK]
  clear e1
  have wv : IntKind.u64.wrap (v1 : Int) = (v1 : Int) := u64 (by omega) (by omega)
  rw [if_pos (by omega), if_pos (by omega), if_pos (by omega), if_pos (by omega), if_pos (by omega), ev1, wv, if_neg (by omega), eu0, eu1, wt, tdiv_cast, tmod_cast]
  have wq : IntKind.u64.wrap ((top / v1 : Nat) : Int) = ((top / v1 : Nat) : Int) := by
    clear wv wt go hj hql
    generalize top / v1 = qq at hq0 ⊢
    exact u64 (by omega) (by omega)
  rw [wq]
end Go.Proofs.Ytecfdemglbfnoaa.Num
end
section
namespace Go.Proofs.Ytecfdemglbfnoaa.Num
open Go.RowKit Go.Proofs.Ytecfdemglbfnoaa.PT Go.Proofs.YtecfdemglbfnoaaW.PrintWords Go.Proofs.YtecfdemglbfnoaaW.PrintLast Go.Proofs.YtecfdemglbfnoaaW.PrintMore
theorem long_inv {T p X V Q S : Nat} (h : T + p * X + V * (p * 4294967296) * Q = S) : T + p * (X % V) + V * p * (X / V + 4294967296 * Q) = S := by
  have e : p * X = p * (X % V) + V * p * (X / V) := by
    have := Nat.div_add_mod X V
    conv => lhs; rw [← this, Nat.mul_add]
    rw [Nat.add_comm]; congr 1; ac_rfl
  have e2 : V * p * (X / V + 4294967296 * Q) = V * p * (X / V) + V * (p * 4294967296) * Q := by
    rw [Nat.mul_add]; congr 1; ac_rfl
  rw [← h, e, e2]; omega
theorem drop_take_at (u : List Int) (j n : Nat) : u.drop j = (u.drop j).take n ++ u.drop (j + n) := by
  rw [← List.drop_drop, List.take_append_drop]
/-- The window's value is that of all limbs from j on, if those from j + 1 on are below the divisor. -/
theorem win_val {u v : List Int} (uu : U u) (uv : U v) (j : Nat) (hj : j + v.length + 1 ≤ u.length) (hlt : valn (u.drop (j + 1)) < valn v) :
    valn ((u.drop j).take (v.length + 1)) = valn (u.drop j) ∧ valn (u.drop j) < 4294967296 * valn v := by
  have h1 := valn_drop_rd u j
  have h2 := U_rd uu (j : Int)
  have h3 : valn (u.drop j) < 4294967296 * valn v := by omega
  have h4 := valn_lt uv
  have h5 : valn (u.drop j) = valn ((u.drop j).take (v.length + 1)) + pw (v.length + 1) * valn ((u.drop j).drop (v.length + 1)) := valn_splitD _ _
  refine ⟨?_, h3⟩
  rcases Nat.eq_zero_or_pos (valn ((u.drop j).drop (v.length + 1))) with h | h
  · rw [h] at h5; omega
  · exfalso
    have h6 : pw (v.length + 1) * 1 ≤ pw (v.length + 1) * valn ((u.drop j).drop (v.length + 1)) := Nat.mul_le_mul_left _ h
    rw [pw_succ] at h6 h5
    omega
theorem sp_take (u xs : List Int) (j : Nat) (h : j + xs.length ≤ u.length) : (sp u j xs).take j = u.take j := by
  have ht : (u.take j).length = j := by rw [List.length_take]; omega
  rw [sp, List.append_assoc, List.take_append_of_le_length (by omega), List.take_of_length_le (by omega)]
theorem sp_drop (u xs : List Int) (j : Nat) (h : j + xs.length ≤ u.length) : (sp u j xs).drop j = xs ++ u.drop (j + xs.length) := by
  have ht : (u.take j).length = j := by rw [List.length_take]; omega
  rw [sp, List.append_assoc, List.drop_append_of_le_length (by omega), List.drop_eq_nil_of_le (by omega), List.nil_append]
theorem U_sp {u xs : List Int} (hu : U u) (hx : U xs) (j : Nat) : U (sp u j xs) := U_append (U_append (U_take hu j) hx) (U_drop hu _)
/-- What a step leaves of the row: its limbs from j on are worth the rest, those below j are as they were. -/
theorem win_after {u v : List Int} (uu : U u) (uv : U v) (j : Nat) (hj : j + v.length + 1 ≤ u.length) (hlt : valn (u.drop (j + 1)) < valn v) :
    valn ((sp u j (padn (v.length + 1) (valn (u.drop j) % valn v))).drop j) = valn (u.drop j) % valn v ∧
    valn (sp u j (padn (v.length + 1) (valn (u.drop j) % valn v))) = valn (u.take j) + pw j * (valn (u.drop j) % valn v) ∧
    U (sp u j (padn (v.length + 1) (valn (u.drop j) % valn v))) ∧ (sp u j (padn (v.length + 1) (valn (u.drop j) % valn v))).length = u.length := by
  obtain ⟨h1, h2⟩ := win_val uu uv j hj hlt
  have hl : (padn (v.length + 1) (valn (u.drop j) % valn v)).length = v.length + 1 := padn_len ..
  have hv : 0 < valn v := by omega
  have hm : valn (u.drop j) % valn v < valn v := Nat.mod_lt _ hv
  have hvl := valn_lt uv
  have hz : valn (u.drop (j + (v.length + 1))) = 0 := by
    have h5 := drop_take_at u j (v.length + 1)
    have h6 := congrArg valn h5
    rw [valn_append, h1] at h6
    have hlen : ((u.drop j).take (v.length + 1)).length = v.length + 1 := by rw [List.length_take, List.length_drop]; omega
    rw [hlen] at h6
    rcases Nat.eq_zero_or_pos (valn (u.drop (j + (v.length + 1)))) with h | h
    · exact h
    · exfalso
      have := Nat.mul_le_mul_left (pw (v.length + 1)) h
      have := pw_pos (v.length + 1)
      omega
  have hd : valn ((sp u j (padn (v.length + 1) (valn (u.drop j) % valn v))).drop j) = valn (u.drop j) % valn v := by
    rw [sp_drop _ _ _ (by omega), valn_append, hl, hz, valn_padn_lt (by rw [pw_succ]; omega)]; omega
  refine ⟨hd, ?_, U_sp uu (U_padn _ _) j, sp_len (by omega)⟩
  rw [valn_splitD _ j, hd, sp_take _ _ _ (by omega)]
/-- One limb of a number shifted to the right. -/
theorem limb_shr {u : List Int} (uu : U u) (n : Nat) (hn : n ≤ 31) (i : Nat) :
    valn u / 2 ^ n / pw i % 4294967296 = ((rd u (i : Int)).toNat + 4294967296 * (rd u ((i + 1 : Nat) : Int)).toNat) / 2 ^ n % 4294967296 := by
  have h1 := valn_splitD u i
  have h2 := take_lt' uu i
  have h3 := valn_drop_rd u i
  have h4 := valn_drop_rd u (i + 1)
  have hp : 0 < pw i := pw_pos i
  have h5 : valn u / pw i = valn (u.drop i) := by
    rw [h1, Nat.add_mul_div_left _ _ hp, Nat.div_eq_of_lt h2]; omega
  rw [Nat.div_div_eq_div_mul, Nat.mul_comm, ← Nat.div_div_eq_div_mul, h5, h3, h4]
  generalize (rd u (i : Int)).toNat = x
  generalize (rd u ((i + 1 : Nat) : Int)).toNat = y
  generalize valn (u.drop (i + 1 + 1)) = r
  have hd : (2 : Nat) ^ 32 = 2 ^ n * 2 ^ (32 - n) := by rw [← Nat.pow_add]; congr 1; omega
  have e : x + 4294967296 * (y + 4294967296 * r) = x + 4294967296 * y + 2 ^ n * (2 ^ (32 - n) * r * 4294967296) := by
    have : (4294967296 : Nat) * (4294967296 * r) = 2 ^ n * (2 ^ (32 - n) * r * 4294967296) := by
      have h32 : (4294967296 : Nat) = 2 ^ 32 := rfl
      calc (4294967296 : Nat) * (4294967296 * r) = 2 ^ 32 * r * 4294967296 := by rw [← h32]; ac_rfl
        _ = _ := by rw [hd]; ac_rfl
    omega
  rw [e, Nat.add_mul_div_left _ _ (Nat.two_pow_pos n), Nat.add_mul_mod_self_right]
theorem mod_pw_succ (m i : Nat) : m % pw (i + 1) = m % pw i + pw i * (m / pw i % 4294967296) := by rw [pw_succ, Nat.mod_mul]
end Go.Proofs.Ytecfdemglbfnoaa.Num
end
section
namespace Go.Proofs.Ytecfdemglbfnoaa.PT
open Go.RowKit Go.Proofs.YtecfdemglbfnoaaW.PrintWords Go.Proofs.YtecfdemglbfnoaaW.PrintLast Go.Proofs.YtecfdemglbfnoaaW.PrintMore
attribute [local go_sem] max2_int min2_int max_two min_two max_three min_three max_four min_four   -- for this text's walks alone
set_option linter.unusedVariables false
set_option linter.unusedSimpArgs false
def bits_LeadingZeros32.f (a0 : Int) : Option (Int) := (bits_Len32.f a0).bind fun t941 => (some (wrap64 (32 - t941)))
set_option maxHeartbeats 8000000 in
set_option maxRecDepth 100000 in
theorem bits_LeadingZeros32.calls (a0 : Int) (r : Int) (w : World) (h : bits_LeadingZeros32.f a0 = some r) :
 Calls Try.prog 188 #[.int .u32 a0] w fun e w' => e = .returned (.int .i64 r) ∧ Drawn0 w w' := by
 have H : ((bits_Len32.f a0).bind fun t941 => (some (wrap64 (32 - t941)))) = some r := h
 clear h
 replace H := Option.bind_eq_some_iff.mp H
 obtain ⟨t941, A20, H⟩ := H
 replace H : (some (wrap64 (32 - t941))) = some r := H
 have A2 := Aside0.mk A20
 clear A20
 obtain rfl := Option.some.inj H
 go_enter Try.func188, Try.ntmps188
 go_wp2_with (first | ((with_reducible refine gate_callee (f := 181) rfl ?_); refine goesL_ (some 4) rfl rfl Try.func181 (by kernel_rfl) rfl #[.int .u32 a0] rfl lu ?_; (with_reducible refine (bits_Len32.calls a0 t941 _ A2.out).mono ?_); rintro e w' ⟨rfl, ⟨nd, rfl⟩⟩; refine ⟨_, rfl, ?_⟩))
 go_ret
 exact ⟨by first | rfl | (simp; done) | (simp [*]; done), by repeat (first | exact Drawn0.refl _ | apply Drawn0.step)⟩
end Go.Proofs.Ytecfdemglbfnoaa.PT
end
section
namespace Go.Proofs.Ytecfdemglbfnoaa.Num
open Go.RowKit Go.Proofs.Ytecfdemglbfnoaa.PT Go.Proofs.YtecfdemglbfnoaaW.PrintWords Go.Proofs.YtecfdemglbfnoaaW.PrintLast Go.Proofs.YtecfdemglbfnoaaW.PrintMore
/-- The number of binary digits. -/
def sz (n : Nat) : Nat := if n = 0 then 0 else n.log2 + 1
theorem sz_zero : sz 0 = 0 := rfl
theorem sz_eq {n b : Nat} (h1 : 2 ^ b ≤ n) (h2 : n < 2 ^ (b + 1)) : sz n = b + 1 := by
  have h0 : n ≠ 0 := by have := Nat.two_pow_pos b; omega
  unfold sz; rw [if_neg h0, (Nat.log2_eq_iff h0).mpr ⟨h1, h2⟩]
theorem sz_pos {n : Nat} (h : n ≠ 0) : 1 ≤ sz n := by unfold sz; rw [if_neg h]; omega
theorem sz_spec {n : Nat} (h : n ≠ 0) : 2 ^ (sz n - 1) ≤ n ∧ n < 2 ^ sz n := by
  unfold sz; rw [if_neg h]; exact ⟨Nat.log2_self_le h, Nat.lt_log2_self⟩
theorem sz_div {n k : Nat} (h : n / 2 ^ k ≠ 0) : sz n = k + sz (n / 2 ^ k) := by
  obtain ⟨h1, h2⟩ := sz_spec h
  have h3 := sz_pos h
  obtain ⟨L, hL⟩ : ∃ L, sz (n / 2 ^ k) = L + 1 := ⟨sz (n / 2 ^ k) - 1, by omega⟩
  rw [hL] at h1 h2 ⊢
  rw [Nat.add_sub_cancel] at h1
  rw [Nat.le_div_iff_mul_le (Nat.two_pow_pos k), ← Nat.pow_add] at h1
  rw [Nat.div_lt_iff_lt_mul (Nat.two_pow_pos k), ← Nat.pow_add] at h2
  rw [sz_eq (b := L + k) h1 (by rw [show L + k + 1 = L + 1 + k from by omega]; exact h2)]; omega
theorem sz_le {n b : Nat} (h : n < 2 ^ b) : sz n ≤ b := by
  by_cases h0 : n = 0
  · subst h0; rw [sz_zero]; omega
  · obtain ⟨h1, _⟩ := sz_spec h0
    have := sz_pos h0
    have : 2 ^ (sz n - 1) < 2 ^ b := by omega
    have := (Nat.pow_lt_pow_iff_right (by decide : 1 < 2)).mp this
    omega
def ltab : ByteArray := ⟨#[0, 1, 2, 2, 3, 3, 3, 3, 4, 4, 4, 4, 4, 4, 4, 4, 5, 5, 5, 5, 5, 5, 5, 5, 5, 5, 5, 5, 5, 5, 5, 5, 6, 6, 6, 6, 6, 6, 6, 6, 6, 6, 6, 6, 6, 6, 6, 6, 6, 6, 6, 6, 6, 6, 6, 6, 6, 6, 6, 6, 6, 6, 6, 6, 7, 7, 7, 7, 7, 7, 7, 7, 7, 7, 7, 7, 7, 7, 7, 7, 7, 7, 7, 7, 7, 7, 7, 7, 7, 7, 7, 7, 7, 7, 7, 7, 7, 7, 7, 7, 7, 7, 7, 7, 7, 7, 7, 7, 7, 7, 7, 7, 7, 7, 7, 7, 7, 7, 7, 7, 7, 7, 7, 7, 7, 7, 7, 7, 8, 8, 8, 8, 8, 8, 8, 8, 8, 8, 8, 8, 8, 8, 8, 8, 8, 8, 8, 8, 8, 8, 8, 8, 8, 8, 8, 8, 8, 8, 8, 8, 8, 8, 8, 8, 8, 8, 8, 8, 8, 8, 8, 8, 8, 8, 8, 8, 8, 8, 8, 8, 8, 8, 8, 8, 8, 8, 8, 8, 8, 8, 8, 8, 8, 8, 8, 8, 8, 8, 8, 8, 8, 8, 8, 8, 8, 8, 8, 8, 8, 8, 8, 8, 8, 8, 8, 8, 8, 8, 8, 8, 8, 8, 8, 8, 8, 8, 8, 8, 8, 8, 8, 8, 8, 8, 8, 8, 8, 8, 8, 8, 8, 8, 8, 8, 8, 8, 8, 8, 8, 8, 8, 8, 8, 8, 8, 8]⟩
theorem ltab_at : ∀ i : Fin 256, bt ltab (i.val : Int) = (sz i.val : Int) := by decide +kernel
theorem ltab_at' (i : Nat) (h : i < 256) : bt ltab (i : Int) = (sz i : Int) := ltab_at ⟨i, h⟩
theorem Len32_eq (a0 : Int) : bits_Len32.f a0 = (if a0 ≥ 65536 then (if (a0 / 65536) ≥ 256 then (if 0 ≤ (((a0 / 65536) / 256) % 256) then (if (((a0 / 65536) / 256) % 256) < 256 then (some (wrap64 ((16 + 8) + (wrap64 (bt ltab (((a0 / 65536) / 256) % 256)))))) else (none)) else (none)) else (if 0 ≤ ((a0 / 65536) % 256) then (if ((a0 / 65536) % 256) < 256 then (some (wrap64 (16 + (wrap64 (bt ltab ((a0 / 65536) % 256)))))) else (none)) else (none))) else (if a0 ≥ 256 then (if 0 ≤ ((a0 / 256) % 256) then (if ((a0 / 256) % 256) < 256 then (some (wrap64 ((0 + 8) + (wrap64 (bt ltab ((a0 / 256) % 256)))))) else (none)) else (none)) else (if 0 ≤ ((a0) % 256) then (if ((a0) % 256) < 256 then (some (wrap64 (0 + (wrap64 (bt ltab ((a0) % 256)))))) else (none)) else (none)))) := rfl
theorem Len32_f (n : Nat) (h : n < 4294967296) : bits_Len32.f (n : Int) = some ((sz n : Nat) : Int) := by
  rw [Len32_eq]
  have w : ∀ x : Nat, x ≤ 100 → wrap64 (x : Int) = (x : Int) := fun x hx => w64 (by omega) (by omega)
  have hb : sz n ≤ 32 := sz_le (b := 32) h
  by_cases c1 : (n : Int) ≥ 65536
  · rw [if_pos c1]
    have e1 : (n : Int) / 65536 = ((n / 65536 : Nat) : Int) := rfl
    have z1 : sz n = 16 + sz (n / 65536) := sz_div (k := 16) (by show n / 65536 ≠ 0; omega)
    rw [e1]
    by_cases c2 : ((n / 65536 : Nat) : Int) ≥ 256
    · have e2 : ((n / 65536 : Nat) : Int) / 256 % 256 = ((n / 65536 / 256 : Nat) : Int) := by omega
      have z2 : sz (n / 65536) = 8 + sz (n / 65536 / 256) := sz_div (k := 8) (by show n / 65536 / 256 ≠ 0; omega)
      have l2 : n / 65536 / 256 < 256 := by omega
      rw [if_pos c2, e2, if_pos (by omega), if_pos (by omega), ltab_at' _ l2, w _ (by omega)]
      rw [z1, z2, w64 (by omega) (by omega)]; congr 1 <;> omega
    · have e2 : ((n / 65536 : Nat) : Int) % 256 = ((n / 65536 : Nat) : Int) := by omega
      have l2 : n / 65536 < 256 := by omega
      rw [if_neg c2, e2, if_pos (by omega), if_pos (by omega), ltab_at' _ l2, w _ (by omega)]
      rw [z1, w64 (by omega) (by omega)]; congr 1 <;> omega
  · rw [if_neg c1]
    by_cases c2 : (n : Int) ≥ 256
    · have e2 : (n : Int) / 256 % 256 = ((n / 256 : Nat) : Int) := by omega
      have z2 : sz n = 8 + sz (n / 256) := sz_div (k := 8) (by show n / 256 ≠ 0; omega)
      have l2 : n / 256 < 256 := by omega
      rw [if_pos c2, e2, if_pos (by omega), if_pos (by omega), ltab_at' _ l2, w _ (by omega)]
      rw [z2, w64 (by omega) (by omega)]; congr 1 <;> omega
    · have e2 : (n : Int) % 256 = (n : Int) := by omega
      have l2 : n < 256 := by omega
      rw [if_neg c2, e2, if_pos (by omega), if_pos (by omega), ltab_at' _ l2, w _ (by omega)]
      rw [w64 (by omega) (by omega)]; congr 1 <;> omega
theorem LeadingZeros32_f (n : Nat) (h : n < 4294967296) : bits_LeadingZeros32.f (n : Int) = some ((32 - sz n : Nat) : Int) := by
  have hb : sz n ≤ 32 := sz_le (b := 32) h
  unfold bits_LeadingZeros32.f
  rw [Len32_f n h, Option.bind_some, w64 (by omega) (by omega)]; congr 1 <;> omega
/-- A limb other than 0, shifted by its leading zeros, is at least half the base. -/
theorem lz_shift {n : Nat} (h0 : n ≠ 0) (h : n < 4294967296) : 2147483648 ≤ n * 2 ^ (32 - sz n) ∧ n * 2 ^ (32 - sz n) < 4294967296 ∧ 32 - sz n ≤ 31 := by
  have hb : sz n ≤ 32 := sz_le (b := 32) h
  have h1 := sz_pos h0
  obtain ⟨h2, h3⟩ := sz_spec h0
  have e1 : (2147483648 : Nat) = 2 ^ (sz n - 1) * 2 ^ (32 - sz n) := by rw [← Nat.pow_add, show sz n - 1 + (32 - sz n) = 31 from by omega]
  have e2 : (4294967296 : Nat) = 2 ^ sz n * 2 ^ (32 - sz n) := by rw [← Nat.pow_add, show sz n + (32 - sz n) = 32 from by omega]
  refine ⟨?_, ?_, by omega⟩
  · rw [e1]; exact Nat.mul_le_mul_right _ h2
  · conv => rhs; rw [e2]
    exact Nat.mul_lt_mul_of_pos_right h3 (Nat.two_pow_pos _)
end Go.Proofs.Ytecfdemglbfnoaa.Num
end
