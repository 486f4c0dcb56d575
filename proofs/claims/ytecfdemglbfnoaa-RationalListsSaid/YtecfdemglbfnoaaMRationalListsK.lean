/- Walks and plain facts for the law RationalLists, several texts in one: each theorem says what it shows; no condition beyond those that it names. -/
import Derived.Deep.Slices
import Derived.Deep.Fields
import Derived.SizedLaws
import Derived.Test.YtecfdemglbfnoaaMRationalListsJ
section
namespace Go.Proofs.Ytecfdemglbfnoaa.PT
open Go.RowKit Go.Proofs.YtecfdemglbfnoaaW.PrintWords Go.Proofs.YtecfdemglbfnoaaW.PrintLast Go.Proofs.YtecfdemglbfnoaaW.PrintMore
attribute [local go_sem] max2_int min2_int max_two min_two max_three min_three max_four min_four
set_option linter.unusedVariables false
set_option linter.unusedSimpArgs false
set_option maxHeartbeats 8000000
set_option maxRecDepth 100000
def codewrightref02_Add.f (k : Nat) (a0_0 : Bool) (l0_1 : List Int) (l0_2 : List Int) (a1_0 : Bool) (l1_1 : List Int) (l1_2 : List Int) : Option (Bool × List Int × List Int) := (codewrightref02_Trim.f k a0_0 l0_1 l0_2).bind fun bt1716 => ((codewrightref02_Trim.f k a1_0 l1_1 l1_2).bind fun bt1723 => ((codewrightref01_Mul.f k bt1716.2.1 bt1723.2.2).bind fun t1730 => ((codewrightref01_Mul.f k bt1723.2.1 bt1716.2.2).bind fun t1733 => ((codewrightref01_Mul.f k bt1716.2.2 bt1723.2.2).bind fun t1736 => (if (bt1716.1 == bt1723.1) = true then ((codewrightref01_Add.f k t1730 t1733).bind fun t1739 => ((codewrightref02_Make.f k bt1716.1 t1739 t1736).bind fun bt1742 => (some (bt1742.1, bt1742.2.1, bt1742.2.2)))) else ((codewrightref01_Cmp.f k t1730 t1733).bind fun t1749 => (if t1749 ≥ 0 then ((codewrightref01_Sub.f k t1730 t1733).bind fun t1750 => ((codewrightref02_Make.f k bt1716.1 t1750 t1736).bind fun bt1753 => (some (bt1753.1, bt1753.2.1, bt1753.2.2)))) else ((codewrightref01_Sub.f k t1733 t1730).bind fun t1760 => ((codewrightref02_Make.f k bt1723.1 t1760 t1736).bind fun bt1763 => (some (bt1763.1, bt1763.2.1, bt1763.2.2)))))))))))
def codewrightref02_Add.T7 : Bool × List (List Nat × List Nat) := (true, [([], []), ([0], [0]), ([], []), ([], []), ([2, 3], [2, 3]), ([], []), ([1, 4, 5, 4], [1, 4, 5]), ([6, 6, 0, 1, 2, 3, 4, 5, 6], [6])])
def codewrightref02_Add.B7 : List Nat := [0, 1, 0, 0, 12, 0, 63, 127]
theorem codewrightref02_Add.tab7 : rtab .any (opsOf Try.f100 7) = codewrightref02_Add.T7 := by kernel_rfl
theorem codewrightref02_Add.bits7 : waitsOk codewrightref02_Add.T7.2 codewrightref02_Add.B7 = true := by kernel_rfl
def codewrightref02_Add.T9 : Bool × List (List Nat × List Nat) := (true, [([], []), ([0], [0]), ([], []), ([], []), ([2, 3], [2, 3]), ([], []), ([1, 4, 5, 4], [1, 4, 5]), ([6, 6, 0, 1, 2, 3, 4, 5, 6], [6])])
def codewrightref02_Add.B9 : List Nat := [0, 1, 0, 0, 12, 0, 63, 127]
theorem codewrightref02_Add.tab9 : rtab .any (opsOf Try.f100 9) = codewrightref02_Add.T9 := by kernel_rfl
theorem codewrightref02_Add.bits9 : waitsOk codewrightref02_Add.T9.2 codewrightref02_Add.B9 = true := by kernel_rfl
def codewrightref02_Add.T10 : Bool × List (List Nat × List Nat) := (true, [([], []), ([0], [0]), ([], []), ([], []), ([2, 3], [2, 3]), ([], []), ([1, 4, 5, 4], [1, 4, 5]), ([6, 6, 0, 1, 2, 3, 4, 5, 6], [6])])
def codewrightref02_Add.B10 : List Nat := [0, 1, 0, 0, 12, 0, 63, 127]
theorem codewrightref02_Add.tab10 : rtab .any (opsOf Try.f100 10) = codewrightref02_Add.T10 := by kernel_rfl
theorem codewrightref02_Add.bits10 : waitsOk codewrightref02_Add.T10.2 codewrightref02_Add.B10 = true := by kernel_rfl
theorem codewrightref02_Add.calls (k : Nat) (a0_0 : Bool) (P0_1_ : Nat → Prop) (A0_1 : Option Addr) (c0_1 : Nat) (l0_1 : List Int) (P0_2_ : Nat → Prop) (A0_2 : Option Addr) (c0_2 : Nat) (l0_2 : List Int) (a1_0 : Bool) (P1_1_ : Nat → Prop) (A1_1 : Option Addr) (c1_1 : Nat) (l1_1 : List Int) (P1_2_ : Nat → Prop) (A1_2 : Option Addr) (c1_2 : Nat) (l1_2 : List Int) (r1 : Bool) (r2 : List Int) (r3 : List Int) (w : World) (hs0_1 : Kd.V (Kd.int .u32) 48 w w.heap.size (fun k_ => P0_1_ k_) (.slice A0_1 l0_1.length c0_1) l0_1) (hs0_2 : Kd.V (Kd.int .u32) 48 w w.heap.size (fun k_ => P0_2_ k_) (.slice A0_2 l0_2.length c0_2) l0_2) (hs1_1 : Kd.V (Kd.int .u32) 48 w w.heap.size (fun k_ => P1_1_ k_) (.slice A1_1 l1_1.length c1_1) l1_1) (hs1_2 : Kd.V (Kd.int .u32) 48 w w.heap.size (fun k_ => P1_2_ k_) (.slice A1_2 l1_2.length c1_2) l1_2) (h : codewrightref02_Add.f k a0_0 l0_1 l0_2 a1_0 l1_1 l1_2 = some (r1, r2, r3)) :
 Calls Try.prog 100 #[.agg #[.bool a0_0, .slice A0_1 l0_1.length c0_1, .slice A0_2 l0_2.length c0_2], .agg #[.bool a1_0, .slice A1_1 l1_1.length c1_1, .slice A1_2 l1_2.length c1_2]] w fun e w' => ∃ v1_ v2_ : Value, e = .returned (.agg #[.bool r1, v1_, v2_]) ∧ Kd.V (Kd.int .u32) 48 w' w.heap.size (fun k_ => ((P0_1_ k_ ∨ P0_2_ k_ ∨ P1_1_ k_ ∨ P1_2_ k_) ∨ w.heap.size ≤ k_)) v1_ r2 ∧ Kd.V (Kd.int .u32) 48 w' w.heap.size (fun k_ => ((P0_1_ k_ ∨ P0_2_ k_ ∨ P1_1_ k_ ∨ P1_2_ k_) ∨ w.heap.size ≤ k_)) v2_ r3 ∧ Below w.heap.size w w' := by
 have hc := Try.underlying67
 have al := am (show Kd.V (Kd.int .u32) 48 w w.heap.size (fun k_ => ((P0_1_ k_ ∨ P0_2_ k_ ∨ P1_1_ k_ ∨ P1_2_ k_) ∨ w.heap.size ≤ k_)) (.slice A0_1 l0_1.length c0_1) l0_1 from Kd.V_mono hs0_1 (fun k_ hk => .inl (.inl hk)))
 have an := am (show Kd.V (Kd.int .u32) 48 w w.heap.size (fun k_ => ((P0_1_ k_ ∨ P0_2_ k_ ∨ P1_1_ k_ ∨ P1_2_ k_) ∨ w.heap.size ≤ k_)) (.slice A0_2 l0_2.length c0_2) l0_2 from Kd.V_mono hs0_2 (fun k_ hk => .inl (.inr (.inl hk))))
 have ao := am (show Kd.V (Kd.int .u32) 48 w w.heap.size (fun k_ => ((P0_1_ k_ ∨ P0_2_ k_ ∨ P1_1_ k_ ∨ P1_2_ k_) ∨ w.heap.size ≤ k_)) (.slice A1_1 l1_1.length c1_1) l1_1 from Kd.V_mono hs1_1 (fun k_ hk => .inl (.inr (.inr (.inl hk)))))
 have ap := am (show Kd.V (Kd.int .u32) 48 w w.heap.size (fun k_ => ((P0_1_ k_ ∨ P0_2_ k_ ∨ P1_1_ k_ ∨ P1_2_ k_) ∨ w.heap.size ≤ k_)) (.slice A1_2 l1_2.length c1_2) l1_2 from Kd.V_mono hs1_2 (fun k_ hk => .inl (.inr (.inr (.inr hk)))))
 have HB := am (Below.refl w.heap.size w)
 have H : ((codewrightref02_Trim.f k a0_0 l0_1 l0_2).bind fun aO => ((codewrightref02_Trim.f k a1_0 l1_1 l1_2).bind fun aQ => ((codewrightref01_Mul.f k aO.2.1 aQ.2.2).bind fun aJ => ((codewrightref01_Mul.f k aQ.2.1 aO.2.2).bind fun aK => ((codewrightref01_Mul.f k aO.2.2 aQ.2.2).bind fun aM => (if (aO.1 == aQ.1) = true then ((codewrightref01_Add.f k aJ aK).bind fun aY => ((codewrightref02_Make.f k aO.1 aY aM).bind fun a3 => (some (a3.1, a3.2.1, a3.2.2)))) else ((codewrightref01_Cmp.f k aJ aK).bind fun aR => (if aR ≥ 0 then ((codewrightref01_Sub.f k aJ aK).bind fun aZ => ((codewrightref02_Make.f k aO.1 aZ aM).bind fun a4 => (some (a4.1, a4.2.1, a4.2.2)))) else ((codewrightref01_Sub.f k aK aJ).bind fun a0 => ((codewrightref02_Make.f k aQ.1 a0 aM).bind fun a5 => (some (a5.1, a5.2.1, a5.2.2)))))))))))) = some (r1, r2, r3) := h
 clear h
 obtain ⟨⟨aE, aF, aC⟩, A3, H⟩ := bs H
 (try dsimp -simprocs only at H)
 obtain ⟨⟨aL, aN, aI⟩, A4, H⟩ := bs H
 (try dsimp -simprocs only at H)
 obtain ⟨aJ, A5, H⟩ := bs H
 (try dsimp -simprocs only at H)
 obtain ⟨aK, A6, H⟩ := bs H
 (try dsimp -simprocs only at H)
 obtain ⟨aM, A7, H⟩ := bs H
 (try dsimp -simprocs only at H)
 by_cases c8 : (aE == aL) = true
 ·
  rw [if_pos c8] at H
  have f7 : (aE == aL) = true := c8
  (try (have f8 : decide (aE = aL) = true := by simpa using c8))
  (try (have f9 : (aE == aL) = true := by simpa using c8))
  clear c8
  obtain ⟨aY, A9, H⟩ := bs H
  (try dsimp -simprocs only at H)
  obtain ⟨⟨bA, bB, bC⟩, he, H⟩ := bs H
  (try dsimp -simprocs only at H)
  simp only [Option.some.injEq, Prod.mk.injEq] at H
  obtain ⟨rfl, rfl, rfl⟩ := H
  go_enter Try.func100, Try.ntmps100
  try go_wp2_with (first | ((with_reducible refine gate_dst (N := 2) rfl ?_); refine box_event ?hg (N := 2) ?hd (cs := #[.bool a0_0, .slice A0_1 l0_1.length c0_1, .slice A0_2 l0_2.length c0_2]) (t := 67) ?hr ?_; (case hd => rfl); (case hg => rfl); (case hr => first | (go_simp; done) | (go_simp; rfl)); intro ae hg hB hbox hb; replace al := ke al hg hb; replace an := ke an hg hb; replace ao := ke ao hg hb; replace ap := ke ap hg hb; have aa := am (hbox); have bi := ng hg (bu HB.out); have af := ng hg (bu HB.out); replace HB := be HB hb; clear hb hbox hg) | ((with_reducible refine gate_dst (N := 3) rfl ?_); refine box_event ?hg (N := 3) ?hd (cs := #[.bool a1_0, .slice A1_1 l1_1.length c1_1, .slice A1_2 l1_2.length c1_2]) (t := 67) ?hr ?_; (case hd => rfl); (case hg => rfl); (case hr => first | (go_simp; done) | (go_simp; rfl)); intro ag hg hC hbox hb; replace al := ke al hg hb; replace an := ke an hg hb; replace ao := ke ao hg hb; replace ap := ke ap hg hb; have ab := am (hbox); have bj := ng hg (bu1 HB.out af.out); have aj := ng hg (bu1 HB.out af.out); replace HB := be1 HB af hb; have aG := nl hg aa; have aH := nr hg aa; replace aa := kb aa hb; clear hb hbox hg) | ((with_reducible refine gate_dst (N := 4) rfl ?_); refine box_event ?hg (N := 4) ?hd (cs := #[.bool false, .slice none 0 0, .slice none 0 0]) (t := 67) ?hr ?_; (case hd => rfl); (case hg => rfl); (case hr => first | (go_simp; done) | (go_simp; rfl)); intro ad hg hD hbox hb; replace al := ke al hg hb; replace an := ke an hg hb; replace ao := ke ao hg hb; replace ap := ke ap hg hb; have ac := am (hbox); have bk := ng hg (bu2 HB.out af.out aj.out); have aq := ng hg (bu2 HB.out af.out aj.out); replace HB := be2 HB af aj hb; have ai := nl hg aa; have az := nr hg aa; replace aa := kb aa hb; have aw := nl hg ab; have aA := nr hg ab; replace ab := kb ab hb; clear hb hbox hg; have gN := aG.out; have gO := aH.out; have gP := ai.out; have gQ := az.out; obtain ⟨dU, dV, dW, dX, dY, dZ⟩ := bz aa) | ((with_reducible refine gate_callee (f := 88) rfl ?_); refine goesL_ (some 9) rfl rfl Try.func88 (by kernel_rfl) rfl #[.agg #[.bool a0_0, .slice A0_1 l0_1.length c0_1, .slice A0_2 l0_2.length c0_2]] rfl lu ?_; (with_reducible refine (codewrightref02_Trim.calls k a0_0 (fun k_ => (((((P0_1_ k_ ∨ P0_2_ k_ ∨ P1_1_ k_ ∨ P1_2_ k_) ∨ w.heap.size ≤ k_) ∧ k_ ≠ ae) ∧ k_ ≠ ag) ∧ k_ ≠ ad)) _ _ l0_1 (fun k_ => (((((P0_1_ k_ ∨ P0_2_ k_ ∨ P1_1_ k_ ∨ P1_2_ k_) ∨ w.heap.size ≤ k_) ∧ k_ ≠ ae) ∧ k_ ≠ ag) ∧ k_ ≠ ad)) _ _ l0_2 aE aF aC _ ?side1 ?side2 A3.out).mono ?_); (case side1 => exact vz al.out); (case side2 => exact vz an.out); rintro e hf ⟨bD, bE, rfl, aD, aP, hb⟩; refine ⟨_, rfl, ?_⟩; replace al := kv al hb; replace an := kv an hb; replace ao := kv ao hb; replace ap := kv ap hb; have ak := ar w.heap.size (ok' := fun k_ => ((P0_1_ k_ ∨ P0_2_ k_ ∨ P1_1_ k_ ∨ P1_2_ k_) ∨ w.heap.size ≤ k_) ∧ k_ ≠ ae ∧ k_ ≠ ag ∧ k_ ≠ ad) aD (fa (fz3 HB af aj aq) (fa (fb aa) (fa (fb ab) (fb ac)))); have ah := ar w.heap.size (ok' := fun k_ => ((P0_1_ k_ ∨ P0_2_ k_ ∨ P1_1_ k_ ∨ P1_2_ k_) ∨ w.heap.size ≤ k_) ∧ k_ ≠ ae ∧ k_ ≠ ag ∧ k_ ≠ ad) aP (fa (fz3 HB af aj aq) (fa (fb aa) (fa (fb ab) (fb ac)))); replace aa := kb aa hb; replace ab := kb ab hb; replace ac := kb ac hb; replace HB := be3 HB af aj aq hb; (try clear hb); (try clear aD); (try clear aP); obtain ⟨d0, d1, d2, d3, d4, d5⟩ := bz aa; obtain ⟨bd, bf, ga⟩ := Kd.V_slice ak.out; subst ga; obtain ⟨a6, a7, gb⟩ := Kd.V_slice ah.out; subst gb) | ((with_reducible refine gate_store (t := 67) (p := 2) rfl ?_); refine store_event (t := 67) (p := 2) (v := ?vo_w21) (w1 := (((hf.setCell ⟨ae, 0, none⟩ (.bool aE)).setCell ⟨ae, 1, none⟩ (.slice bd aF.length bf)).setCell ⟨ae, 2, none⟩ (.slice a6 aC.length a7))) ?hg ?ho ?hn ?hr ?_; (case ho => rfl); (case hg => rfl); (case hn => rfl); (case hr => first | (go_simp; done) | (go_simp; rfl)); intro bw hw; have bF : Aside0 (Kd.V (Kd.int .u32) 48 bw w.heap.size (fun k_ => ((P0_1_ k_ ∨ P0_2_ k_ ∨ P1_1_ k_ ∨ P1_2_ k_) ∨ w.heap.size ≤ k_) ∧ k_ ≠ ae ∧ k_ ≠ ag ∧ k_ ≠ ad) (.slice A0_1 l0_1.length c0_1) l0_1) := ⟨(by rw [hw]; exact vf al.out)⟩; have bG : Aside0 (Kd.V (Kd.int .u32) 48 bw w.heap.size (fun k_ => ((P0_1_ k_ ∨ P0_2_ k_ ∨ P1_1_ k_ ∨ P1_2_ k_) ∨ w.heap.size ≤ k_) ∧ k_ ≠ ae ∧ k_ ≠ ag ∧ k_ ≠ ad) (.slice A0_2 l0_2.length c0_2) l0_2) := ⟨(by rw [hw]; exact vf an.out)⟩; have bH : Aside0 (Kd.V (Kd.int .u32) 48 bw w.heap.size (fun k_ => ((P0_1_ k_ ∨ P0_2_ k_ ∨ P1_1_ k_ ∨ P1_2_ k_) ∨ w.heap.size ≤ k_) ∧ k_ ≠ ae ∧ k_ ≠ ag ∧ k_ ≠ ad) (.slice A1_1 l1_1.length c1_1) l1_1) := ⟨(by rw [hw]; exact vf ao.out)⟩; have bI : Aside0 (Kd.V (Kd.int .u32) 48 bw w.heap.size (fun k_ => ((P0_1_ k_ ∨ P0_2_ k_ ∨ P1_1_ k_ ∨ P1_2_ k_) ∨ w.heap.size ≤ k_) ∧ k_ ≠ ae ∧ k_ ≠ ag ∧ k_ ≠ ad) (.slice A1_2 l1_2.length c1_2) l1_2) := ⟨(by rw [hw]; exact vf ap.out)⟩; have bJ : Aside0 (Kd.V (Kd.int .u32) 48 bw w.heap.size (fun k_ => ((P0_1_ k_ ∨ P0_2_ k_ ∨ P1_1_ k_ ∨ P1_2_ k_) ∨ w.heap.size ≤ k_) ∧ k_ ≠ ae ∧ k_ ≠ ag ∧ k_ ≠ ad) (.slice bd aF.length bf) aF) := ⟨(by rw [hw]; exact vf ak.out)⟩; have bK : Aside0 (Kd.V (Kd.int .u32) 48 bw w.heap.size (fun k_ => ((P0_1_ k_ ∨ P0_2_ k_ ∨ P1_1_ k_ ∨ P1_2_ k_) ∨ w.heap.size ≤ k_) ∧ k_ ≠ ae ∧ k_ ≠ ag ∧ k_ ≠ ad) (.slice a6 aC.length a7) aC) := ⟨(by rw [hw]; exact vf ah.out)⟩; have bL : Aside0 (bw.heap[ae]? = some (.cells #[.bool aE, .slice bd aF.length bf, .slice a6 aC.length a7] 67 (0, 0))) := ⟨(by rw [hw]; exact (kp aa.out))⟩; have bM : Aside0 (bw.heap[ag]? = some (.cells #[.bool a1_0, .slice A1_1 l1_1.length c1_1, .slice A1_2 l1_2.length c1_2] 67 (0, 0))) := ⟨(by rw [hw]; exact (kf aH.out ab.out))⟩; have bN : Aside0 (bw.heap[ad]? = some (.cells #[.bool false, .slice none 0 0, .slice none 0 0] 67 (0, 0))) := ⟨(by rw [hw]; exact (kf az.out ac.out))⟩; have bO : Aside0 (Below w.heap.size w bw) := ⟨(by rw [hw]; exact (bu3 HB.out af.out aj.out aq.out))⟩; clear hw al an ao ap ak ah aa ab ac HB; have al := bF; have an := bG; have ao := bH; have ap := bI; have ak := bJ; have ah := bK; have aa := bL; have ab := bM; have ac := bN; have HB := bO; clear bF bG bH bI bJ bK bL bM bN bO; have gR := aw.out; have gS := aA.out; obtain ⟨d6, d7, d8, d9, ea, eb⟩ := bz ab) | ((with_reducible refine gate_callee (f := 88) rfl ?_); refine goesL_ (some 11) rfl rfl Try.func88 (by kernel_rfl) rfl #[.agg #[.bool a1_0, .slice A1_1 l1_1.length c1_1, .slice A1_2 l1_2.length c1_2]] rfl lu ?_; (with_reducible refine (codewrightref02_Trim.calls k a1_0 (fun k_ => (((P0_1_ k_ ∨ P0_2_ k_ ∨ P1_1_ k_ ∨ P1_2_ k_) ∨ w.heap.size ≤ k_) ∧ (k_ ≠ ae ∧ (k_ ≠ ag ∧ k_ ≠ ad)))) _ _ l1_1 (fun k_ => (((P0_1_ k_ ∨ P0_2_ k_ ∨ P1_1_ k_ ∨ P1_2_ k_) ∨ w.heap.size ≤ k_) ∧ (k_ ≠ ae ∧ (k_ ≠ ag ∧ k_ ≠ ad)))) _ _ l1_2 aL aN aI _ ?side1 ?side2 A4.out).mono ?_); (case side1 => exact vz ao.out); (case side2 => exact vz ap.out); rintro e hE ⟨bP, bQ, rfl, aD, aP, hb⟩; refine ⟨_, rfl, ?_⟩; replace al := kv al hb; replace an := kv an hb; replace ao := kv ao hb; replace ap := kv ap hb; replace ak := kv ak hb; replace ah := kv ah hb; have av := ar w.heap.size (ok' := fun k_ => ((P0_1_ k_ ∨ P0_2_ k_ ∨ P1_1_ k_ ∨ P1_2_ k_) ∨ w.heap.size ≤ k_) ∧ k_ ≠ ae ∧ k_ ≠ ag ∧ k_ ≠ ad) aD (fa (fz3 HB af aj aq) (fa (fb aa) (fa (fb ab) (fb ac)))); have au := ar w.heap.size (ok' := fun k_ => ((P0_1_ k_ ∨ P0_2_ k_ ∨ P1_1_ k_ ∨ P1_2_ k_) ∨ w.heap.size ≤ k_) ∧ k_ ≠ ae ∧ k_ ≠ ag ∧ k_ ≠ ad) aP (fa (fz3 HB af aj aq) (fa (fb aa) (fa (fb ab) (fb ac)))); replace aa := kb aa hb; replace ab := kb ab hb; replace ac := kb ac hb; replace HB := be3 HB af aj aq hb; (try clear hb); (try clear aD); (try clear aP); obtain ⟨ec, ed, ee, ef, eg, eh⟩ := bz ab; obtain ⟨ce, cf, gc⟩ := Kd.V_slice av.out; subst gc; obtain ⟨b8, b9, gd⟩ := Kd.V_slice au.out; subst gd; obtain ⟨ei, ej, ek, el, em, en⟩ := bz aa) | ((with_reducible refine gate_callee (f := 57) rfl ?_); refine goesL_ (some 16) rfl rfl Try.func57 (by kernel_rfl) rfl #[.slice bd aF.length bf, .slice b8 aI.length b9] rfl lu ?_; (with_reducible refine (codewrightref01_Mul.calls k _ _ aF _ _ aI aJ _ ?side1 ?side2 ?side3 ?side4 A5.out).mono ?_); (case side1 => exact vr ak.out); (case side2 => exact (Kd.V_reads' ak.out).2.1); (case side3 => exact vr au.out); (case side4 => exact (Kd.V_reads' au.out).2.1); rintro e hF ⟨bR, rfl, aD, hb⟩; refine ⟨_, rfl, ?_⟩; replace aD := R_V_base rfl aD; replace al := kx al hb; replace an := kx an hb; replace ao := kx ao hb; replace ap := kx ap hb; replace ak := kx ak hb; replace ah := kx ah hb; replace av := kx av hb; replace au := kx au hb; have ax := ar0 w.heap.size (ok' := fun k_ => ((P0_1_ k_ ∨ P0_2_ k_ ∨ P1_1_ k_ ∨ P1_2_ k_) ∨ w.heap.size ≤ k_) ∧ k_ ≠ ae ∧ k_ ≠ ag ∧ k_ ≠ ad) aD (fa (fz3 HB af aj aq) (fa (fs aa) (fa (fs ab) (fs ac)))); replace aa := am (blk_below (g := ae) (o := .cells #[.bool aE, .slice bd aF.length bf, .slice a6 aC.length a7] 67 (0, 0)) (kf aG.out aa.out) hb); replace ab := am (blk_below (g := ag) (o := .cells #[.bool aL, .slice ce aN.length cf, .slice b8 aI.length b9] 67 (0, 0)) (kp ab.out) hb); replace ac := am (blk_below (g := ad) (o := .cells #[.bool false, .slice none 0 0, .slice none 0 0] 67 (0, 0)) (kf aA.out ac.out) hb); replace HB := be3 HB af aj aq hb; (try clear hb); (try clear aD); obtain ⟨eo, ep, eq, er, es, et⟩ := bz ab; obtain ⟨eu, ev, ew, ex, ey, ez⟩ := bz aa) | ((with_reducible refine gate_callee (f := 57) rfl ?_); refine goesL_ (some 21) rfl rfl Try.func57 (by kernel_rfl) rfl #[.slice ce aN.length cf, .slice a6 aC.length a7] rfl lu ?_; (with_reducible refine (codewrightref01_Mul.calls k _ _ aN _ _ aC aK _ ?side1 ?side2 ?side3 ?side4 A6.out).mono ?_); (case side1 => exact cu (Kd.V_reads' av.out).2.2); (case side2 => exact (Kd.V_reads' av.out).2.1); (case side3 => exact cu (Kd.V_reads' ah.out).2.2); (case side4 => exact (Kd.V_reads' ah.out).2.1); rintro e hG ⟨bS, rfl, aD, hb⟩; refine ⟨_, rfl, ?_⟩; replace aD := R_V_base rfl aD; replace al := kv al hb; replace an := kv an hb; replace ao := kv ao hb; replace ap := kv ap hb; replace ak := kv ak hb; replace ah := kv ah hb; replace av := kv av hb; replace au := kv au hb; replace ax := kv ax hb; have ay := ar0 w.heap.size (ok' := fun k_ => ((P0_1_ k_ ∨ P0_2_ k_ ∨ P1_1_ k_ ∨ P1_2_ k_) ∨ w.heap.size ≤ k_) ∧ k_ ≠ ae ∧ k_ ≠ ag ∧ k_ ≠ ad) aD (fa (fz3 HB af aj aq) (fa (fb aa) (fa (fb ab) (fb ac)))); replace aa := kb aa hb; replace ab := kb ab hb; replace ac := kb ac hb; replace HB := be3 HB af aj aq hb; (try clear hb); (try clear aD); obtain ⟨eA, eB, eC, eD, eE, eF⟩ := bz aa; obtain ⟨eG, eH, eI, eJ, eK, eL⟩ := bz ab) | ((with_reducible refine gate_callee (f := 57) rfl ?_); refine goesL_ (some 26) rfl rfl Try.func57 (by kernel_rfl) rfl #[.slice a6 aC.length a7, .slice b8 aI.length b9] rfl lu ?_; (with_reducible refine (codewrightref01_Mul.calls k _ _ aC _ _ aI aM _ ?side1 ?side2 ?side3 ?side4 A7.out).mono ?_); (case side1 => exact cu (Kd.V_reads' ah.out).2.2); (case side2 => exact (Kd.V_reads' ah.out).2.1); (case side3 => exact cu (Kd.V_reads' au.out).2.2); (case side4 => exact (Kd.V_reads' au.out).2.1); rintro e hh ⟨bT, rfl, aD, hb⟩; refine ⟨_, rfl, ?_⟩; replace aD := R_V_base rfl aD; replace al := kv al hb; replace an := kv an hb; replace ao := kv ao hb; replace ap := kv ap hb; replace ak := kv ak hb; replace ah := kv ah hb; replace av := kv av hb; replace au := kv au hb; replace ax := kv ax hb; replace ay := kv ay hb; have aB := ar0 w.heap.size (ok' := fun k_ => ((P0_1_ k_ ∨ P0_2_ k_ ∨ P1_1_ k_ ∨ P1_2_ k_) ∨ w.heap.size ≤ k_) ∧ k_ ≠ ae ∧ k_ ≠ ag ∧ k_ ≠ ad) aD (fa (fz3 HB af aj aq) (fa (fb aa) (fa (fb ab) (fb ac)))); replace aa := kb aa hb; replace ab := kb ab hb; replace ac := kb ac hb; replace HB := be3 HB af aj aq hb; (try clear hb); (try clear aD); obtain ⟨eM, eN, eO, eP, eQ, eR⟩ := bz aa; obtain ⟨eS, eT, eU, eV, eW, eX⟩ := bz ab))
  replace al := am (Kd.V_drew al.out)
  replace an := am (Kd.V_drew an.out)
  replace ao := am (Kd.V_drew ao.out)
  replace ap := am (Kd.V_drew ap.out)
  replace ak := am (Kd.V_drew ak.out)
  replace ah := am (Kd.V_drew ah.out)
  replace av := am (Kd.V_drew av.out)
  replace au := am (Kd.V_drew au.out)
  replace ax := am (Kd.V_drew ax.out)
  replace ay := am (Kd.V_drew ay.out)
  replace aB := am (Kd.V_drew aB.out)
  replace aa := am (blk_drew aa.out)
  replace ab := am (blk_drew ab.out)
  replace ac := am (blk_drew ac.out)
  replace HB := am (below_drew1 HB.out)
  obtain ⟨ge, gf, cg⟩ := Kd.V_slice ax.out
  (first | subst cg | (injection cg with f1_ f2_ f3_; have f4_ := f1_.symm; have f5_ := f3_.symm; clear f1_ f2_ f3_; subst f4_; subst f5_))
  obtain ⟨gg, gh, ch⟩ := Kd.V_slice ay.out
  (first | subst ch | (injection ch with f1_ f2_ f3_; have f4_ := f1_.symm; have f5_ := f3_.symm; clear f1_ f2_ f3_; subst f4_; subst f5_))
  refine start_ (n := 8) (S := fun w' => w'.cell? ⟨ae, 0, none⟩ = some (.bool aE) ∧ w'.cell? ⟨ae, 1, none⟩ = some (.slice bd aF.length bf) ∧ w'.cell? ⟨ae, 2, none⟩ = some (.slice a6 aC.length a7)) (ds := []) #[false, false, false, false, false, false, false, false] (by kernel_rfl) rfl rfl ⟨bc aa 0, bc aa 1, bc aa 2⟩ (fun hHeld => ?_); refine with_tabW codewrightref02_Add.tab7 codewrightref02_Add.bits7 (fun HT_ HW_ => ?_)
  generalize hh.drew = hH at al an ao ap ak ah av au ax ay aB aa ab ac HB hHeld ⊢
  refine pq 0 (some 32) #[true, false, false, false, false, false, false, false] HT_ ?_
  refine pq 2 (some 34) #[true, false, true, false, false, false, false, false] HT_ ?_
  refine pq 3 (some 35) #[true, false, true, true, false, false, false, false] HT_ ?_
  refine pq 5 (some 37) #[true, false, true, true, false, true, false, false] HT_ ?_
  refine tq 1 (some 33) #[true, true, true, true, false, true, false, false] HT_ HW_ hHeld ?_
  refine one_ (i := 4) (N := some 36) #[true, true, true, true, true, true, false, false] rfl rfl (one_of HT_.out (by kernel_rfl)) (by decide) (fun K hK => ?_)
  refine goes_ Try.func55 (by kernel_rfl) rfl #[.slice ge aJ.length gf, .slice gg aK.length gh] (by rfl) rfl rfl lu ?_
  with_reducible refine (codewrightref01_Add.calls k _ _ aJ _ _ aK aY _ ?side1 ?side2 ?side3 ?side4 A9.out).mono ?_
  (case side1 => exact cu (Kd.V_reads' ax.out).2.2)
  (case side2 => exact (Kd.V_reads' ax.out).2.1)
  (case side3 => exact cu (Kd.V_reads' ay.out).2.2)
  (case side4 => exact (Kd.V_reads' ay.out).2.1)
  rintro e hI ⟨gT, rfl, aD, hb⟩
  refine ⟨_, rfl, ?_⟩
  replace aD := R_V_base rfl aD
  replace al := kv al hb
  replace an := kv an hb
  replace ao := kv ao hb
  replace ap := kv ap hb
  replace ak := kv ak hb
  replace ah := kv ah hb
  replace av := kv av hb
  replace au := kv au hb
  replace ax := kv ax hb
  replace ay := kv ay hb
  replace aB := kv aB hb
  have aV := ar0 w.heap.size (ok' := fun k_ => ((P0_1_ k_ ∨ P0_2_ k_ ∨ P1_1_ k_ ∨ P1_2_ k_) ∨ w.heap.size ≤ k_) ∧ k_ ≠ ae ∧ k_ ≠ ag ∧ k_ ≠ ad) aD (fa (fz3 HB af aj aq) (fa (fb aa) (fa (fb ab) (fb ac))))
  replace aa := kb aa hb
  replace ab := kb ab hb
  replace ac := kb ac hb
  replace HB := be3 HB af aj aq hb
  (try clear hb)
  (try clear hb2)
  (try clear hk)
  (try clear hi)
  (try clear aD)
  obtain ⟨gi, gj, ci⟩ := Kd.V_slice aV.out
  (first | subst ci | (injection ci with f1_ f2_ f3_; have f4_ := f1_.symm; have f5_ := f3_.symm; clear f1_ f2_ f3_; subst f4_; subst f5_))
  obtain ⟨gk, gl, cj⟩ := Kd.V_slice aB.out
  (first | subst cj | (injection cj with f1_ f2_ f3_; have f4_ := f1_.symm; have f5_ := f3_.symm; clear f1_ f2_ f3_; subst f4_; subst f5_))
  refine hK.out _ _ ⟨bc aa 0, bc aa 1, bc aa 2⟩ (fun hHeld => ?_)
  clear hK K
  refine nq 36 ?_
  refine one_ (i := 6) (N := some 38) #[true, true, true, true, true, true, true, false] rfl rfl (one_of HT_.out (by kernel_rfl)) (by decide) (fun K hK => ?_)
  refine goes_ Try.func80 (by kernel_rfl) rfl #[.bool aE, .slice gi aY.length gj, .slice gk aM.length gl] (by rfl) rfl rfl lu ?_
  with_reducible refine (codewrightref02_Make.calls k aE (fun k_ => (((P0_1_ k_ ∨ P0_2_ k_ ∨ P1_1_ k_ ∨ P1_2_ k_) ∨ w.heap.size ≤ k_) ∧ (k_ ≠ ae ∧ (k_ ≠ ag ∧ k_ ≠ ad)))) _ _ aY (fun k_ => (((P0_1_ k_ ∨ P0_2_ k_ ∨ P1_1_ k_ ∨ P1_2_ k_) ∨ w.heap.size ≤ k_) ∧ (k_ ≠ ae ∧ (k_ ≠ ag ∧ k_ ≠ ad)))) _ _ aM bA bB bC _ ?side1 ?side2 he.out).mono ?_
  (case side1 => exact vz aV.out)
  (case side2 => exact vz aB.out)
  rintro e gm ⟨gU, gV, rfl, aD, aP, hb⟩
  refine ⟨_, rfl, ?_⟩
  replace al := kv al hb
  replace an := kv an hb
  replace ao := kv ao hb
  replace ap := kv ap hb
  replace ak := kv ak hb
  replace ah := kv ah hb
  replace av := kv av hb
  replace au := kv au hb
  replace ax := kv ax hb
  replace ay := kv ay hb
  replace aB := kv aB hb
  replace aV := kv aV hb
  have bl := ar w.heap.size (ok' := fun k_ => ((P0_1_ k_ ∨ P0_2_ k_ ∨ P1_1_ k_ ∨ P1_2_ k_) ∨ w.heap.size ≤ k_) ∧ k_ ≠ ae ∧ k_ ≠ ag ∧ k_ ≠ ad) aD (fa (fz3 HB af aj aq) (fa (fb aa) (fa (fb ab) (fb ac))))
  have bm := ar w.heap.size (ok' := fun k_ => ((P0_1_ k_ ∨ P0_2_ k_ ∨ P1_1_ k_ ∨ P1_2_ k_) ∨ w.heap.size ≤ k_) ∧ k_ ≠ ae ∧ k_ ≠ ag ∧ k_ ≠ ad) aP (fa (fz3 HB af aj aq) (fa (fb aa) (fa (fb ab) (fb ac))))
  replace aa := kb aa hb
  replace ab := kb ab hb
  replace ac := kb ac hb
  replace HB := be3 HB af aj aq hb
  (try clear hb)
  (try clear hb2)
  (try clear hk)
  (try clear hi)
  (try clear aD)
  (try clear aP)
  obtain ⟨gn, gp, ck⟩ := Kd.V_slice bl.out
  (first | subst ck | (injection ck with f1_ f2_ f3_; have f4_ := f1_.symm; have f5_ := f3_.symm; clear f1_ f2_ f3_; subst f4_; subst f5_))
  obtain ⟨gq, gr, cl⟩ := Kd.V_slice bm.out
  (first | subst cl | (injection cl with f1_ f2_ f3_; have f4_ := f1_.symm; have f5_ := f3_.symm; clear f1_ f2_ f3_; subst f4_; subst f5_))
  refine hK.out _ _ ⟨bc aa 0, bc aa 1, bc aa 2⟩ (fun hHeld => ?_)
  clear hK K
  refine nq 38 ?_
  refine one_ (i := 7) (N := none) #[true, true, true, true, true, true, true, true] rfl rfl (one_of HT_.out (by kernel_rfl)) (by decide) (fun K hK => ?_)
  have hs45 : gm.cell? ⟨ad, 0, none⟩ = some (.bool false) := bc ac 0
  have hfs45 := blk_frozen ac.out 0
  have hns45_0 := ai.out
  have hns45_1 := aw.out
  have hms45_0 := az.out
  have hms45_1 := aA.out
  have hs47 : gm.cell? ⟨ad, 1, none⟩ = some (.slice none 0 0) := bc ac 1
  have hfs47 := blk_frozen ac.out 1
  have hns47_0 := ai.out
  have hns47_1 := aw.out
  have hms47_0 := az.out
  have hms47_1 := aA.out
  have hs49 : gm.cell? ⟨ad, 2, none⟩ = some (.slice none 0 0) := bc ac 2
  have hfs49 := blk_frozen ac.out 2
  have hns49_0 := ai.out
  have hns49_1 := aw.out
  have hms49_0 := az.out
  have hms49_1 := aA.out
  refine skip_ (w1 := ?_) (by rfl) rfl ?_ ?_
  rotate_left
  ·
   go_simp
   rfl
  refine hK.out _ _ ⟨((cell_far (p := ⟨ad, _, none⟩) ai.out _).trans (((cell_far (p := ⟨ad, _, none⟩) ai.out _).trans (((cell_far (p := ⟨ad, _, none⟩) ai.out _).trans (hHeld.1)))))), ((cell_far (p := ⟨ad, _, none⟩) ai.out _).trans (((cell_far (p := ⟨ad, _, none⟩) ai.out _).trans (((cell_far (p := ⟨ad, _, none⟩) ai.out _).trans (hHeld.2.1)))))), ((cell_far (p := ⟨ad, _, none⟩) ai.out _).trans (((cell_far (p := ⟨ad, _, none⟩) ai.out _).trans (((cell_far (p := ⟨ad, _, none⟩) ai.out _).trans (hHeld.2.2))))))⟩ (fun hHeld => ?_)
  clear hK K
  refine done_ (done_of HT_.out (by kernel_rfl)) ?_
  try go_wp2
  refine bodyPost_ret (results_cell_row rfl _ _ ad 67 #[.bool bA, .slice gn bB.length gp, .slice gq bC.length gr] (0, 0) _ rfl (kp ac.out) Try.underlying67 rfl (by kernel_rfl)) rfl ?_
  exact ⟨_, _, by first | rfl | (simp [errW_none, errW_some] <;> rfl) | (simp [*, errW_none, errW_some] <;> rfl), by exact vf bl.out, by exact vf bm.out, by repeat (first | (with_reducible first | exact HB.out | apply below_alloc | apply pw_below_drewN | apply below_drew1 | refine below_set ?_ af.out | refine below_set ?_ aj.out | refine below_set ?_ aq.out) | exact HB.out)⟩
 ·
  rw [if_neg c8] at H
  have f7 : (aE == aL) = false := by simpa using c8
  (try (have f8 : decide (aE = aL) = false := by simpa using c8))
  (try (have f9 : (aE == aL) = false := by simpa using c8))
  (try (have hj : ¬ (aE = aL) := by simpa using c8))
  clear c8
  obtain ⟨aR, gW, H⟩ := bs H
  (try dsimp -simprocs only at H)
  by_cases cd : aR ≥ 0
  ·
   rw [if_pos cd] at H
   have cm : decide (0 ≤ aR) = true := decide_eq_true cd
   clear cd
   obtain ⟨aZ, hl, H⟩ := bs H
   (try dsimp -simprocs only at H)
   obtain ⟨⟨bU, bV, bW⟩, hm, H⟩ := bs H
   (try dsimp -simprocs only at H)
   simp only [Option.some.injEq, Prod.mk.injEq] at H
   obtain ⟨rfl, rfl, rfl⟩ := H
   go_enter Try.func100, Try.ntmps100
   try go_wp2_with (first | ((with_reducible refine gate_dst (N := 2) rfl ?_); refine box_event ?hg (N := 2) ?hd (cs := #[.bool a0_0, .slice A0_1 l0_1.length c0_1, .slice A0_2 l0_2.length c0_2]) (t := 67) ?hr ?_; (case hd => rfl); (case hg => rfl); (case hr => first | (go_simp; done) | (go_simp; rfl)); intro ae hg hJ hbox hb; replace al := ke al hg hb; replace an := ke an hg hb; replace ao := ke ao hg hb; replace ap := ke ap hg hb; have aa := am (hbox); have bi := ng hg (bu HB.out); have af := ng hg (bu HB.out); replace HB := be HB hb; clear hb hbox hg) | ((with_reducible refine gate_dst (N := 3) rfl ?_); refine box_event ?hg (N := 3) ?hd (cs := #[.bool a1_0, .slice A1_1 l1_1.length c1_1, .slice A1_2 l1_2.length c1_2]) (t := 67) ?hr ?_; (case hd => rfl); (case hg => rfl); (case hr => first | (go_simp; done) | (go_simp; rfl)); intro ag hg hL hbox hb; replace al := ke al hg hb; replace an := ke an hg hb; replace ao := ke ao hg hb; replace ap := ke ap hg hb; have ab := am (hbox); have bj := ng hg (bu1 HB.out af.out); have aj := ng hg (bu1 HB.out af.out); replace HB := be1 HB af hb; have aG := nl hg aa; have aH := nr hg aa; replace aa := kb aa hb; clear hb hbox hg) | ((with_reducible refine gate_dst (N := 4) rfl ?_); refine box_event ?hg (N := 4) ?hd (cs := #[.bool false, .slice none 0 0, .slice none 0 0]) (t := 67) ?hr ?_; (case hd => rfl); (case hg => rfl); (case hr => first | (go_simp; done) | (go_simp; rfl)); intro ad hg hM hbox hb; replace al := ke al hg hb; replace an := ke an hg hb; replace ao := ke ao hg hb; replace ap := ke ap hg hb; have ac := am (hbox); have bk := ng hg (bu2 HB.out af.out aj.out); have aq := ng hg (bu2 HB.out af.out aj.out); replace HB := be2 HB af aj hb; have ai := nl hg aa; have az := nr hg aa; replace aa := kb aa hb; have aw := nl hg ab; have aA := nr hg ab; replace ab := kb ab hb; clear hb hbox hg; have gX := aG.out; have gY := aH.out; have gZ := ai.out; have g0 := az.out; obtain ⟨eY, eZ, e0, e1, e2, e3⟩ := bz aa) | ((with_reducible refine gate_callee (f := 88) rfl ?_); refine goesL_ (some 9) rfl rfl Try.func88 (by kernel_rfl) rfl #[.agg #[.bool a0_0, .slice A0_1 l0_1.length c0_1, .slice A0_2 l0_2.length c0_2]] rfl lu ?_; (with_reducible refine (codewrightref02_Trim.calls k a0_0 (fun k_ => (((((P0_1_ k_ ∨ P0_2_ k_ ∨ P1_1_ k_ ∨ P1_2_ k_) ∨ w.heap.size ≤ k_) ∧ k_ ≠ ae) ∧ k_ ≠ ag) ∧ k_ ≠ ad)) _ _ l0_1 (fun k_ => (((((P0_1_ k_ ∨ P0_2_ k_ ∨ P1_1_ k_ ∨ P1_2_ k_) ∨ w.heap.size ≤ k_) ∧ k_ ≠ ae) ∧ k_ ≠ ag) ∧ k_ ≠ ad)) _ _ l0_2 aE aF aC _ ?side1 ?side2 A3.out).mono ?_); (case side1 => exact vz al.out); (case side2 => exact vz an.out); rintro e hp ⟨bD, bE, rfl, aD, aP, hb⟩; refine ⟨_, rfl, ?_⟩; replace al := kv al hb; replace an := kv an hb; replace ao := kv ao hb; replace ap := kv ap hb; have ak := ar w.heap.size (ok' := fun k_ => ((P0_1_ k_ ∨ P0_2_ k_ ∨ P1_1_ k_ ∨ P1_2_ k_) ∨ w.heap.size ≤ k_) ∧ k_ ≠ ae ∧ k_ ≠ ag ∧ k_ ≠ ad) aD (fa (fz3 HB af aj aq) (fa (fb aa) (fa (fb ab) (fb ac)))); have ah := ar w.heap.size (ok' := fun k_ => ((P0_1_ k_ ∨ P0_2_ k_ ∨ P1_1_ k_ ∨ P1_2_ k_) ∨ w.heap.size ≤ k_) ∧ k_ ≠ ae ∧ k_ ≠ ag ∧ k_ ≠ ad) aP (fa (fz3 HB af aj aq) (fa (fb aa) (fa (fb ab) (fb ac)))); replace aa := kb aa hb; replace ab := kb ab hb; replace ac := kb ac hb; replace HB := be3 HB af aj aq hb; (try clear hb); (try clear aD); (try clear aP); obtain ⟨e4, e5, e6, e7, e8, e9⟩ := bz aa; obtain ⟨bg, bh, gs⟩ := Kd.V_slice ak.out; subst gs; obtain ⟨a8, a9, gt⟩ := Kd.V_slice ah.out; subst gt) | ((with_reducible refine gate_store (t := 67) (p := 2) rfl ?_); refine store_event (t := 67) (p := 2) (v := ?vo_w64) (w1 := (((hp.setCell ⟨ae, 0, none⟩ (.bool aE)).setCell ⟨ae, 1, none⟩ (.slice bg aF.length bh)).setCell ⟨ae, 2, none⟩ (.slice a8 aC.length a9))) ?hg ?ho ?hn ?hr ?_; (case ho => rfl); (case hg => rfl); (case hn => rfl); (case hr => first | (go_simp; done) | (go_simp; rfl)); intro bx hw; have bF : Aside0 (Kd.V (Kd.int .u32) 48 bx w.heap.size (fun k_ => ((P0_1_ k_ ∨ P0_2_ k_ ∨ P1_1_ k_ ∨ P1_2_ k_) ∨ w.heap.size ≤ k_) ∧ k_ ≠ ae ∧ k_ ≠ ag ∧ k_ ≠ ad) (.slice A0_1 l0_1.length c0_1) l0_1) := ⟨(by rw [hw]; exact vf al.out)⟩; have bG : Aside0 (Kd.V (Kd.int .u32) 48 bx w.heap.size (fun k_ => ((P0_1_ k_ ∨ P0_2_ k_ ∨ P1_1_ k_ ∨ P1_2_ k_) ∨ w.heap.size ≤ k_) ∧ k_ ≠ ae ∧ k_ ≠ ag ∧ k_ ≠ ad) (.slice A0_2 l0_2.length c0_2) l0_2) := ⟨(by rw [hw]; exact vf an.out)⟩; have bH : Aside0 (Kd.V (Kd.int .u32) 48 bx w.heap.size (fun k_ => ((P0_1_ k_ ∨ P0_2_ k_ ∨ P1_1_ k_ ∨ P1_2_ k_) ∨ w.heap.size ≤ k_) ∧ k_ ≠ ae ∧ k_ ≠ ag ∧ k_ ≠ ad) (.slice A1_1 l1_1.length c1_1) l1_1) := ⟨(by rw [hw]; exact vf ao.out)⟩; have bI : Aside0 (Kd.V (Kd.int .u32) 48 bx w.heap.size (fun k_ => ((P0_1_ k_ ∨ P0_2_ k_ ∨ P1_1_ k_ ∨ P1_2_ k_) ∨ w.heap.size ≤ k_) ∧ k_ ≠ ae ∧ k_ ≠ ag ∧ k_ ≠ ad) (.slice A1_2 l1_2.length c1_2) l1_2) := ⟨(by rw [hw]; exact vf ap.out)⟩; have bJ : Aside0 (Kd.V (Kd.int .u32) 48 bx w.heap.size (fun k_ => ((P0_1_ k_ ∨ P0_2_ k_ ∨ P1_1_ k_ ∨ P1_2_ k_) ∨ w.heap.size ≤ k_) ∧ k_ ≠ ae ∧ k_ ≠ ag ∧ k_ ≠ ad) (.slice bg aF.length bh) aF) := ⟨(by rw [hw]; exact vf ak.out)⟩; have bK : Aside0 (Kd.V (Kd.int .u32) 48 bx w.heap.size (fun k_ => ((P0_1_ k_ ∨ P0_2_ k_ ∨ P1_1_ k_ ∨ P1_2_ k_) ∨ w.heap.size ≤ k_) ∧ k_ ≠ ae ∧ k_ ≠ ag ∧ k_ ≠ ad) (.slice a8 aC.length a9) aC) := ⟨(by rw [hw]; exact vf ah.out)⟩; have bL : Aside0 (bx.heap[ae]? = some (.cells #[.bool aE, .slice bg aF.length bh, .slice a8 aC.length a9] 67 (0, 0))) := ⟨(by rw [hw]; exact (kp aa.out))⟩; have bM : Aside0 (bx.heap[ag]? = some (.cells #[.bool a1_0, .slice A1_1 l1_1.length c1_1, .slice A1_2 l1_2.length c1_2] 67 (0, 0))) := ⟨(by rw [hw]; exact (kf aH.out ab.out))⟩; have bN : Aside0 (bx.heap[ad]? = some (.cells #[.bool false, .slice none 0 0, .slice none 0 0] 67 (0, 0))) := ⟨(by rw [hw]; exact (kf az.out ac.out))⟩; have bO : Aside0 (Below w.heap.size w bx) := ⟨(by rw [hw]; exact (bu3 HB.out af.out aj.out aq.out))⟩; clear hw al an ao ap ak ah aa ab ac HB; have al := bF; have an := bG; have ao := bH; have ap := bI; have ak := bJ; have ah := bK; have aa := bL; have ab := bM; have ac := bN; have HB := bO; clear bF bG bH bI bJ bK bL bM bN bO; have g1 := aw.out; have g2 := aA.out; obtain ⟨fc, fd, fe, ff, fg, fh⟩ := bz ab) | ((with_reducible refine gate_callee (f := 88) rfl ?_); refine goesL_ (some 11) rfl rfl Try.func88 (by kernel_rfl) rfl #[.agg #[.bool a1_0, .slice A1_1 l1_1.length c1_1, .slice A1_2 l1_2.length c1_2]] rfl lu ?_; (with_reducible refine (codewrightref02_Trim.calls k a1_0 (fun k_ => (((P0_1_ k_ ∨ P0_2_ k_ ∨ P1_1_ k_ ∨ P1_2_ k_) ∨ w.heap.size ≤ k_) ∧ (k_ ≠ ae ∧ (k_ ≠ ag ∧ k_ ≠ ad)))) _ _ l1_1 (fun k_ => (((P0_1_ k_ ∨ P0_2_ k_ ∨ P1_1_ k_ ∨ P1_2_ k_) ∨ w.heap.size ≤ k_) ∧ (k_ ≠ ae ∧ (k_ ≠ ag ∧ k_ ≠ ad)))) _ _ l1_2 aL aN aI _ ?side1 ?side2 A4.out).mono ?_); (case side1 => exact vz ao.out); (case side2 => exact vz ap.out); rintro e hN ⟨bP, bQ, rfl, aD, aP, hb⟩; refine ⟨_, rfl, ?_⟩; replace al := kv al hb; replace an := kv an hb; replace ao := kv ao hb; replace ap := kv ap hb; replace ak := kv ak hb; replace ah := kv ah hb; have av := ar w.heap.size (ok' := fun k_ => ((P0_1_ k_ ∨ P0_2_ k_ ∨ P1_1_ k_ ∨ P1_2_ k_) ∨ w.heap.size ≤ k_) ∧ k_ ≠ ae ∧ k_ ≠ ag ∧ k_ ≠ ad) aD (fa (fz3 HB af aj aq) (fa (fb aa) (fa (fb ab) (fb ac)))); have au := ar w.heap.size (ok' := fun k_ => ((P0_1_ k_ ∨ P0_2_ k_ ∨ P1_1_ k_ ∨ P1_2_ k_) ∨ w.heap.size ≤ k_) ∧ k_ ≠ ae ∧ k_ ≠ ag ∧ k_ ≠ ad) aP (fa (fz3 HB af aj aq) (fa (fb aa) (fa (fb ab) (fb ac)))); replace aa := kb aa hb; replace ab := kb ab hb; replace ac := kb ac hb; replace HB := be3 HB af aj aq hb; (try clear hb); (try clear aD); (try clear aP); obtain ⟨fi, fj, fk, fl, fm, fn⟩ := bz ab; obtain ⟨cn, co, gu⟩ := Kd.V_slice av.out; subst gu; obtain ⟨ca, cb, gv⟩ := Kd.V_slice au.out; subst gv; obtain ⟨fp, fq, fr, ft, fu, fv⟩ := bz aa) | ((with_reducible refine gate_callee (f := 57) rfl ?_); refine goesL_ (some 16) rfl rfl Try.func57 (by kernel_rfl) rfl #[.slice bg aF.length bh, .slice ca aI.length cb] rfl lu ?_; (with_reducible refine (codewrightref01_Mul.calls k _ _ aF _ _ aI aJ _ ?side1 ?side2 ?side3 ?side4 A5.out).mono ?_); (case side1 => exact vr ak.out); (case side2 => exact (Kd.V_reads' ak.out).2.1); (case side3 => exact vr au.out); (case side4 => exact (Kd.V_reads' au.out).2.1); rintro e hO ⟨bR, rfl, aD, hb⟩; refine ⟨_, rfl, ?_⟩; replace aD := R_V_base rfl aD; replace al := kx al hb; replace an := kx an hb; replace ao := kx ao hb; replace ap := kx ap hb; replace ak := kx ak hb; replace ah := kx ah hb; replace av := kx av hb; replace au := kx au hb; have ax := ar0 w.heap.size (ok' := fun k_ => ((P0_1_ k_ ∨ P0_2_ k_ ∨ P1_1_ k_ ∨ P1_2_ k_) ∨ w.heap.size ≤ k_) ∧ k_ ≠ ae ∧ k_ ≠ ag ∧ k_ ≠ ad) aD (fa (fz3 HB af aj aq) (fa (fs aa) (fa (fs ab) (fs ac)))); replace aa := am (blk_below (g := ae) (o := .cells #[.bool aE, .slice bg aF.length bh, .slice a8 aC.length a9] 67 (0, 0)) (kf aG.out aa.out) hb); replace ab := am (blk_below (g := ag) (o := .cells #[.bool aL, .slice cn aN.length co, .slice ca aI.length cb] 67 (0, 0)) (kp ab.out) hb); replace ac := am (blk_below (g := ad) (o := .cells #[.bool false, .slice none 0 0, .slice none 0 0] 67 (0, 0)) (kf aA.out ac.out) hb); replace HB := be3 HB af aj aq hb; (try clear hb); (try clear aD); obtain ⟨fw, fx, fy, fz, fA, fB⟩ := bz ab; obtain ⟨fC, fD, fE, fF, fG, fH⟩ := bz aa) | ((with_reducible refine gate_callee (f := 57) rfl ?_); refine goesL_ (some 21) rfl rfl Try.func57 (by kernel_rfl) rfl #[.slice cn aN.length co, .slice a8 aC.length a9] rfl lu ?_; (with_reducible refine (codewrightref01_Mul.calls k _ _ aN _ _ aC aK _ ?side1 ?side2 ?side3 ?side4 A6.out).mono ?_); (case side1 => exact cu (Kd.V_reads' av.out).2.2); (case side2 => exact (Kd.V_reads' av.out).2.1); (case side3 => exact cu (Kd.V_reads' ah.out).2.2); (case side4 => exact (Kd.V_reads' ah.out).2.1); rintro e hP ⟨bS, rfl, aD, hb⟩; refine ⟨_, rfl, ?_⟩; replace aD := R_V_base rfl aD; replace al := kv al hb; replace an := kv an hb; replace ao := kv ao hb; replace ap := kv ap hb; replace ak := kv ak hb; replace ah := kv ah hb; replace av := kv av hb; replace au := kv au hb; replace ax := kv ax hb; have ay := ar0 w.heap.size (ok' := fun k_ => ((P0_1_ k_ ∨ P0_2_ k_ ∨ P1_1_ k_ ∨ P1_2_ k_) ∨ w.heap.size ≤ k_) ∧ k_ ≠ ae ∧ k_ ≠ ag ∧ k_ ≠ ad) aD (fa (fz3 HB af aj aq) (fa (fb aa) (fa (fb ab) (fb ac)))); replace aa := kb aa hb; replace ab := kb ab hb; replace ac := kb ac hb; replace HB := be3 HB af aj aq hb; (try clear hb); (try clear aD); obtain ⟨fI, fJ, fK, fL, fM, fN⟩ := bz aa; obtain ⟨fO, fP, fQ, fR, fS, fT⟩ := bz ab) | ((with_reducible refine gate_callee (f := 57) rfl ?_); refine goesL_ (some 26) rfl rfl Try.func57 (by kernel_rfl) rfl #[.slice a8 aC.length a9, .slice ca aI.length cb] rfl lu ?_; (with_reducible refine (codewrightref01_Mul.calls k _ _ aC _ _ aI aM _ ?side1 ?side2 ?side3 ?side4 A7.out).mono ?_); (case side1 => exact cu (Kd.V_reads' ah.out).2.2); (case side2 => exact (Kd.V_reads' ah.out).2.1); (case side3 => exact cu (Kd.V_reads' au.out).2.2); (case side4 => exact (Kd.V_reads' au.out).2.1); rintro e hQ ⟨bT, rfl, aD, hb⟩; refine ⟨_, rfl, ?_⟩; replace aD := R_V_base rfl aD; replace al := kv al hb; replace an := kv an hb; replace ao := kv ao hb; replace ap := kv ap hb; replace ak := kv ak hb; replace ah := kv ah hb; replace av := kv av hb; replace au := kv au hb; replace ax := kv ax hb; replace ay := kv ay hb; have aB := ar0 w.heap.size (ok' := fun k_ => ((P0_1_ k_ ∨ P0_2_ k_ ∨ P1_1_ k_ ∨ P1_2_ k_) ∨ w.heap.size ≤ k_) ∧ k_ ≠ ae ∧ k_ ≠ ag ∧ k_ ≠ ad) aD (fa (fz3 HB af aj aq) (fa (fb aa) (fa (fb ab) (fb ac)))); replace aa := kb aa hb; replace ab := kb ab hb; replace ac := kb ac hb; replace HB := be3 HB af aj aq hb; (try clear hb); (try clear aD); obtain ⟨fU, fV, fW, fX, fY, fZ⟩ := bz aa; obtain ⟨f1, f2, f3, f4, f5, f6⟩ := bz ab; obtain ⟨cp, cq, gw⟩ := Kd.V_slice ax.out; subst gw; obtain ⟨cr, ct, gx⟩ := Kd.V_slice ay.out; subst gx) | ((with_reducible refine gate_callee (f := 59) rfl ?_); refine goesL_ (some 41) rfl rfl Try.func59 (by kernel_rfl) rfl #[.slice cp aJ.length cq, .slice cr aK.length ct] rfl lu ?_; (with_reducible refine (codewrightref01_Cmp.calls k _ _ aJ _ _ aK aR _ ?side1 ?side2 ?side3 ?side4 gW.out).mono ?_); (case side1 => exact cu (Kd.V_reads' ax.out).2.2); (case side2 => exact (Kd.V_reads' ax.out).2.1); (case side3 => exact cu (Kd.V_reads' ay.out).2.2); (case side4 => exact (Kd.V_reads' ay.out).2.1); rintro e hq ⟨rfl, hb⟩; refine ⟨_, rfl, ?_⟩; replace al := kv al hb; replace an := kv an hb; replace ao := kv ao hb; replace ap := kv ap hb; replace ak := kv ak hb; replace ah := kv ah hb; replace av := kv av hb; replace au := kv au hb; replace ax := kv ax hb; replace ay := kv ay hb; replace aB := kv aB hb; replace aa := kb aa hb; replace ab := kb ab hb; replace ac := kb ac hb; replace HB := be3 HB af aj aq hb; (try clear hb)))
   replace al := am (Kd.V_drew al.out)
   replace an := am (Kd.V_drew an.out)
   replace ao := am (Kd.V_drew ao.out)
   replace ap := am (Kd.V_drew ap.out)
   replace ak := am (Kd.V_drew ak.out)
   replace ah := am (Kd.V_drew ah.out)
   replace av := am (Kd.V_drew av.out)
   replace au := am (Kd.V_drew au.out)
   replace ax := am (Kd.V_drew ax.out)
   replace ay := am (Kd.V_drew ay.out)
   replace aB := am (Kd.V_drew aB.out)
   replace aa := am (blk_drew aa.out)
   replace ab := am (blk_drew ab.out)
   replace ac := am (blk_drew ac.out)
   replace HB := am (below_drew1 HB.out)
   refine start_ (n := 8) (S := fun w' => w'.cell? ⟨ae, 0, none⟩ = some (.bool aE) ∧ w'.cell? ⟨ae, 1, none⟩ = some (.slice bg aF.length bh) ∧ w'.cell? ⟨ae, 2, none⟩ = some (.slice a8 aC.length a9)) (ds := []) #[false, false, false, false, false, false, false, false] (by kernel_rfl) rfl rfl ⟨bc aa 0, bc aa 1, bc aa 2⟩ (fun hHeld => ?_); refine with_tabW codewrightref02_Add.tab9 codewrightref02_Add.bits9 (fun HT_ HW_ => ?_)
   generalize hq.drew = hR at al an ao ap ak ah av au ax ay aB aa ab ac HB hHeld ⊢
   refine pq 0 (some 43) #[true, false, false, false, false, false, false, false] HT_ ?_
   refine pq 2 (some 45) #[true, false, true, false, false, false, false, false] HT_ ?_
   refine pq 3 (some 46) #[true, false, true, true, false, false, false, false] HT_ ?_
   refine pq 5 (some 48) #[true, false, true, true, false, true, false, false] HT_ ?_
   refine tq 1 (some 44) #[true, true, true, true, false, true, false, false] HT_ HW_ hHeld ?_
   refine one_ (i := 4) (N := some 47) #[true, true, true, true, true, true, false, false] rfl rfl (one_of HT_.out (by kernel_rfl)) (by decide) (fun K hK => ?_)
   refine goes_ Try.func166 (by kernel_rfl) rfl #[.slice cp aJ.length cq, .slice cr aK.length ct] (by rfl) rfl rfl lu ?_
   with_reducible refine (codewrightref01_Sub.calls k _ _ aJ _ _ aK aZ _ ?side1 ?side2 ?side3 ?side4 hl.out).mono ?_
   (case side1 => exact cu (Kd.V_reads' ax.out).2.2)
   (case side2 => exact (Kd.V_reads' ax.out).2.1)
   (case side3 => exact cu (Kd.V_reads' ay.out).2.2)
   (case side4 => exact (Kd.V_reads' ay.out).2.1)
   rintro e hS ⟨g3, rfl, aD, hb⟩
   refine ⟨_, rfl, ?_⟩
   replace aD := R_V_base rfl aD
   replace al := kv al hb
   replace an := kv an hb
   replace ao := kv ao hb
   replace ap := kv ap hb
   replace ak := kv ak hb
   replace ah := kv ah hb
   replace av := kv av hb
   replace au := kv au hb
   replace ax := kv ax hb
   replace ay := kv ay hb
   replace aB := kv aB hb
   have aW := ar0 w.heap.size (ok' := fun k_ => ((P0_1_ k_ ∨ P0_2_ k_ ∨ P1_1_ k_ ∨ P1_2_ k_) ∨ w.heap.size ≤ k_) ∧ k_ ≠ ae ∧ k_ ≠ ag ∧ k_ ≠ ad) aD (fa (fz3 HB af aj aq) (fa (fb aa) (fa (fb ab) (fb ac))))
   replace aa := kb aa hb
   replace ab := kb ab hb
   replace ac := kb ac hb
   replace HB := be3 HB af aj aq hb
   (try clear hb)
   (try clear hb2)
   (try clear hk)
   (try clear hi)
   (try clear aD)
   obtain ⟨gy, gz, cv⟩ := Kd.V_slice aW.out
   (first | subst cv | (injection cv with f1_ f2_ f3_; have f4_ := f1_.symm; have f5_ := f3_.symm; clear f1_ f2_ f3_; subst f4_; subst f5_))
   obtain ⟨gA, gB, cw⟩ := Kd.V_slice aB.out
   (first | subst cw | (injection cw with f1_ f2_ f3_; have f4_ := f1_.symm; have f5_ := f3_.symm; clear f1_ f2_ f3_; subst f4_; subst f5_))
   refine hK.out _ _ ⟨bc aa 0, bc aa 1, bc aa 2⟩ (fun hHeld => ?_)
   clear hK K
   refine nq 47 ?_
   refine one_ (i := 6) (N := some 49) #[true, true, true, true, true, true, true, false] rfl rfl (one_of HT_.out (by kernel_rfl)) (by decide) (fun K hK => ?_)
   refine goes_ Try.func80 (by kernel_rfl) rfl #[.bool aE, .slice gy aZ.length gz, .slice gA aM.length gB] (by rfl) rfl rfl lu ?_
   with_reducible refine (codewrightref02_Make.calls k aE (fun k_ => (((P0_1_ k_ ∨ P0_2_ k_ ∨ P1_1_ k_ ∨ P1_2_ k_) ∨ w.heap.size ≤ k_) ∧ (k_ ≠ ae ∧ (k_ ≠ ag ∧ k_ ≠ ad)))) _ _ aZ (fun k_ => (((P0_1_ k_ ∨ P0_2_ k_ ∨ P1_1_ k_ ∨ P1_2_ k_) ∨ w.heap.size ≤ k_) ∧ (k_ ≠ ae ∧ (k_ ≠ ag ∧ k_ ≠ ad)))) _ _ aM bU bV bW _ ?side1 ?side2 hm.out).mono ?_
   (case side1 => exact vz aW.out)
   (case side2 => exact vz aB.out)
   rintro e gC ⟨g4, g5, rfl, aD, aP, hb⟩
   refine ⟨_, rfl, ?_⟩
   replace al := kv al hb
   replace an := kv an hb
   replace ao := kv ao hb
   replace ap := kv ap hb
   replace ak := kv ak hb
   replace ah := kv ah hb
   replace av := kv av hb
   replace au := kv au hb
   replace ax := kv ax hb
   replace ay := kv ay hb
   replace aB := kv aB hb
   replace aW := kv aW hb
   have bn := ar w.heap.size (ok' := fun k_ => ((P0_1_ k_ ∨ P0_2_ k_ ∨ P1_1_ k_ ∨ P1_2_ k_) ∨ w.heap.size ≤ k_) ∧ k_ ≠ ae ∧ k_ ≠ ag ∧ k_ ≠ ad) aD (fa (fz3 HB af aj aq) (fa (fb aa) (fa (fb ab) (fb ac))))
   have bo := ar w.heap.size (ok' := fun k_ => ((P0_1_ k_ ∨ P0_2_ k_ ∨ P1_1_ k_ ∨ P1_2_ k_) ∨ w.heap.size ≤ k_) ∧ k_ ≠ ae ∧ k_ ≠ ag ∧ k_ ≠ ad) aP (fa (fz3 HB af aj aq) (fa (fb aa) (fa (fb ab) (fb ac))))
   replace aa := kb aa hb
   replace ab := kb ab hb
   replace ac := kb ac hb
   replace HB := be3 HB af aj aq hb
   (try clear hb)
   (try clear hb2)
   (try clear hk)
   (try clear hi)
   (try clear aD)
   (try clear aP)
   obtain ⟨gD, gE, cx⟩ := Kd.V_slice bn.out
   (first | subst cx | (injection cx with f1_ f2_ f3_; have f4_ := f1_.symm; have f5_ := f3_.symm; clear f1_ f2_ f3_; subst f4_; subst f5_))
   obtain ⟨gF, gG, cy⟩ := Kd.V_slice bo.out
   (first | subst cy | (injection cy with f1_ f2_ f3_; have f4_ := f1_.symm; have f5_ := f3_.symm; clear f1_ f2_ f3_; subst f4_; subst f5_))
   refine hK.out _ _ ⟨bc aa 0, bc aa 1, bc aa 2⟩ (fun hHeld => ?_)
   clear hK K
   refine nq 49 ?_
   refine one_ (i := 7) (N := none) #[true, true, true, true, true, true, true, true] rfl rfl (one_of HT_.out (by kernel_rfl)) (by decide) (fun K hK => ?_)
   have hs89 : gC.cell? ⟨ad, 0, none⟩ = some (.bool false) := bc ac 0
   have hfs89 := blk_frozen ac.out 0
   have hns89_0 := ai.out
   have hns89_1 := aw.out
   have hms89_0 := az.out
   have hms89_1 := aA.out
   have hs91 : gC.cell? ⟨ad, 1, none⟩ = some (.slice none 0 0) := bc ac 1
   have hfs91 := blk_frozen ac.out 1
   have hns91_0 := ai.out
   have hns91_1 := aw.out
   have hms91_0 := az.out
   have hms91_1 := aA.out
   have hs93 : gC.cell? ⟨ad, 2, none⟩ = some (.slice none 0 0) := bc ac 2
   have hfs93 := blk_frozen ac.out 2
   have hns93_0 := ai.out
   have hns93_1 := aw.out
   have hms93_0 := az.out
   have hms93_1 := aA.out
   refine skip_ (w1 := ?_) (by rfl) rfl ?_ ?_
   rotate_left
   ·
    go_simp
    rfl
   refine hK.out _ _ ⟨((cell_far (p := ⟨ad, _, none⟩) ai.out _).trans (((cell_far (p := ⟨ad, _, none⟩) ai.out _).trans (((cell_far (p := ⟨ad, _, none⟩) ai.out _).trans (hHeld.1)))))), ((cell_far (p := ⟨ad, _, none⟩) ai.out _).trans (((cell_far (p := ⟨ad, _, none⟩) ai.out _).trans (((cell_far (p := ⟨ad, _, none⟩) ai.out _).trans (hHeld.2.1)))))), ((cell_far (p := ⟨ad, _, none⟩) ai.out _).trans (((cell_far (p := ⟨ad, _, none⟩) ai.out _).trans (((cell_far (p := ⟨ad, _, none⟩) ai.out _).trans (hHeld.2.2))))))⟩ (fun hHeld => ?_)
   clear hK K
   refine done_ (done_of HT_.out (by kernel_rfl)) ?_
   try go_wp2
   refine bodyPost_ret (results_cell_row rfl _ _ ad 67 #[.bool bU, .slice gD bV.length gE, .slice gF bW.length gG] (0, 0) _ rfl (kp ac.out) Try.underlying67 rfl (by kernel_rfl)) rfl ?_
   exact ⟨_, _, by first | rfl | (simp [errW_none, errW_some] <;> rfl) | (simp [*, errW_none, errW_some] <;> rfl), by exact vf bn.out, by exact vf bo.out, by repeat (first | (with_reducible first | exact HB.out | apply below_alloc | apply pw_below_drewN | apply below_drew1 | refine below_set ?_ af.out | refine below_set ?_ aj.out | refine below_set ?_ aq.out) | exact HB.out)⟩
  ·
   rw [if_neg cd] at H
   have cm : decide (0 ≤ aR) = false := decide_eq_false cd
   clear cd
   obtain ⟨a0, hs, H⟩ := bs H
   (try dsimp -simprocs only at H)
   obtain ⟨⟨bX, bY, bZ⟩, ht, H⟩ := bs H
   (try dsimp -simprocs only at H)
   simp only [Option.some.injEq, Prod.mk.injEq] at H
   obtain ⟨rfl, rfl, rfl⟩ := H
   go_enter Try.func100, Try.ntmps100
   try go_wp2_with (first | ((with_reducible refine gate_dst (N := 2) rfl ?_); refine box_event ?hg (N := 2) ?hd (cs := #[.bool a0_0, .slice A0_1 l0_1.length c0_1, .slice A0_2 l0_2.length c0_2]) (t := 67) ?hr ?_; (case hd => rfl); (case hg => rfl); (case hr => first | (go_simp; done) | (go_simp; rfl)); intro ae hg hT hbox hb; replace al := ke al hg hb; replace an := ke an hg hb; replace ao := ke ao hg hb; replace ap := ke ap hg hb; have aa := am (hbox); have bi := ng hg (bu HB.out); have af := ng hg (bu HB.out); replace HB := be HB hb; clear hb hbox hg) | ((with_reducible refine gate_dst (N := 3) rfl ?_); refine box_event ?hg (N := 3) ?hd (cs := #[.bool a1_0, .slice A1_1 l1_1.length c1_1, .slice A1_2 l1_2.length c1_2]) (t := 67) ?hr ?_; (case hd => rfl); (case hg => rfl); (case hr => first | (go_simp; done) | (go_simp; rfl)); intro ag hg hU hbox hb; replace al := ke al hg hb; replace an := ke an hg hb; replace ao := ke ao hg hb; replace ap := ke ap hg hb; have ab := am (hbox); have bj := ng hg (bu1 HB.out af.out); have aj := ng hg (bu1 HB.out af.out); replace HB := be1 HB af hb; have aG := nl hg aa; have aH := nr hg aa; replace aa := kb aa hb; clear hb hbox hg) | ((with_reducible refine gate_dst (N := 4) rfl ?_); refine box_event ?hg (N := 4) ?hd (cs := #[.bool false, .slice none 0 0, .slice none 0 0]) (t := 67) ?hr ?_; (case hd => rfl); (case hg => rfl); (case hr => first | (go_simp; done) | (go_simp; rfl)); intro ad hg hV hbox hb; replace al := ke al hg hb; replace an := ke an hg hb; replace ao := ke ao hg hb; replace ap := ke ap hg hb; have ac := am (hbox); have bk := ng hg (bu2 HB.out af.out aj.out); have aq := ng hg (bu2 HB.out af.out aj.out); replace HB := be2 HB af aj hb; have ai := nl hg aa; have az := nr hg aa; replace aa := kb aa hb; have aw := nl hg ab; have aA := nr hg ab; replace ab := kb ab hb; clear hb hbox hg; have g6 := aG.out; have g7 := aH.out; have gH := ai.out; have gI := az.out; obtain ⟨cz, cA, cB, cC, cD, cE⟩ := bz aa) | ((with_reducible refine gate_callee (f := 88) rfl ?_); refine goesL_ (some 9) rfl rfl Try.func88 (by kernel_rfl) rfl #[.agg #[.bool a0_0, .slice A0_1 l0_1.length c0_1, .slice A0_2 l0_2.length c0_2]] rfl lu ?_; (with_reducible refine (codewrightref02_Trim.calls k a0_0 (fun k_ => (((((P0_1_ k_ ∨ P0_2_ k_ ∨ P1_1_ k_ ∨ P1_2_ k_) ∨ w.heap.size ≤ k_) ∧ k_ ≠ ae) ∧ k_ ≠ ag) ∧ k_ ≠ ad)) _ _ l0_1 (fun k_ => (((((P0_1_ k_ ∨ P0_2_ k_ ∨ P1_1_ k_ ∨ P1_2_ k_) ∨ w.heap.size ≤ k_) ∧ k_ ≠ ae) ∧ k_ ≠ ag) ∧ k_ ≠ ad)) _ _ l0_2 aE aF aC _ ?side1 ?side2 A3.out).mono ?_); (case side1 => exact vz al.out); (case side2 => exact vz an.out); rintro e gJ ⟨bD, bE, rfl, aD, aP, hb⟩; refine ⟨_, rfl, ?_⟩; replace al := kv al hb; replace an := kv an hb; replace ao := kv ao hb; replace ap := kv ap hb; have ak := ar w.heap.size (ok' := fun k_ => ((P0_1_ k_ ∨ P0_2_ k_ ∨ P1_1_ k_ ∨ P1_2_ k_) ∨ w.heap.size ≤ k_) ∧ k_ ≠ ae ∧ k_ ≠ ag ∧ k_ ≠ ad) aD (fa (fz3 HB af aj aq) (fa (fb aa) (fa (fb ab) (fb ac)))); have ah := ar w.heap.size (ok' := fun k_ => ((P0_1_ k_ ∨ P0_2_ k_ ∨ P1_1_ k_ ∨ P1_2_ k_) ∨ w.heap.size ≤ k_) ∧ k_ ≠ ae ∧ k_ ≠ ag ∧ k_ ≠ ad) aP (fa (fz3 HB af aj aq) (fa (fb aa) (fa (fb ab) (fb ac)))); replace aa := kb aa hb; replace ab := kb ab hb; replace ac := kb ac hb; replace HB := be3 HB af aj aq hb; (try clear hb); (try clear aD); (try clear aP); obtain ⟨cF, cG, cH, cI, cJ, cK⟩ := bz aa; obtain ⟨a1, a2, cL⟩ := Kd.V_slice ak.out; subst cL; obtain ⟨aT, aU, cM⟩ := Kd.V_slice ah.out; subst cM) | ((with_reducible refine gate_store (t := 67) (p := 2) rfl ?_); refine store_event (t := 67) (p := 2) (v := ?vo_w106) (w1 := (((gJ.setCell ⟨ae, 0, none⟩ (.bool aE)).setCell ⟨ae, 1, none⟩ (.slice a1 aF.length a2)).setCell ⟨ae, 2, none⟩ (.slice aT aC.length aU))) ?hg ?ho ?hn ?hr ?_; (case ho => rfl); (case hg => rfl); (case hn => rfl); (case hr => first | (go_simp; done) | (go_simp; rfl)); intro aS hw; have bF : Aside0 (Kd.V (Kd.int .u32) 48 aS w.heap.size (fun k_ => ((P0_1_ k_ ∨ P0_2_ k_ ∨ P1_1_ k_ ∨ P1_2_ k_) ∨ w.heap.size ≤ k_) ∧ k_ ≠ ae ∧ k_ ≠ ag ∧ k_ ≠ ad) (.slice A0_1 l0_1.length c0_1) l0_1) := ⟨(by rw [hw]; exact vf al.out)⟩; have bG : Aside0 (Kd.V (Kd.int .u32) 48 aS w.heap.size (fun k_ => ((P0_1_ k_ ∨ P0_2_ k_ ∨ P1_1_ k_ ∨ P1_2_ k_) ∨ w.heap.size ≤ k_) ∧ k_ ≠ ae ∧ k_ ≠ ag ∧ k_ ≠ ad) (.slice A0_2 l0_2.length c0_2) l0_2) := ⟨(by rw [hw]; exact vf an.out)⟩; have bH : Aside0 (Kd.V (Kd.int .u32) 48 aS w.heap.size (fun k_ => ((P0_1_ k_ ∨ P0_2_ k_ ∨ P1_1_ k_ ∨ P1_2_ k_) ∨ w.heap.size ≤ k_) ∧ k_ ≠ ae ∧ k_ ≠ ag ∧ k_ ≠ ad) (.slice A1_1 l1_1.length c1_1) l1_1) := ⟨(by rw [hw]; exact vf ao.out)⟩; have bI : Aside0 (Kd.V (Kd.int .u32) 48 aS w.heap.size (fun k_ => ((P0_1_ k_ ∨ P0_2_ k_ ∨ P1_1_ k_ ∨ P1_2_ k_) ∨ w.heap.size ≤ k_) ∧ k_ ≠ ae ∧ k_ ≠ ag ∧ k_ ≠ ad) (.slice A1_2 l1_2.length c1_2) l1_2) := ⟨(by rw [hw]; exact vf ap.out)⟩; have bJ : Aside0 (Kd.V (Kd.int .u32) 48 aS w.heap.size (fun k_ => ((P0_1_ k_ ∨ P0_2_ k_ ∨ P1_1_ k_ ∨ P1_2_ k_) ∨ w.heap.size ≤ k_) ∧ k_ ≠ ae ∧ k_ ≠ ag ∧ k_ ≠ ad) (.slice a1 aF.length a2) aF) := ⟨(by rw [hw]; exact vf ak.out)⟩; have bK : Aside0 (Kd.V (Kd.int .u32) 48 aS w.heap.size (fun k_ => ((P0_1_ k_ ∨ P0_2_ k_ ∨ P1_1_ k_ ∨ P1_2_ k_) ∨ w.heap.size ≤ k_) ∧ k_ ≠ ae ∧ k_ ≠ ag ∧ k_ ≠ ad) (.slice aT aC.length aU) aC) := ⟨(by rw [hw]; exact vf ah.out)⟩; have bL : Aside0 (aS.heap[ae]? = some (.cells #[.bool aE, .slice a1 aF.length a2, .slice aT aC.length aU] 67 (0, 0))) := ⟨(by rw [hw]; exact (kp aa.out))⟩; have bM : Aside0 (aS.heap[ag]? = some (.cells #[.bool a1_0, .slice A1_1 l1_1.length c1_1, .slice A1_2 l1_2.length c1_2] 67 (0, 0))) := ⟨(by rw [hw]; exact (kf aH.out ab.out))⟩; have bN : Aside0 (aS.heap[ad]? = some (.cells #[.bool false, .slice none 0 0, .slice none 0 0] 67 (0, 0))) := ⟨(by rw [hw]; exact (kf az.out ac.out))⟩; have bO : Aside0 (Below w.heap.size w aS) := ⟨(by rw [hw]; exact (bu3 HB.out af.out aj.out aq.out))⟩; clear hw al an ao ap ak ah aa ab ac HB; have al := bF; have an := bG; have ao := bH; have ap := bI; have ak := bJ; have ah := bK; have aa := bL; have ab := bM; have ac := bN; have HB := bO; clear bF bG bH bI bJ bK bL bM bN bO; have gK := aw.out; have gL := aA.out; obtain ⟨cN, cO, cP, cQ, cR, cS⟩ := bz ab) | ((with_reducible refine gate_callee (f := 88) rfl ?_); refine goesL_ (some 11) rfl rfl Try.func88 (by kernel_rfl) rfl #[.agg #[.bool a1_0, .slice A1_1 l1_1.length c1_1, .slice A1_2 l1_2.length c1_2]] rfl lu ?_; (with_reducible refine (codewrightref02_Trim.calls k a1_0 (fun k_ => (((P0_1_ k_ ∨ P0_2_ k_ ∨ P1_1_ k_ ∨ P1_2_ k_) ∨ w.heap.size ≤ k_) ∧ (k_ ≠ ae ∧ (k_ ≠ ag ∧ k_ ≠ ad)))) _ _ l1_1 (fun k_ => (((P0_1_ k_ ∨ P0_2_ k_ ∨ P1_1_ k_ ∨ P1_2_ k_) ∨ w.heap.size ≤ k_) ∧ (k_ ≠ ae ∧ (k_ ≠ ag ∧ k_ ≠ ad)))) _ _ l1_2 aL aN aI _ ?side1 ?side2 A4.out).mono ?_); (case side1 => exact vz ao.out); (case side2 => exact vz ap.out); rintro e hu ⟨bP, bQ, rfl, aD, aP, hb⟩; refine ⟨_, rfl, ?_⟩; replace al := kv al hb; replace an := kv an hb; replace ao := kv ao hb; replace ap := kv ap hb; replace ak := kv ak hb; replace ah := kv ah hb; have av := ar w.heap.size (ok' := fun k_ => ((P0_1_ k_ ∨ P0_2_ k_ ∨ P1_1_ k_ ∨ P1_2_ k_) ∨ w.heap.size ≤ k_) ∧ k_ ≠ ae ∧ k_ ≠ ag ∧ k_ ≠ ad) aD (fa (fz3 HB af aj aq) (fa (fb aa) (fa (fb ab) (fb ac)))); have au := ar w.heap.size (ok' := fun k_ => ((P0_1_ k_ ∨ P0_2_ k_ ∨ P1_1_ k_ ∨ P1_2_ k_) ∨ w.heap.size ≤ k_) ∧ k_ ≠ ae ∧ k_ ≠ ag ∧ k_ ≠ ad) aP (fa (fz3 HB af aj aq) (fa (fb aa) (fa (fb ab) (fb ac)))); replace aa := kb aa hb; replace ab := kb ab hb; replace ac := kb ac hb; replace HB := be3 HB af aj aq hb; (try clear hb); (try clear aD); (try clear aP); obtain ⟨cT, cU, cV, cW, cX, cY⟩ := bz ab; obtain ⟨bp, bq, cZ⟩ := Kd.V_slice av.out; subst cZ; obtain ⟨ba, bb, c0⟩ := Kd.V_slice au.out; subst c0; obtain ⟨c1, c2, c3, c4, c5, c6⟩ := bz aa) | ((with_reducible refine gate_callee (f := 57) rfl ?_); refine goesL_ (some 16) rfl rfl Try.func57 (by kernel_rfl) rfl #[.slice a1 aF.length a2, .slice ba aI.length bb] rfl lu ?_; (with_reducible refine (codewrightref01_Mul.calls k _ _ aF _ _ aI aJ _ ?side1 ?side2 ?side3 ?side4 A5.out).mono ?_); (case side1 => exact vr ak.out); (case side2 => exact (Kd.V_reads' ak.out).2.1); (case side3 => exact vr au.out); (case side4 => exact (Kd.V_reads' au.out).2.1); rintro e hv ⟨bR, rfl, aD, hb⟩; refine ⟨_, rfl, ?_⟩; replace aD := R_V_base rfl aD; replace al := kx al hb; replace an := kx an hb; replace ao := kx ao hb; replace ap := kx ap hb; replace ak := kx ak hb; replace ah := kx ah hb; replace av := kx av hb; replace au := kx au hb; have ax := ar0 w.heap.size (ok' := fun k_ => ((P0_1_ k_ ∨ P0_2_ k_ ∨ P1_1_ k_ ∨ P1_2_ k_) ∨ w.heap.size ≤ k_) ∧ k_ ≠ ae ∧ k_ ≠ ag ∧ k_ ≠ ad) aD (fa (fz3 HB af aj aq) (fa (fs aa) (fa (fs ab) (fs ac)))); replace aa := am (blk_below (g := ae) (o := .cells #[.bool aE, .slice a1 aF.length a2, .slice aT aC.length aU] 67 (0, 0)) (kf aG.out aa.out) hb); replace ab := am (blk_below (g := ag) (o := .cells #[.bool aL, .slice bp aN.length bq, .slice ba aI.length bb] 67 (0, 0)) (kp ab.out) hb); replace ac := am (blk_below (g := ad) (o := .cells #[.bool false, .slice none 0 0, .slice none 0 0] 67 (0, 0)) (kf aA.out ac.out) hb); replace HB := be3 HB af aj aq hb; (try clear hb); (try clear aD); obtain ⟨c7, c9, da, db, dc, dd⟩ := bz ab; obtain ⟨de, df, dg, dh, di, dj⟩ := bz aa) | ((with_reducible refine gate_callee (f := 57) rfl ?_); refine goesL_ (some 21) rfl rfl Try.func57 (by kernel_rfl) rfl #[.slice bp aN.length bq, .slice aT aC.length aU] rfl lu ?_; (with_reducible refine (codewrightref01_Mul.calls k _ _ aN _ _ aC aK _ ?side1 ?side2 ?side3 ?side4 A6.out).mono ?_); (case side1 => exact cu (Kd.V_reads' av.out).2.2); (case side2 => exact (Kd.V_reads' av.out).2.1); (case side3 => exact cu (Kd.V_reads' ah.out).2.2); (case side4 => exact (Kd.V_reads' ah.out).2.1); rintro e hx ⟨bS, rfl, aD, hb⟩; refine ⟨_, rfl, ?_⟩; replace aD := R_V_base rfl aD; replace al := kv al hb; replace an := kv an hb; replace ao := kv ao hb; replace ap := kv ap hb; replace ak := kv ak hb; replace ah := kv ah hb; replace av := kv av hb; replace au := kv au hb; replace ax := kv ax hb; have ay := ar0 w.heap.size (ok' := fun k_ => ((P0_1_ k_ ∨ P0_2_ k_ ∨ P1_1_ k_ ∨ P1_2_ k_) ∨ w.heap.size ≤ k_) ∧ k_ ≠ ae ∧ k_ ≠ ag ∧ k_ ≠ ad) aD (fa (fz3 HB af aj aq) (fa (fb aa) (fa (fb ab) (fb ac)))); replace aa := kb aa hb; replace ab := kb ab hb; replace ac := kb ac hb; replace HB := be3 HB af aj aq hb; (try clear hb); (try clear aD); obtain ⟨dk, dl, dm, dn, dp, dq⟩ := bz aa; obtain ⟨dr, dt, du, dv, dw, dx⟩ := bz ab) | ((with_reducible refine gate_callee (f := 57) rfl ?_); refine goesL_ (some 26) rfl rfl Try.func57 (by kernel_rfl) rfl #[.slice aT aC.length aU, .slice ba aI.length bb] rfl lu ?_; (with_reducible refine (codewrightref01_Mul.calls k _ _ aC _ _ aI aM _ ?side1 ?side2 ?side3 ?side4 A7.out).mono ?_); (case side1 => exact cu (Kd.V_reads' ah.out).2.2); (case side2 => exact (Kd.V_reads' ah.out).2.1); (case side3 => exact cu (Kd.V_reads' au.out).2.2); (case side4 => exact (Kd.V_reads' au.out).2.1); rintro e hy ⟨bT, rfl, aD, hb⟩; refine ⟨_, rfl, ?_⟩; replace aD := R_V_base rfl aD; replace al := kv al hb; replace an := kv an hb; replace ao := kv ao hb; replace ap := kv ap hb; replace ak := kv ak hb; replace ah := kv ah hb; replace av := kv av hb; replace au := kv au hb; replace ax := kv ax hb; replace ay := kv ay hb; have aB := ar0 w.heap.size (ok' := fun k_ => ((P0_1_ k_ ∨ P0_2_ k_ ∨ P1_1_ k_ ∨ P1_2_ k_) ∨ w.heap.size ≤ k_) ∧ k_ ≠ ae ∧ k_ ≠ ag ∧ k_ ≠ ad) aD (fa (fz3 HB af aj aq) (fa (fb aa) (fa (fb ab) (fb ac)))); replace aa := kb aa hb; replace ab := kb ab hb; replace ac := kb ac hb; replace HB := be3 HB af aj aq hb; (try clear hb); (try clear aD); obtain ⟨dy, dz, dA, dB, dC, dD⟩ := bz aa; obtain ⟨dE, dF, dG, dH, dI, dJ⟩ := bz ab; obtain ⟨b0, b1, dK⟩ := Kd.V_slice ax.out; subst dK; obtain ⟨b2, b3, dL⟩ := Kd.V_slice ay.out; subst dL) | ((with_reducible refine gate_callee (f := 59) rfl ?_); refine goesL_ (some 41) rfl rfl Try.func59 (by kernel_rfl) rfl #[.slice b0 aJ.length b1, .slice b2 aK.length b3] rfl lu ?_; (with_reducible refine (codewrightref01_Cmp.calls k _ _ aJ _ _ aK aR _ ?side1 ?side2 ?side3 ?side4 gW.out).mono ?_); (case side1 => exact cu (Kd.V_reads' ax.out).2.2); (case side2 => exact (Kd.V_reads' ax.out).2.1); (case side3 => exact cu (Kd.V_reads' ay.out).2.2); (case side4 => exact (Kd.V_reads' ay.out).2.1); rintro e gM ⟨rfl, hb⟩; refine ⟨_, rfl, ?_⟩; replace al := kv al hb; replace an := kv an hb; replace ao := kv ao hb; replace ap := kv ap hb; replace ak := kv ak hb; replace ah := kv ah hb; replace av := kv av hb; replace au := kv au hb; replace ax := kv ax hb; replace ay := kv ay hb; replace aB := kv aB hb; replace aa := kb aa hb; replace ab := kb ab hb; replace ac := kb ac hb; replace HB := be3 HB af aj aq hb; (try clear hb)))
   replace al := am (Kd.V_drew al.out)
   replace an := am (Kd.V_drew an.out)
   replace ao := am (Kd.V_drew ao.out)
   replace ap := am (Kd.V_drew ap.out)
   replace ak := am (Kd.V_drew ak.out)
   replace ah := am (Kd.V_drew ah.out)
   replace av := am (Kd.V_drew av.out)
   replace au := am (Kd.V_drew au.out)
   replace ax := am (Kd.V_drew ax.out)
   replace ay := am (Kd.V_drew ay.out)
   replace aB := am (Kd.V_drew aB.out)
   replace aa := am (blk_drew aa.out)
   replace ab := am (blk_drew ab.out)
   replace ac := am (blk_drew ac.out)
   replace HB := am (below_drew1 HB.out)
   refine start_ (n := 8) (S := fun w' => w'.cell? ⟨ag, 0, none⟩ = some (.bool aL) ∧ w'.cell? ⟨ag, 1, none⟩ = some (.slice bp aN.length bq) ∧ w'.cell? ⟨ag, 2, none⟩ = some (.slice ba aI.length bb)) (ds := []) #[false, false, false, false, false, false, false, false] (by kernel_rfl) rfl rfl ⟨bc ab 0, bc ab 1, bc ab 2⟩ (fun hHeld => ?_); refine with_tabW codewrightref02_Add.tab10 codewrightref02_Add.bits10 (fun HT_ HW_ => ?_)
   generalize gM.drew = hz at al an ao ap ak ah av au ax ay aB aa ab ac HB hHeld ⊢
   refine pq 0 (some 50) #[true, false, false, false, false, false, false, false] HT_ ?_
   refine pq 2 (some 52) #[true, false, true, false, false, false, false, false] HT_ ?_
   refine pq 3 (some 53) #[true, false, true, true, false, false, false, false] HT_ ?_
   refine pq 5 (some 55) #[true, false, true, true, false, true, false, false] HT_ ?_
   refine tq 1 (some 51) #[true, true, true, true, false, true, false, false] HT_ HW_ hHeld ?_
   refine one_ (i := 4) (N := some 54) #[true, true, true, true, true, true, false, false] rfl rfl (one_of HT_.out (by kernel_rfl)) (by decide) (fun K hK => ?_)
   refine goes_ Try.func166 (by kernel_rfl) rfl #[.slice b2 aK.length b3, .slice b0 aJ.length b1] (by rfl) rfl rfl lu ?_
   with_reducible refine (codewrightref01_Sub.calls k _ _ aK _ _ aJ a0 _ ?side1 ?side2 ?side3 ?side4 hs.out).mono ?_
   (case side1 => exact cu (Kd.V_reads' ay.out).2.2)
   (case side2 => exact (Kd.V_reads' ay.out).2.1)
   (case side3 => exact cu (Kd.V_reads' ax.out).2.2)
   (case side4 => exact (Kd.V_reads' ax.out).2.1)
   rintro e hA ⟨g8, rfl, aD, hb⟩
   refine ⟨_, rfl, ?_⟩
   replace aD := R_V_base rfl aD
   replace al := kv al hb
   replace an := kv an hb
   replace ao := kv ao hb
   replace ap := kv ap hb
   replace ak := kv ak hb
   replace ah := kv ah hb
   replace av := kv av hb
   replace au := kv au hb
   replace ax := kv ax hb
   replace ay := kv ay hb
   replace aB := kv aB hb
   have aX := ar0 w.heap.size (ok' := fun k_ => ((P0_1_ k_ ∨ P0_2_ k_ ∨ P1_1_ k_ ∨ P1_2_ k_) ∨ w.heap.size ≤ k_) ∧ k_ ≠ ae ∧ k_ ≠ ag ∧ k_ ≠ ad) aD (fa (fz3 HB af aj aq) (fa (fb aa) (fa (fb ab) (fb ac))))
   replace aa := kb aa hb
   replace ab := kb ab hb
   replace ac := kb ac hb
   replace HB := be3 HB af aj aq hb
   (try clear hb)
   (try clear hb2)
   (try clear hk)
   (try clear hi)
   (try clear aD)
   obtain ⟨dM, dN, b4⟩ := Kd.V_slice aX.out
   (first | subst b4 | (injection b4 with f1_ f2_ f3_; have f4_ := f1_.symm; have f5_ := f3_.symm; clear f1_ f2_ f3_; subst f4_; subst f5_))
   obtain ⟨dO, dP, b5⟩ := Kd.V_slice aB.out
   (first | subst b5 | (injection b5 with f1_ f2_ f3_; have f4_ := f1_.symm; have f5_ := f3_.symm; clear f1_ f2_ f3_; subst f4_; subst f5_))
   refine hK.out _ _ ⟨bc ab 0, bc ab 1, bc ab 2⟩ (fun hHeld => ?_)
   clear hK K
   refine nq 54 ?_
   refine one_ (i := 6) (N := some 56) #[true, true, true, true, true, true, true, false] rfl rfl (one_of HT_.out (by kernel_rfl)) (by decide) (fun K hK => ?_)
   refine goes_ Try.func80 (by kernel_rfl) rfl #[.bool aL, .slice dM a0.length dN, .slice dO aM.length dP] (by rfl) rfl rfl lu ?_
   with_reducible refine (codewrightref02_Make.calls k aL (fun k_ => (((P0_1_ k_ ∨ P0_2_ k_ ∨ P1_1_ k_ ∨ P1_2_ k_) ∨ w.heap.size ≤ k_) ∧ (k_ ≠ ae ∧ (k_ ≠ ag ∧ k_ ≠ ad)))) _ _ a0 (fun k_ => (((P0_1_ k_ ∨ P0_2_ k_ ∨ P1_1_ k_ ∨ P1_2_ k_) ∨ w.heap.size ≤ k_) ∧ (k_ ≠ ae ∧ (k_ ≠ ag ∧ k_ ≠ ad)))) _ _ aM bX bY bZ _ ?side1 ?side2 ht.out).mono ?_
   (case side1 => exact vz aX.out)
   (case side2 => exact vz aB.out)
   rintro e cc ⟨g9, ha, rfl, aD, aP, hb⟩
   refine ⟨_, rfl, ?_⟩
   replace al := kv al hb
   replace an := kv an hb
   replace ao := kv ao hb
   replace ap := kv ap hb
   replace ak := kv ak hb
   replace ah := kv ah hb
   replace av := kv av hb
   replace au := kv au hb
   replace ax := kv ax hb
   replace ay := kv ay hb
   replace aB := kv aB hb
   replace aX := kv aX hb
   have br := ar w.heap.size (ok' := fun k_ => ((P0_1_ k_ ∨ P0_2_ k_ ∨ P1_1_ k_ ∨ P1_2_ k_) ∨ w.heap.size ≤ k_) ∧ k_ ≠ ae ∧ k_ ≠ ag ∧ k_ ≠ ad) aD (fa (fz3 HB af aj aq) (fa (fb aa) (fa (fb ab) (fb ac))))
   have bv := ar w.heap.size (ok' := fun k_ => ((P0_1_ k_ ∨ P0_2_ k_ ∨ P1_1_ k_ ∨ P1_2_ k_) ∨ w.heap.size ≤ k_) ∧ k_ ≠ ae ∧ k_ ≠ ag ∧ k_ ≠ ad) aP (fa (fz3 HB af aj aq) (fa (fb aa) (fa (fb ab) (fb ac))))
   replace aa := kb aa hb
   replace ab := kb ab hb
   replace ac := kb ac hb
   replace HB := be3 HB af aj aq hb
   (try clear hb)
   (try clear hb2)
   (try clear hk)
   (try clear hi)
   (try clear aD)
   (try clear aP)
   obtain ⟨dQ, dR, b6⟩ := Kd.V_slice br.out
   (first | subst b6 | (injection b6 with f1_ f2_ f3_; have f4_ := f1_.symm; have f5_ := f3_.symm; clear f1_ f2_ f3_; subst f4_; subst f5_))
   obtain ⟨dS, dT, b7⟩ := Kd.V_slice bv.out
   (first | subst b7 | (injection b7 with f1_ f2_ f3_; have f4_ := f1_.symm; have f5_ := f3_.symm; clear f1_ f2_ f3_; subst f4_; subst f5_))
   refine hK.out _ _ ⟨bc ab 0, bc ab 1, bc ab 2⟩ (fun hHeld => ?_)
   clear hK K
   refine nq 56 ?_
   refine one_ (i := 7) (N := none) #[true, true, true, true, true, true, true, true] rfl rfl (one_of HT_.out (by kernel_rfl)) (by decide) (fun K hK => ?_)
   have hs131 : cc.cell? ⟨ad, 0, none⟩ = some (.bool false) := bc ac 0
   have hfs131 := blk_frozen ac.out 0
   have hns131_0 := ai.out
   have hns131_1 := aw.out
   have hms131_0 := az.out
   have hms131_1 := aA.out
   have hs133 : cc.cell? ⟨ad, 1, none⟩ = some (.slice none 0 0) := bc ac 1
   have hfs133 := blk_frozen ac.out 1
   have hns133_0 := ai.out
   have hns133_1 := aw.out
   have hms133_0 := az.out
   have hms133_1 := aA.out
   have hs135 : cc.cell? ⟨ad, 2, none⟩ = some (.slice none 0 0) := bc ac 2
   have hfs135 := blk_frozen ac.out 2
   have hns135_0 := ai.out
   have hns135_1 := aw.out
   have hms135_0 := az.out
   have hms135_1 := aA.out
   refine skip_ (w1 := ?_) (by rfl) rfl ?_ ?_
   rotate_left
   ·
    go_simp
    rfl
   refine hK.out _ _ ⟨((cell_far (p := ⟨ad, _, none⟩) aw.out _).trans (((cell_far (p := ⟨ad, _, none⟩) aw.out _).trans (((cell_far (p := ⟨ad, _, none⟩) aw.out _).trans (hHeld.1)))))), ((cell_far (p := ⟨ad, _, none⟩) aw.out _).trans (((cell_far (p := ⟨ad, _, none⟩) aw.out _).trans (((cell_far (p := ⟨ad, _, none⟩) aw.out _).trans (hHeld.2.1)))))), ((cell_far (p := ⟨ad, _, none⟩) aw.out _).trans (((cell_far (p := ⟨ad, _, none⟩) aw.out _).trans (((cell_far (p := ⟨ad, _, none⟩) aw.out _).trans (hHeld.2.2))))))⟩ (fun hHeld => ?_)
   clear hK K
   refine done_ (done_of HT_.out (by kernel_rfl)) ?_
   try go_wp2
   refine bodyPost_ret (results_cell_row rfl _ _ ad 67 #[.bool bX, .slice dQ bY.length dR, .slice dS bZ.length dT] (0, 0) _ rfl (kp ac.out) Try.underlying67 rfl (by kernel_rfl)) rfl ?_
   exact ⟨_, _, by first | rfl | (simp [errW_none, errW_some] <;> rfl) | (simp [*, errW_none, errW_some] <;> rfl), by exact vf br.out, by exact vf bv.out, by repeat (first | (with_reducible first | exact HB.out | apply below_alloc | apply pw_below_drewN | apply below_drew1 | refine below_set ?_ af.out | refine below_set ?_ aj.out | refine below_set ?_ aq.out) | exact HB.out)⟩
def codewrightref02_Mul.f (k : Nat) (a0_0 : Bool) (l0_1 : List Int) (l0_2 : List Int) (a1_0 : Bool) (l1_1 : List Int) (l1_2 : List Int) : Option (Bool × List Int × List Int) := (codewrightref02_Trim.f k a0_0 l0_1 l0_2).bind fun bt1773 => ((codewrightref02_Trim.f k a1_0 l1_1 l1_2).bind fun bt1780 => ((codewrightref01_Mul.f k bt1773.2.1 bt1780.2.1).bind fun t1787 => ((codewrightref01_Mul.f k bt1773.2.2 bt1780.2.2).bind fun t1790 => ((codewrightref02_Make.f k (bt1773.1 != bt1780.1) t1787 t1790).bind fun bt1793 => (some (bt1793.1, bt1793.2.1, bt1793.2.2))))))
def codewrightref02_Mul.T3 : Bool × List (List Nat × List Nat) := (true, [([], []), ([0], [0]), ([], []), ([2], [2]), ([1, 3], [1, 3]), ([], []), ([5], [5]), ([], []), ([7], [7]), ([6, 8], [6, 8]), ([], []), ([10], [10]), ([], []), ([12], [12]), ([11, 13, 9], [11, 13]), ([4, 9, 14, 14], [4, 9, 14]), ([15, 15, 0, 1, 2, 3, 4, 5, 6, 7, 8, 9, 10, 11, 12, 13, 14, 15], [15])])
def codewrightref02_Mul.B3 : List Nat := [0, 1, 0, 4, 15, 0, 32, 0, 128, 480, 0, 1024, 0, 4096, 16352, 32767, 65535]
theorem codewrightref02_Mul.tab3 : rtab .any (opsOf Try.f101 3) = codewrightref02_Mul.T3 := by kernel_rfl
theorem codewrightref02_Mul.bits3 : waitsOk codewrightref02_Mul.T3.2 codewrightref02_Mul.B3 = true := by kernel_rfl
theorem codewrightref02_Mul.calls (k : Nat) (a0_0 : Bool) (P0_1_ : Nat → Prop) (A0_1 : Option Addr) (c0_1 : Nat) (l0_1 : List Int) (P0_2_ : Nat → Prop) (A0_2 : Option Addr) (c0_2 : Nat) (l0_2 : List Int) (a1_0 : Bool) (P1_1_ : Nat → Prop) (A1_1 : Option Addr) (c1_1 : Nat) (l1_1 : List Int) (P1_2_ : Nat → Prop) (A1_2 : Option Addr) (c1_2 : Nat) (l1_2 : List Int) (r1 : Bool) (r2 : List Int) (r3 : List Int) (w : World) (hs0_1 : Kd.V (Kd.int .u32) 48 w w.heap.size (fun k_ => P0_1_ k_) (.slice A0_1 l0_1.length c0_1) l0_1) (hs0_2 : Kd.V (Kd.int .u32) 48 w w.heap.size (fun k_ => P0_2_ k_) (.slice A0_2 l0_2.length c0_2) l0_2) (hs1_1 : Kd.V (Kd.int .u32) 48 w w.heap.size (fun k_ => P1_1_ k_) (.slice A1_1 l1_1.length c1_1) l1_1) (hs1_2 : Kd.V (Kd.int .u32) 48 w w.heap.size (fun k_ => P1_2_ k_) (.slice A1_2 l1_2.length c1_2) l1_2) (h : codewrightref02_Mul.f k a0_0 l0_1 l0_2 a1_0 l1_1 l1_2 = some (r1, r2, r3)) :
 Calls Try.prog 101 #[.agg #[.bool a0_0, .slice A0_1 l0_1.length c0_1, .slice A0_2 l0_2.length c0_2], .agg #[.bool a1_0, .slice A1_1 l1_1.length c1_1, .slice A1_2 l1_2.length c1_2]] w fun e w' => ∃ v1_ v2_ : Value, e = .returned (.agg #[.bool r1, v1_, v2_]) ∧ Kd.V (Kd.int .u32) 48 w' w.heap.size (fun k_ => ((P0_1_ k_ ∨ P0_2_ k_ ∨ P1_1_ k_ ∨ P1_2_ k_) ∨ w.heap.size ≤ k_)) v1_ r2 ∧ Kd.V (Kd.int .u32) 48 w' w.heap.size (fun k_ => ((P0_1_ k_ ∨ P0_2_ k_ ∨ P1_1_ k_ ∨ P1_2_ k_) ∨ w.heap.size ≤ k_)) v2_ r3 ∧ Below w.heap.size w w' := by
 have ck := Try.underlying67
 have al := am (show Kd.V (Kd.int .u32) 48 w w.heap.size (fun k_ => ((P0_1_ k_ ∨ P0_2_ k_ ∨ P1_1_ k_ ∨ P1_2_ k_) ∨ w.heap.size ≤ k_)) (.slice A0_1 l0_1.length c0_1) l0_1 from Kd.V_mono hs0_1 (fun k_ hk => .inl (.inl hk)))
 have an := am (show Kd.V (Kd.int .u32) 48 w w.heap.size (fun k_ => ((P0_1_ k_ ∨ P0_2_ k_ ∨ P1_1_ k_ ∨ P1_2_ k_) ∨ w.heap.size ≤ k_)) (.slice A0_2 l0_2.length c0_2) l0_2 from Kd.V_mono hs0_2 (fun k_ hk => .inl (.inr (.inl hk))))
 have ao := am (show Kd.V (Kd.int .u32) 48 w w.heap.size (fun k_ => ((P0_1_ k_ ∨ P0_2_ k_ ∨ P1_1_ k_ ∨ P1_2_ k_) ∨ w.heap.size ≤ k_)) (.slice A1_1 l1_1.length c1_1) l1_1 from Kd.V_mono hs1_1 (fun k_ hk => .inl (.inr (.inr (.inl hk)))))
 have ap := am (show Kd.V (Kd.int .u32) 48 w w.heap.size (fun k_ => ((P0_1_ k_ ∨ P0_2_ k_ ∨ P1_1_ k_ ∨ P1_2_ k_) ∨ w.heap.size ≤ k_)) (.slice A1_2 l1_2.length c1_2) l1_2 from Kd.V_mono hs1_2 (fun k_ hk => .inl (.inr (.inr (.inr hk)))))
 have HB := am (Below.refl w.heap.size w)
 have H : ((codewrightref02_Trim.f k a0_0 l0_1 l0_2).bind fun aQ => ((codewrightref02_Trim.f k a1_0 l1_1 l1_2).bind fun aR => ((codewrightref01_Mul.f k aQ.2.1 aR.2.1).bind fun aO => ((codewrightref01_Mul.f k aQ.2.2 aR.2.2).bind fun aP => ((codewrightref02_Make.f k (aQ.1 != aR.1) aO aP).bind fun aS => (some (aS.1, aS.2.1, aS.2.2))))))) = some (r1, r2, r3) := h
 clear h
 obtain ⟨⟨aL, aF, aG⟩, A3, H⟩ := bs H
 (try dsimp -simprocs only at H)
 obtain ⟨⟨az, aw, aA⟩, A4, H⟩ := bs H
 (try dsimp -simprocs only at H)
 obtain ⟨aO, A5, H⟩ := bs H
 (try dsimp -simprocs only at H)
 obtain ⟨aP, A6, H⟩ := bs H
 (try dsimp -simprocs only at H)
 obtain ⟨⟨a1, a2, a3⟩, A7, H⟩ := bs H
 (try dsimp -simprocs only at H)
 simp only [Option.some.injEq, Prod.mk.injEq] at H
 obtain ⟨rfl, rfl, rfl⟩ := H
 go_enter Try.func101, Try.ntmps101
 try go_wp2_with (first | ((with_reducible refine gate_dst (N := 2) rfl ?_); refine box_event ?hg (N := 2) ?hd (cs := #[.bool a0_0, .slice A0_1 l0_1.length c0_1, .slice A0_2 l0_2.length c0_2]) (t := 67) ?hr ?_; (case hd => rfl); (case hg => rfl); (case hr => first | (go_simp; done) | (go_simp; rfl)); intro ae hg w8 hbox hb; replace al := ke al hg hb; replace an := ke an hg hb; replace ao := ke ao hg hb; replace ap := ke ap hg hb; have ac := am (hbox); have bQ := ng hg (bu HB.out); have ai := ng hg (bu HB.out); replace HB := be HB hb; clear hb hbox hg) | ((with_reducible refine gate_dst (N := 3) rfl ?_); refine box_event ?hg (N := 3) ?hd (cs := #[.bool a1_0, .slice A1_1 l1_1.length c1_1, .slice A1_2 l1_2.length c1_2]) (t := 67) ?hr ?_; (case hd => rfl); (case hg => rfl); (case hr => first | (go_simp; done) | (go_simp; rfl)); intro aa hg w9 hbox hb; replace al := ke al hg hb; replace an := ke an hg hb; replace ao := ke ao hg hb; replace ap := ke ap hg hb; have ad := am (hbox); have bR := ng hg (bu1 HB.out ai.out); have aq := ng hg (bu1 HB.out ai.out); replace HB := be1 HB ai hb; have aC := nl hg ac; have aK := nr hg ac; replace ac := kb ac hb; clear hb hbox hg) | ((with_reducible refine gate_dst (N := 4) rfl ?_); refine box_event ?hg (N := 4) ?hd (cs := #[.bool false, .slice none 0 0, .slice none 0 0]) (t := 67) ?hr ?_; (case hd => rfl); (case hg => rfl); (case hr => first | (go_simp; done) | (go_simp; rfl)); intro ab hg cn hbox hb; replace al := ke al hg hb; replace an := ke an hg hb; replace ao := ke ao hg hb; replace ap := ke ap hg hb; have af := am (hbox); have bS := ng hg (bu2 HB.out ai.out aq.out); have av := ng hg (bu2 HB.out ai.out aq.out); replace HB := be2 HB ai aq hb; have ag := nl hg ac; have aB := nr hg ac; replace ac := kb ac hb; have ah := nl hg ad; have au := nr hg ad; replace ad := kb ad hb; clear hb hbox hg; have b6 := aC.out; have b7 := aK.out; have b8 := ag.out; have b9 := aB.out; obtain ⟨bn, bo, bp, bq, br, bv⟩ := bz ac) | ((with_reducible refine gate_callee (f := 88) rfl ?_); refine goesL_ (some 6) rfl rfl Try.func88 (by kernel_rfl) rfl #[.agg #[.bool a0_0, .slice A0_1 l0_1.length c0_1, .slice A0_2 l0_2.length c0_2]] rfl lu ?_; (with_reducible refine (codewrightref02_Trim.calls k a0_0 (fun k_ => (((((P0_1_ k_ ∨ P0_2_ k_ ∨ P1_1_ k_ ∨ P1_2_ k_) ∨ w.heap.size ≤ k_) ∧ k_ ≠ ae) ∧ k_ ≠ aa) ∧ k_ ≠ ab)) _ _ l0_1 (fun k_ => (((((P0_1_ k_ ∨ P0_2_ k_ ∨ P1_1_ k_ ∨ P1_2_ k_) ∨ w.heap.size ≤ k_) ∧ k_ ≠ ae) ∧ k_ ≠ aa) ∧ k_ ≠ ab)) _ _ l0_2 aL aF aG _ ?side1 ?side2 A3.out).mono ?_); (case side1 => exact vz al.out); (case side2 => exact vz an.out); rintro e cl ⟨ca, cb, rfl, aN, a4, hb⟩; refine ⟨_, rfl, ?_⟩; replace al := kv al hb; replace an := kv an hb; replace ao := kv ao hb; replace ap := kv ap hb; have aj := ar w.heap.size (ok' := fun k_ => ((P0_1_ k_ ∨ P0_2_ k_ ∨ P1_1_ k_ ∨ P1_2_ k_) ∨ w.heap.size ≤ k_) ∧ k_ ≠ ae ∧ k_ ≠ aa ∧ k_ ≠ ab) aN (fa (fz3 HB ai aq av) (fa (fb ac) (fa (fb ad) (fb af)))); have ak := ar w.heap.size (ok' := fun k_ => ((P0_1_ k_ ∨ P0_2_ k_ ∨ P1_1_ k_ ∨ P1_2_ k_) ∨ w.heap.size ≤ k_) ∧ k_ ≠ ae ∧ k_ ≠ aa ∧ k_ ≠ ab) a4 (fa (fz3 HB ai aq av) (fa (fb ac) (fa (fb ad) (fb af)))); replace ac := kb ac hb; replace ad := kb ad hb; replace af := kb af hb; replace HB := be3 HB ai aq av hb; (try clear hb); (try clear aN); (try clear a4); obtain ⟨bw, bx, bA, bB, bC, bD⟩ := bz ac; obtain ⟨aT, aU, bT⟩ := Kd.V_slice aj.out; subst bT; obtain ⟨aV, aW, bU⟩ := Kd.V_slice ak.out; subst bU) | ((with_reducible refine gate_store (t := 67) (p := 2) rfl ?_); refine store_event (t := 67) (p := 2) (v := ?vo_w18) (w1 := (((cl.setCell ⟨ae, 0, none⟩ (.bool aL)).setCell ⟨ae, 1, none⟩ (.slice aT aF.length aU)).setCell ⟨ae, 2, none⟩ (.slice aV aG.length aW))) ?hg ?ho ?hn ?hr ?_; (case ho => rfl); (case hg => rfl); (case hn => rfl); (case hr => first | (go_simp; done) | (go_simp; rfl)); intro a0 hw; have a7 : Aside0 (Kd.V (Kd.int .u32) 48 a0 w.heap.size (fun k_ => ((P0_1_ k_ ∨ P0_2_ k_ ∨ P1_1_ k_ ∨ P1_2_ k_) ∨ w.heap.size ≤ k_) ∧ k_ ≠ ae ∧ k_ ≠ aa ∧ k_ ≠ ab) (.slice A0_1 l0_1.length c0_1) l0_1) := ⟨(by rw [hw]; exact vf al.out)⟩; have a8 : Aside0 (Kd.V (Kd.int .u32) 48 a0 w.heap.size (fun k_ => ((P0_1_ k_ ∨ P0_2_ k_ ∨ P1_1_ k_ ∨ P1_2_ k_) ∨ w.heap.size ≤ k_) ∧ k_ ≠ ae ∧ k_ ≠ aa ∧ k_ ≠ ab) (.slice A0_2 l0_2.length c0_2) l0_2) := ⟨(by rw [hw]; exact vf an.out)⟩; have a9 : Aside0 (Kd.V (Kd.int .u32) 48 a0 w.heap.size (fun k_ => ((P0_1_ k_ ∨ P0_2_ k_ ∨ P1_1_ k_ ∨ P1_2_ k_) ∨ w.heap.size ≤ k_) ∧ k_ ≠ ae ∧ k_ ≠ aa ∧ k_ ≠ ab) (.slice A1_1 l1_1.length c1_1) l1_1) := ⟨(by rw [hw]; exact vf ao.out)⟩; have ba : Aside0 (Kd.V (Kd.int .u32) 48 a0 w.heap.size (fun k_ => ((P0_1_ k_ ∨ P0_2_ k_ ∨ P1_1_ k_ ∨ P1_2_ k_) ∨ w.heap.size ≤ k_) ∧ k_ ≠ ae ∧ k_ ≠ aa ∧ k_ ≠ ab) (.slice A1_2 l1_2.length c1_2) l1_2) := ⟨(by rw [hw]; exact vf ap.out)⟩; have bb : Aside0 (Kd.V (Kd.int .u32) 48 a0 w.heap.size (fun k_ => ((P0_1_ k_ ∨ P0_2_ k_ ∨ P1_1_ k_ ∨ P1_2_ k_) ∨ w.heap.size ≤ k_) ∧ k_ ≠ ae ∧ k_ ≠ aa ∧ k_ ≠ ab) (.slice aT aF.length aU) aF) := ⟨(by rw [hw]; exact vf aj.out)⟩; have bd : Aside0 (Kd.V (Kd.int .u32) 48 a0 w.heap.size (fun k_ => ((P0_1_ k_ ∨ P0_2_ k_ ∨ P1_1_ k_ ∨ P1_2_ k_) ∨ w.heap.size ≤ k_) ∧ k_ ≠ ae ∧ k_ ≠ aa ∧ k_ ≠ ab) (.slice aV aG.length aW) aG) := ⟨(by rw [hw]; exact vf ak.out)⟩; have bf : Aside0 (a0.heap[ae]? = some (.cells #[.bool aL, .slice aT aF.length aU, .slice aV aG.length aW] 67 (0, 0))) := ⟨(by rw [hw]; exact (kp ac.out))⟩; have bg : Aside0 (a0.heap[aa]? = some (.cells #[.bool a1_0, .slice A1_1 l1_1.length c1_1, .slice A1_2 l1_2.length c1_2] 67 (0, 0))) := ⟨(by rw [hw]; exact (kf aK.out ad.out))⟩; have bh : Aside0 (a0.heap[ab]? = some (.cells #[.bool false, .slice none 0 0, .slice none 0 0] 67 (0, 0))) := ⟨(by rw [hw]; exact (kf aB.out af.out))⟩; have bi : Aside0 (Below w.heap.size w a0) := ⟨(by rw [hw]; exact (bu3 HB.out ai.out aq.out av.out))⟩; clear hw al an ao ap aj ak ac ad af HB; have al := a7; have an := a8; have ao := a9; have ap := ba; have aj := bb; have ak := bd; have ac := bf; have ad := bg; have af := bh; have HB := bi; clear a7 a8 a9 ba bb bd bf bg bh bi; have cc := ah.out; have cd := au.out; obtain ⟨bE, bF, bG, bH, bI, bJ⟩ := bz ad) | ((with_reducible refine gate_callee (f := 88) rfl ?_); refine goesL_ (some 8) rfl rfl Try.func88 (by kernel_rfl) rfl #[.agg #[.bool a1_0, .slice A1_1 l1_1.length c1_1, .slice A1_2 l1_2.length c1_2]] rfl lu ?_; (with_reducible refine (codewrightref02_Trim.calls k a1_0 (fun k_ => (((P0_1_ k_ ∨ P0_2_ k_ ∨ P1_1_ k_ ∨ P1_2_ k_) ∨ w.heap.size ≤ k_) ∧ (k_ ≠ ae ∧ (k_ ≠ aa ∧ k_ ≠ ab)))) _ _ l1_1 (fun k_ => (((P0_1_ k_ ∨ P0_2_ k_ ∨ P1_1_ k_ ∨ P1_2_ k_) ∨ w.heap.size ≤ k_) ∧ (k_ ≠ ae ∧ (k_ ≠ aa ∧ k_ ≠ ab)))) _ _ l1_2 az aw aA _ ?side1 ?side2 A4.out).mono ?_); (case side1 => exact vz ao.out); (case side2 => exact vz ap.out); rintro e aX ⟨ce, cf, rfl, aN, a4, hb⟩; refine ⟨_, rfl, ?_⟩; replace al := kv al hb; replace an := kv an hb; replace ao := kv ao hb; replace ap := kv ap hb; replace aj := kv aj hb; replace ak := kv ak hb; have ax := ar w.heap.size (ok' := fun k_ => ((P0_1_ k_ ∨ P0_2_ k_ ∨ P1_1_ k_ ∨ P1_2_ k_) ∨ w.heap.size ≤ k_) ∧ k_ ≠ ae ∧ k_ ≠ aa ∧ k_ ≠ ab) aN (fa (fz3 HB ai aq av) (fa (fb ac) (fa (fb ad) (fb af)))); have ay := ar w.heap.size (ok' := fun k_ => ((P0_1_ k_ ∨ P0_2_ k_ ∨ P1_1_ k_ ∨ P1_2_ k_) ∨ w.heap.size ≤ k_) ∧ k_ ≠ ae ∧ k_ ≠ aa ∧ k_ ≠ ab) a4 (fa (fz3 HB ai aq av) (fa (fb ac) (fa (fb ad) (fb af)))); replace ac := kb ac hb; replace ad := kb ad hb; replace af := kb af hb; replace HB := be3 HB ai aq av hb; (try clear hb); (try clear aN); (try clear a4); obtain ⟨bK, bL, bM, bN, bO, bP⟩ := bz ad; obtain ⟨aD, aE, bV⟩ := Kd.V_slice ax.out; subst bV; obtain ⟨aH, aI, bW⟩ := Kd.V_slice ay.out; subst bW))
 have a7 : Aside0 (Kd.V (Kd.int .u32) 48 (((aX.setCell ⟨aa, 0, none⟩ (.bool az)).setCell ⟨aa, 1, none⟩ (.slice aD aw.length aE)).setCell ⟨aa, 2, none⟩ (.slice aH aA.length aI)) w.heap.size (fun k_ => ((P0_1_ k_ ∨ P0_2_ k_ ∨ P1_1_ k_ ∨ P1_2_ k_) ∨ w.heap.size ≤ k_) ∧ k_ ≠ ae ∧ k_ ≠ aa ∧ k_ ≠ ab) (.slice A0_1 l0_1.length c0_1) l0_1) := ⟨by exact vf al.out⟩
 have a8 : Aside0 (Kd.V (Kd.int .u32) 48 (((aX.setCell ⟨aa, 0, none⟩ (.bool az)).setCell ⟨aa, 1, none⟩ (.slice aD aw.length aE)).setCell ⟨aa, 2, none⟩ (.slice aH aA.length aI)) w.heap.size (fun k_ => ((P0_1_ k_ ∨ P0_2_ k_ ∨ P1_1_ k_ ∨ P1_2_ k_) ∨ w.heap.size ≤ k_) ∧ k_ ≠ ae ∧ k_ ≠ aa ∧ k_ ≠ ab) (.slice A0_2 l0_2.length c0_2) l0_2) := ⟨by exact vf an.out⟩
 have a9 : Aside0 (Kd.V (Kd.int .u32) 48 (((aX.setCell ⟨aa, 0, none⟩ (.bool az)).setCell ⟨aa, 1, none⟩ (.slice aD aw.length aE)).setCell ⟨aa, 2, none⟩ (.slice aH aA.length aI)) w.heap.size (fun k_ => ((P0_1_ k_ ∨ P0_2_ k_ ∨ P1_1_ k_ ∨ P1_2_ k_) ∨ w.heap.size ≤ k_) ∧ k_ ≠ ae ∧ k_ ≠ aa ∧ k_ ≠ ab) (.slice A1_1 l1_1.length c1_1) l1_1) := ⟨by exact vf ao.out⟩
 have ba : Aside0 (Kd.V (Kd.int .u32) 48 (((aX.setCell ⟨aa, 0, none⟩ (.bool az)).setCell ⟨aa, 1, none⟩ (.slice aD aw.length aE)).setCell ⟨aa, 2, none⟩ (.slice aH aA.length aI)) w.heap.size (fun k_ => ((P0_1_ k_ ∨ P0_2_ k_ ∨ P1_1_ k_ ∨ P1_2_ k_) ∨ w.heap.size ≤ k_) ∧ k_ ≠ ae ∧ k_ ≠ aa ∧ k_ ≠ ab) (.slice A1_2 l1_2.length c1_2) l1_2) := ⟨by exact vf ap.out⟩
 have bb : Aside0 (Kd.V (Kd.int .u32) 48 (((aX.setCell ⟨aa, 0, none⟩ (.bool az)).setCell ⟨aa, 1, none⟩ (.slice aD aw.length aE)).setCell ⟨aa, 2, none⟩ (.slice aH aA.length aI)) w.heap.size (fun k_ => ((P0_1_ k_ ∨ P0_2_ k_ ∨ P1_1_ k_ ∨ P1_2_ k_) ∨ w.heap.size ≤ k_) ∧ k_ ≠ ae ∧ k_ ≠ aa ∧ k_ ≠ ab) (.slice aT aF.length aU) aF) := ⟨by exact vf aj.out⟩
 have bd : Aside0 (Kd.V (Kd.int .u32) 48 (((aX.setCell ⟨aa, 0, none⟩ (.bool az)).setCell ⟨aa, 1, none⟩ (.slice aD aw.length aE)).setCell ⟨aa, 2, none⟩ (.slice aH aA.length aI)) w.heap.size (fun k_ => ((P0_1_ k_ ∨ P0_2_ k_ ∨ P1_1_ k_ ∨ P1_2_ k_) ∨ w.heap.size ≤ k_) ∧ k_ ≠ ae ∧ k_ ≠ aa ∧ k_ ≠ ab) (.slice aV aG.length aW) aG) := ⟨by exact vf ak.out⟩
 have bf : Aside0 (Kd.V (Kd.int .u32) 48 (((aX.setCell ⟨aa, 0, none⟩ (.bool az)).setCell ⟨aa, 1, none⟩ (.slice aD aw.length aE)).setCell ⟨aa, 2, none⟩ (.slice aH aA.length aI)) w.heap.size (fun k_ => ((P0_1_ k_ ∨ P0_2_ k_ ∨ P1_1_ k_ ∨ P1_2_ k_) ∨ w.heap.size ≤ k_) ∧ k_ ≠ ae ∧ k_ ≠ aa ∧ k_ ≠ ab) (.slice aD aw.length aE) aw) := ⟨by exact vf ax.out⟩
 have bg : Aside0 (Kd.V (Kd.int .u32) 48 (((aX.setCell ⟨aa, 0, none⟩ (.bool az)).setCell ⟨aa, 1, none⟩ (.slice aD aw.length aE)).setCell ⟨aa, 2, none⟩ (.slice aH aA.length aI)) w.heap.size (fun k_ => ((P0_1_ k_ ∨ P0_2_ k_ ∨ P1_1_ k_ ∨ P1_2_ k_) ∨ w.heap.size ≤ k_) ∧ k_ ≠ ae ∧ k_ ≠ aa ∧ k_ ≠ ab) (.slice aH aA.length aI) aA) := ⟨by exact vf ay.out⟩
 have bh : Aside0 ((((aX.setCell ⟨aa, 0, none⟩ (.bool az)).setCell ⟨aa, 1, none⟩ (.slice aD aw.length aE)).setCell ⟨aa, 2, none⟩ (.slice aH aA.length aI)).heap[ae]? = some (.cells #[.bool aL, .slice aT aF.length aU, .slice aV aG.length aW] 67 (0, 0))) := ⟨by (with_reducible repeat (first | refine blk_drewN ?_ _ | refine blk_drew ?_ | refine blk_alloc ?_ _)); refine blk_far ?_ aC.out _; (with_reducible repeat (first | refine blk_drewN ?_ _ | refine blk_drew ?_ | refine blk_alloc ?_ _)); refine blk_far ?_ aC.out _; (with_reducible repeat (first | refine blk_drewN ?_ _ | refine blk_drew ?_ | refine blk_alloc ?_ _)); refine blk_far ?_ aC.out _; (with_reducible repeat (first | refine blk_drewN ?_ _ | refine blk_drew ?_ | refine blk_alloc ?_ _)); exact ac.out⟩
 have bi : Aside0 ((((aX.setCell ⟨aa, 0, none⟩ (.bool az)).setCell ⟨aa, 1, none⟩ (.slice aD aw.length aE)).setCell ⟨aa, 2, none⟩ (.slice aH aA.length aI)).heap[aa]? = some (.cells #[.bool az, .slice aD aw.length aE, .slice aH aA.length aI] 67 (0, 0))) := ⟨by (with_reducible repeat (first | refine blk_drewN ?_ _ | refine blk_drew ?_ | refine blk_alloc ?_ _)); refine blk_put (cs := #[.bool az, .slice aD aw.length aE, .slice A1_2 l1_2.length c1_2]) ?_ 2 _ rfl; (with_reducible repeat (first | refine blk_drewN ?_ _ | refine blk_drew ?_ | refine blk_alloc ?_ _)); refine blk_put (cs := #[.bool az, .slice A1_1 l1_1.length c1_1, .slice A1_2 l1_2.length c1_2]) ?_ 1 _ rfl; (with_reducible repeat (first | refine blk_drewN ?_ _ | refine blk_drew ?_ | refine blk_alloc ?_ _)); refine blk_put (cs := #[.bool a1_0, .slice A1_1 l1_1.length c1_1, .slice A1_2 l1_2.length c1_2]) ?_ 0 _ rfl; (with_reducible repeat (first | refine blk_drewN ?_ _ | refine blk_drew ?_ | refine blk_alloc ?_ _)); exact ad.out⟩
 have a5 : Aside0 ((((aX.setCell ⟨aa, 0, none⟩ (.bool az)).setCell ⟨aa, 1, none⟩ (.slice aD aw.length aE)).setCell ⟨aa, 2, none⟩ (.slice aH aA.length aI)).heap[ab]? = some (.cells #[.bool false, .slice none 0 0, .slice none 0 0] 67 (0, 0))) := ⟨by (with_reducible repeat (first | refine blk_drewN ?_ _ | refine blk_drew ?_ | refine blk_alloc ?_ _)); refine blk_far ?_ au.out _; (with_reducible repeat (first | refine blk_drewN ?_ _ | refine blk_drew ?_ | refine blk_alloc ?_ _)); refine blk_far ?_ au.out _; (with_reducible repeat (first | refine blk_drewN ?_ _ | refine blk_drew ?_ | refine blk_alloc ?_ _)); refine blk_far ?_ au.out _; (with_reducible repeat (first | refine blk_drewN ?_ _ | refine blk_drew ?_ | refine blk_alloc ?_ _)); exact af.out⟩
 have a6 : Aside0 (Below w.heap.size w (((aX.setCell ⟨aa, 0, none⟩ (.bool az)).setCell ⟨aa, 1, none⟩ (.slice aD aw.length aE)).setCell ⟨aa, 2, none⟩ (.slice aH aA.length aI))) := ⟨by repeat (first | (with_reducible first | exact HB.out | apply below_alloc | apply pw_below_drewN | apply below_drew1 | refine below_set ?_ ai.out | refine below_set ?_ aq.out | refine below_set ?_ av.out) | exact HB.out)⟩
 (try clear al)
 (try clear an)
 (try clear ao)
 (try clear ap)
 (try clear aj)
 (try clear ak)
 (try clear ax)
 (try clear ay)
 (try clear ac)
 (try clear ad)
 (try clear af)
 (try clear HB)
 generalize (((aX.setCell ⟨aa, 0, none⟩ (.bool az)).setCell ⟨aa, 1, none⟩ (.slice aD aw.length aE)).setCell ⟨aa, 2, none⟩ (.slice aH aA.length aI)) = cm at a7 a8 a9 ba bb bd bf bg bh bi a5 a6 ⊢
 have al := a7
 have an := a8
 have ao := a9
 have ap := ba
 have aj := bb
 have ak := bd
 have ax := bf
 have ay := bg
 have ac := bh
 have ad := bi
 have af := a5
 have HB := a6
 clear a7 a8 a9 ba bb bd bf bg bh bi a5 a6
 replace al := am (Kd.V_drew al.out)
 replace an := am (Kd.V_drew an.out)
 replace ao := am (Kd.V_drew ao.out)
 replace ap := am (Kd.V_drew ap.out)
 replace aj := am (Kd.V_drew aj.out)
 replace ak := am (Kd.V_drew ak.out)
 replace ax := am (Kd.V_drew ax.out)
 replace ay := am (Kd.V_drew ay.out)
 replace ac := am (blk_drew ac.out)
 replace ad := am (blk_drew ad.out)
 replace af := am (blk_drew af.out)
 replace HB := am (below_drew1 HB.out)
 refine start_ (n := 17) (S := fun w' => w'.cell? ⟨ae, 0, none⟩ = some (.bool aL) ∧ w'.cell? ⟨ae, 1, none⟩ = some (.slice aT aF.length aU) ∧ w'.cell? ⟨ae, 2, none⟩ = some (.slice aV aG.length aW) ∧ w'.cell? ⟨aa, 0, none⟩ = some (.bool az) ∧ w'.cell? ⟨aa, 1, none⟩ = some (.slice aD aw.length aE) ∧ w'.cell? ⟨aa, 2, none⟩ = some (.slice aH aA.length aI)) (ds := []) #[false, false, false, false, false, false, false, false, false, false, false, false, false, false, false, false, false] (by kernel_rfl) rfl rfl ⟨bc ac 0, bc ac 1, bc ac 2, bc ad 0, bc ad 1, bc ad 2⟩ (fun hHeld => ?_); refine with_tabW codewrightref02_Mul.tab3 codewrightref02_Mul.bits3 (fun HT_ HW_ => ?_)
 generalize cm.drew = co at al an ao ap aj ak ax ay ac ad af HB hHeld ⊢
 refine pq 0 (some 9) #[true, false, false, false, false, false, false, false, false, false, false, false, false, false, false, false, false] HT_ ?_
 refine pq 2 (some 11) #[true, false, true, false, false, false, false, false, false, false, false, false, false, false, false, false, false] HT_ ?_
 refine pq 5 (some 14) #[true, false, true, false, false, true, false, false, false, false, false, false, false, false, false, false, false] HT_ ?_
 refine pq 7 (some 16) #[true, false, true, false, false, true, false, true, false, false, false, false, false, false, false, false, false] HT_ ?_
 refine pq 10 (some 19) #[true, false, true, false, false, true, false, true, false, false, true, false, false, false, false, false, false] HT_ ?_
 refine pq 12 (some 21) #[true, false, true, false, false, true, false, true, false, false, true, false, true, false, false, false, false] HT_ ?_
 refine tq 1 (some 10) #[true, true, true, false, false, true, false, true, false, false, true, false, true, false, false, false, false] HT_ HW_ hHeld ?_
 refine tq 3 (some 12) #[true, true, true, true, false, true, false, true, false, false, true, false, true, false, false, false, false] HT_ HW_ hHeld ?_
 refine pq 4 (some 13) #[true, true, true, true, true, true, false, true, false, false, true, false, true, false, false, false, false] HT_ ?_
 refine tq 6 (some 15) #[true, true, true, true, true, true, true, true, false, false, true, false, true, false, false, false, false] HT_ HW_ hHeld ?_
 refine tq 8 (some 17) #[true, true, true, true, true, true, true, true, true, false, true, false, true, false, false, false, false] HT_ HW_ hHeld ?_
 refine tq 11 (some 20) #[true, true, true, true, true, true, true, true, true, false, true, true, true, false, false, false, false] HT_ HW_ hHeld ?_
 refine tq 13 (some 22) #[true, true, true, true, true, true, true, true, true, false, true, true, true, true, false, false, false] HT_ HW_ hHeld ?_
 refine one_ (i := 9) (N := some 18) #[true, true, true, true, true, true, true, true, true, true, true, true, true, true, false, false, false] rfl rfl (one_of HT_.out (by kernel_rfl)) (by decide) (fun K hK => ?_)
 refine goes_ Try.func57 (by kernel_rfl) rfl #[.slice aT aF.length aU, .slice aD aw.length aE] (by rfl) rfl rfl lu ?_
 with_reducible refine (codewrightref01_Mul.calls k _ _ aF _ _ aw aO _ ?side1 ?side2 ?side3 ?side4 A5.out).mono ?_
 (case side1 => exact cu (Kd.V_reads' aj.out).2.2)
 (case side2 => exact (Kd.V_reads' aj.out).2.1)
 (case side3 => exact cu (Kd.V_reads' ax.out).2.2)
 (case side4 => exact (Kd.V_reads' ax.out).2.1)
 rintro e cp ⟨cg, rfl, aN, hb⟩
 refine ⟨_, rfl, ?_⟩
 replace aN := R_V_base rfl aN
 replace al := kv al hb
 replace an := kv an hb
 replace ao := kv ao hb
 replace ap := kv ap hb
 replace aj := kv aj hb
 replace ak := kv ak hb
 replace ax := kv ax hb
 replace ay := kv ay hb
 have aJ := ar0 w.heap.size (ok' := fun k_ => ((P0_1_ k_ ∨ P0_2_ k_ ∨ P1_1_ k_ ∨ P1_2_ k_) ∨ w.heap.size ≤ k_) ∧ k_ ≠ ae ∧ k_ ≠ aa ∧ k_ ≠ ab) aN (fa (fz3 HB ai aq av) (fa (fb ac) (fa (fb ad) (fb af))))
 replace ac := kb ac hb
 replace ad := kb ad hb
 replace af := kb af hb
 replace HB := be3 HB ai aq av hb
 (try clear hb)
 (try clear hb2)
 (try clear hk)
 (try clear hi)
 (try clear aN)
 refine hK.out _ _ ⟨bc ac 0, bc ac 1, bc ac 2, bc ad 0, bc ad 1, bc ad 2⟩ (fun hHeld => ?_)
 clear hK K
 refine nq 18 ?_
 refine one_ (i := 14) (N := some 23) #[true, true, true, true, true, true, true, true, true, true, true, true, true, true, true, false, false] rfl rfl (one_of HT_.out (by kernel_rfl)) (by decide) (fun K hK => ?_)
 refine goes_ Try.func57 (by kernel_rfl) rfl #[.slice aV aG.length aW, .slice aH aA.length aI] (by rfl) rfl rfl lu ?_
 with_reducible refine (codewrightref01_Mul.calls k _ _ aG _ _ aA aP _ ?side1 ?side2 ?side3 ?side4 A6.out).mono ?_
 (case side1 => exact cu (Kd.V_reads' ak.out).2.2)
 (case side2 => exact (Kd.V_reads' ak.out).2.1)
 (case side3 => exact cu (Kd.V_reads' ay.out).2.2)
 (case side4 => exact (Kd.V_reads' ay.out).2.1)
 rintro e cq ⟨ch, rfl, aN, hb⟩
 refine ⟨_, rfl, ?_⟩
 replace aN := R_V_base rfl aN
 replace al := kv al hb
 replace an := kv an hb
 replace ao := kv ao hb
 replace ap := kv ap hb
 replace aj := kv aj hb
 replace ak := kv ak hb
 replace ax := kv ax hb
 replace ay := kv ay hb
 replace aJ := kv aJ hb
 have aM := ar0 w.heap.size (ok' := fun k_ => ((P0_1_ k_ ∨ P0_2_ k_ ∨ P1_1_ k_ ∨ P1_2_ k_) ∨ w.heap.size ≤ k_) ∧ k_ ≠ ae ∧ k_ ≠ aa ∧ k_ ≠ ab) aN (fa (fz3 HB ai aq av) (fa (fb ac) (fa (fb ad) (fb af))))
 replace ac := kb ac hb
 replace ad := kb ad hb
 replace af := kb af hb
 replace HB := be3 HB ai aq av hb
 (try clear hb)
 (try clear hb2)
 (try clear hk)
 (try clear hi)
 (try clear aN)
 obtain ⟨bX, bY, bj⟩ := Kd.V_slice aJ.out
 (first | subst bj | (injection bj with f1_ f2_ f3_; have f4_ := f1_.symm; have f5_ := f3_.symm; clear f1_ f2_ f3_; subst f4_; subst f5_))
 obtain ⟨bZ, b0, bk⟩ := Kd.V_slice aM.out
 (first | subst bk | (injection bk with f1_ f2_ f3_; have f4_ := f1_.symm; have f5_ := f3_.symm; clear f1_ f2_ f3_; subst f4_; subst f5_))
 refine hK.out _ _ ⟨bc ac 0, bc ac 1, bc ac 2, bc ad 0, bc ad 1, bc ad 2⟩ (fun hHeld => ?_)
 clear hK K
 refine nq 23 ?_
 refine one_ (i := 15) (N := some 24) #[true, true, true, true, true, true, true, true, true, true, true, true, true, true, true, true, false] rfl rfl (one_of HT_.out (by kernel_rfl)) (by decide) (fun K hK => ?_)
 refine goes_ Try.func80 (by kernel_rfl) rfl #[.bool (aL != az), .slice bX aO.length bY, .slice bZ aP.length b0] (by rfl) rfl rfl lu ?_
 with_reducible refine (codewrightref02_Make.calls k (aL != az) (fun k_ => (((P0_1_ k_ ∨ P0_2_ k_ ∨ P1_1_ k_ ∨ P1_2_ k_) ∨ w.heap.size ≤ k_) ∧ (k_ ≠ ae ∧ (k_ ≠ aa ∧ k_ ≠ ab)))) _ _ aO (fun k_ => (((P0_1_ k_ ∨ P0_2_ k_ ∨ P1_1_ k_ ∨ P1_2_ k_) ∨ w.heap.size ≤ k_) ∧ (k_ ≠ ae ∧ (k_ ≠ aa ∧ k_ ≠ ab)))) _ _ aP a1 a2 a3 _ ?side1 ?side2 A7.out).mono ?_
 (case side1 => exact vz aJ.out)
 (case side2 => exact vz aM.out)
 rintro e b1 ⟨ci, cj, rfl, aN, a4, hb⟩
 refine ⟨_, rfl, ?_⟩
 replace al := kv al hb
 replace an := kv an hb
 replace ao := kv ao hb
 replace ap := kv ap hb
 replace aj := kv aj hb
 replace ak := kv ak hb
 replace ax := kv ax hb
 replace ay := kv ay hb
 replace aJ := kv aJ hb
 replace aM := kv aM hb
 have aY := ar w.heap.size (ok' := fun k_ => ((P0_1_ k_ ∨ P0_2_ k_ ∨ P1_1_ k_ ∨ P1_2_ k_) ∨ w.heap.size ≤ k_) ∧ k_ ≠ ae ∧ k_ ≠ aa ∧ k_ ≠ ab) aN (fa (fz3 HB ai aq av) (fa (fb ac) (fa (fb ad) (fb af))))
 have aZ := ar w.heap.size (ok' := fun k_ => ((P0_1_ k_ ∨ P0_2_ k_ ∨ P1_1_ k_ ∨ P1_2_ k_) ∨ w.heap.size ≤ k_) ∧ k_ ≠ ae ∧ k_ ≠ aa ∧ k_ ≠ ab) a4 (fa (fz3 HB ai aq av) (fa (fb ac) (fa (fb ad) (fb af))))
 replace ac := kb ac hb
 replace ad := kb ad hb
 replace af := kb af hb
 replace HB := be3 HB ai aq av hb
 (try clear hb)
 (try clear hb2)
 (try clear hk)
 (try clear hi)
 (try clear aN)
 (try clear a4)
 obtain ⟨b2, b3, bl⟩ := Kd.V_slice aY.out
 (first | subst bl | (injection bl with f1_ f2_ f3_; have f4_ := f1_.symm; have f5_ := f3_.symm; clear f1_ f2_ f3_; subst f4_; subst f5_))
 obtain ⟨b4, b5, bm⟩ := Kd.V_slice aZ.out
 (first | subst bm | (injection bm with f1_ f2_ f3_; have f4_ := f1_.symm; have f5_ := f3_.symm; clear f1_ f2_ f3_; subst f4_; subst f5_))
 refine hK.out _ _ ⟨bc ac 0, bc ac 1, bc ac 2, bc ad 0, bc ad 1, bc ad 2⟩ (fun hHeld => ?_)
 clear hK K
 refine nq 24 ?_
 refine one_ (i := 16) (N := none) #[true, true, true, true, true, true, true, true, true, true, true, true, true, true, true, true, true] rfl rfl (one_of HT_.out (by kernel_rfl)) (by decide) (fun K hK => ?_)
 have hs32 : b1.cell? ⟨ab, 0, none⟩ = some (.bool false) := bc af 0
 have hfs32 := blk_frozen af.out 0
 have hns32_0 := ag.out
 have hns32_1 := ah.out
 have hms32_0 := aB.out
 have hms32_1 := au.out
 have hs34 : b1.cell? ⟨ab, 1, none⟩ = some (.slice none 0 0) := bc af 1
 have hfs34 := blk_frozen af.out 1
 have hns34_0 := ag.out
 have hns34_1 := ah.out
 have hms34_0 := aB.out
 have hms34_1 := au.out
 have hs36 : b1.cell? ⟨ab, 2, none⟩ = some (.slice none 0 0) := bc af 2
 have hfs36 := blk_frozen af.out 2
 have hns36_0 := ag.out
 have hns36_1 := ah.out
 have hms36_0 := aB.out
 have hms36_1 := au.out
 refine skip_ (w1 := ?_) (by rfl) rfl ?_ ?_
 rotate_left
 ·
  go_simp
  rfl
 refine hK.out _ _ ⟨((cell_far (p := ⟨ab, _, none⟩) ag.out _).trans (((cell_far (p := ⟨ab, _, none⟩) ag.out _).trans (((cell_far (p := ⟨ab, _, none⟩) ag.out _).trans (hHeld.1)))))), ((cell_far (p := ⟨ab, _, none⟩) ag.out _).trans (((cell_far (p := ⟨ab, _, none⟩) ag.out _).trans (((cell_far (p := ⟨ab, _, none⟩) ag.out _).trans (hHeld.2.1)))))), ((cell_far (p := ⟨ab, _, none⟩) ag.out _).trans (((cell_far (p := ⟨ab, _, none⟩) ag.out _).trans (((cell_far (p := ⟨ab, _, none⟩) ag.out _).trans (hHeld.2.2.1)))))), ((cell_far (p := ⟨ab, _, none⟩) ah.out _).trans (((cell_far (p := ⟨ab, _, none⟩) ah.out _).trans (((cell_far (p := ⟨ab, _, none⟩) ah.out _).trans (hHeld.2.2.2.1)))))), ((cell_far (p := ⟨ab, _, none⟩) ah.out _).trans (((cell_far (p := ⟨ab, _, none⟩) ah.out _).trans (((cell_far (p := ⟨ab, _, none⟩) ah.out _).trans (hHeld.2.2.2.2.1)))))), ((cell_far (p := ⟨ab, _, none⟩) ah.out _).trans (((cell_far (p := ⟨ab, _, none⟩) ah.out _).trans (((cell_far (p := ⟨ab, _, none⟩) ah.out _).trans (hHeld.2.2.2.2.2))))))⟩ (fun hHeld => ?_)
 clear hK K
 refine done_ (done_of HT_.out (by kernel_rfl)) ?_
 try go_wp2
 refine bodyPost_ret (results_cell_row rfl _ _ ab 67 #[.bool a1, .slice b2 a2.length b3, .slice b4 a3.length b5] (0, 0) _ rfl (kp af.out) Try.underlying67 rfl (by kernel_rfl)) rfl ?_
 exact ⟨_, _, by first | rfl | (simp [errW_none, errW_some] <;> rfl) | (simp [*, errW_none, errW_some] <;> rfl), by exact vf aY.out, by exact vf aZ.out, by repeat (first | (with_reducible first | exact HB.out | apply below_alloc | apply pw_below_drewN | apply below_drew1 | refine below_set ?_ ai.out | refine below_set ?_ aq.out | refine below_set ?_ av.out) | exact HB.out)⟩
end Go.Proofs.Ytecfdemglbfnoaa.PT
end
section
namespace Go.Proofs.Ytecfdemglbfnoaa.PT
open Go.RowKit Go.Proofs.YtecfdemglbfnoaaW.PrintWords Go.Proofs.YtecfdemglbfnoaaW.PrintLast Go.Proofs.YtecfdemglbfnoaaW.PrintMore
attribute [local go_sem] max2_int min2_int max_two min_two max_three min_three max_four min_four
set_option linter.unusedVariables false
set_option linter.unusedSimpArgs false
set_option maxHeartbeats 8000000
set_option maxRecDepth 100000
mutual
def codewrightlaw02_RationalLists.j0 : Nat → List (S67) → List (S67) → Bool → Option (Bool)
 | 0, _, _, _ => none
 | k + 1, x0, x1, x11 => if x11 = true then (some true) else (if (wrap64 ((x0.length : Int) + (x1.length : Int))) > 16 then (some true) else ((some (([] : List (S67)) : List (S67))).bind fun y1802 => (if y1802.length + x0.length < 2513169434916 then ((some (y1802 ++ x0 : List (S67))).bind fun y1805 => (if y1805.length + x1.length < 2513169434916 then ((some (y1805 ++ x1 : List (S67))).bind fun y1808 => ((rational_Add.f k ([] : List (S67))).bind fun bt1811 => ((codewrightref02_Int.f k 0).bind fun bt1818 => ((codewrightlaw02_same.f k bt1811.1 bt1811.2.1 bt1811.2.2 bt1818.1 bt1818.2.1 bt1818.2.2).bind fun t1825 => (if t1825 = true then ((rational_Mul.f k ([] : List (S67))).bind fun bt1826 => ((codewrightref02_Int.f k 1).bind fun bt1833 => ((codewrightlaw02_same.f k bt1826.1 bt1826.2.1 bt1826.2.2 bt1833.1 bt1833.2.1 bt1833.2.2).bind fun t1840 => (codewrightlaw02_RationalLists.j1 k x0 x1 y1808 (!t1840))))) else (codewrightlaw02_RationalLists.j1 k x0 x1 y1808 true)))))) else (none))) else (none))))
def codewrightlaw02_RationalLists.j1 : Nat → List (S67) → List (S67) → List (S67) → Bool → Option (Bool)
 | 0, _, _, _, _ => none
 | k + 1, x0, x1, x5, x32 => if x32 = true then (none) else ((rational_Add.f k x5).bind fun bt1841 => ((rational_Add.f k x0).bind fun bt1848 => ((rational_Add.f k x1).bind fun bt1855 => ((codewrightref02_Add.f k bt1848.1 bt1848.2.1 bt1848.2.2 bt1855.1 bt1855.2.1 bt1855.2.2).bind fun bt1862 => ((codewrightlaw02_same.f k bt1841.1 bt1841.2.1 bt1841.2.2 bt1862.1 bt1862.2.1 bt1862.2.2).bind fun t1869 => (if t1869 = true then ((rational_Mul.f k x5).bind fun bt1870 => ((rational_Mul.f k x0).bind fun bt1877 => ((rational_Mul.f k x1).bind fun bt1884 => ((codewrightref02_Mul.f k bt1877.1 bt1877.2.1 bt1877.2.2 bt1884.1 bt1884.2.1 bt1884.2.2).bind fun bt1891 => ((codewrightlaw02_same.f k bt1870.1 bt1870.2.1 bt1870.2.2 bt1891.1 bt1891.2.1 bt1891.2.2).bind fun t1898 => (some t1898)))))) else (none)))))))
end
def codewrightlaw02_RationalLists.f (k : Nat) (l0 : List (S67)) (l1 : List (S67)) : Option (Bool) := (codewrightlaw02_long.f k 4 l0).bind fun t1800 => (if t1800 = true then (codewrightlaw02_RationalLists.j0 k l0 l1 true) else ((codewrightlaw02_long.f k 4 l1).bind fun t1801 => (codewrightlaw02_RationalLists.j0 k l0 l1 t1801)))
theorem codewrightlaw02_RationalLists.calls (k : Nat) (P0_ : Nat → Prop) (A0 : Option Addr) (c0 : Nat) (l0 : List (S67)) (P1_ : Nat → Prop) (A1 : Option Addr) (c1 : Nat) (l1 : List (S67)) (r : Bool) (w : World) (hs0 : Kd.V k67 67 w w.heap.size (fun k_ => P0_ k_) (.slice A0 l0.length c0) l0) (hs1 : Kd.V k67 67 w w.heap.size (fun k_ => P1_ k_) (.slice A1 l1.length c1) l1) (h : codewrightlaw02_RationalLists.f k l0 l1 = some r) :
 Calls Try.prog 15 #[.slice A0 l0.length c0, .slice A1 l1.length c1] w fun e w' => e = .returned (.bool r) ∧ Below w.heap.size w w' := by
 have b6 := am (show Kd.V k67 67 w w.heap.size (fun k_ => ((P0_ k_ ∨ P1_ k_) ∨ w.heap.size ≤ k_)) (.slice A0 l0.length c0) l0 from Kd.V_mono hs0 (fun k_ hk => .inl (.inl hk)))
 have ce := am (show Kd.V k67 67 w w.heap.size (fun k_ => ((P0_ k_ ∨ P1_ k_) ∨ w.heap.size ≤ k_)) (.slice A1 l1.length c1) l1 from Kd.V_mono hs1 (fun k_ hk => .inl (.inr hk)))
 have HB := am (Below.refl w.heap.size w)
 have H : ((codewrightlaw02_long.f k 4 l0).bind fun bo => (if bo = true then (codewrightlaw02_RationalLists.j0 k l0 l1 true) else ((codewrightlaw02_long.f k 4 l1).bind fun a7 => (codewrightlaw02_RationalLists.j0 k l0 l1 a7)))) = some r := h
 clear h
 have ch := am H
 clear H
 go_enter Try.func15, Try.ntmps15
 go_upto_region 1 with (fail)
 go_cut [11] (fun dM wc => ∃ (kq : Nat) (bn : Bool), dM = .bool bn ∧ Aside0 (codewrightlaw02_RationalLists.j0 kq l0 l1 bn = some r) ∧ Aside0 (kq ≤ k) ∧ Aside0 (Kd.V k67 67 wc w.heap.size (fun k_ => ((P0_ k_ ∨ P1_ k_) ∨ w.heap.size ≤ k_)) (.slice A0 l0.length c0) l0) ∧ Aside0 (Kd.V k67 67 wc w.heap.size (fun k_ => ((P0_ k_ ∨ P1_ k_) ∨ w.heap.size ≤ k_)) (.slice A1 l1.length c1) l1) ∧ Aside0 (Below w.heap.size w wc))
 case first =>
  have H := ch.out
  clear ch
  obtain ⟨bo, A4, H⟩ := bs H
  (try dsimp -simprocs only at H)
  by_cases c5 : bo = true
  ·
   subst c5
   have H1 : (codewrightlaw02_RationalLists.j0 k l0 l1 true) = some r := by rw [if_pos rfl] at H; exact H
   clear H
   have H := H1
   clear H1
   have H' := am H
   clear H
   go_wp2_with (first | ((with_reducible refine gate_callee (f := 86) rfl ?_); refine goesL_ (some 7) rfl rfl Try.func86 (by kernel_rfl) rfl #[.int .i64 4, .slice A0 l0.length c0] rfl lu ?_; (with_reducible refine (codewrightlaw02_long.calls k 4 _ _ l0 true _ ?side1 ?side2 A4.out).mono ?_); (case side1 => exact cu (Kd.V_reads' b6.out).2.2); (case side2 => exact (Kd.V_reads' b6.out).2.1); rintro e w' ⟨rfl, ⟨nd, rfl⟩⟩; refine ⟨_, rfl, ?_⟩))
   go_meet
   case rel => exact ⟨_, (true), (by first | rfl | (simp; done) | (simp [*]; done)), H', ⟨by first | omega | exact Nat.le_refl _⟩, ⟨by (with_reducible repeat (first | apply Kd.V_alloc | apply Kd.V_drewN | apply Kd.V_drew)); exact b6.out⟩, ⟨by (with_reducible repeat (first | apply Kd.V_alloc | apply Kd.V_drewN | apply Kd.V_drew)); exact ce.out⟩, ⟨by repeat (first | (with_reducible first | exact HB.out | apply below_alloc | apply pw_below_drewN | apply below_drew1) | exact HB.out)⟩⟩
  ·
   replace c5 := Bool.eq_false_iff.mpr c5
   subst c5
   have H1 : ((codewrightlaw02_long.f k 4 l1).bind fun a7 => (codewrightlaw02_RationalLists.j0 k l0 l1 a7)) = some r := by rw [if_neg (show ¬ (false = true) by decide)] at H; exact H
   clear H
   have H := H1
   clear H1
   obtain ⟨a7, A6, H⟩ := bs H
   (try dsimp -simprocs only at H)
   have H' := am H
   clear H
   go_wp2_with (first | ((with_reducible refine gate_callee (f := 86) rfl ?_); refine goesL_ (some 7) rfl rfl Try.func86 (by kernel_rfl) rfl #[.int .i64 4, .slice A0 l0.length c0] rfl lu ?_; (with_reducible refine (codewrightlaw02_long.calls k 4 _ _ l0 false _ ?side1 ?side2 A4.out).mono ?_); (case side1 => exact cu (Kd.V_reads' b6.out).2.2); (case side2 => exact (Kd.V_reads' b6.out).2.1); rintro e w' ⟨rfl, ⟨nd, rfl⟩⟩; refine ⟨_, rfl, ?_⟩) | (go_at_call 86; (with_reducible refine (codewrightlaw02_long.calls k 4 _ _ l1 a7 _ ?side1 ?side2 A6.out).mono ?_); (case side1 => exact cu (Kd.V_reads' ce.out).2.2); (case side2 => exact (Kd.V_reads' ce.out).2.1); rintro e w' ⟨rfl, ⟨nd, rfl⟩⟩))
   go_meet
   case rel => exact ⟨_, (a7), (by first | rfl | (simp; done) | (simp [*]; done)), H', ⟨by first | omega | exact Nat.le_refl _⟩, ⟨by (with_reducible repeat (first | apply Kd.V_alloc | apply Kd.V_drewN | apply Kd.V_drew)); exact b6.out⟩, ⟨by (with_reducible repeat (first | apply Kd.V_alloc | apply Kd.V_drewN | apply Kd.V_drew)); exact ce.out⟩, ⟨by repeat (first | (with_reducible first | exact HB.out | apply below_alloc | apply pw_below_drewN | apply below_drew1) | exact HB.out)⟩⟩
 case rest =>
  clear ch
  try clear c1
  try clear p2
  try clear c5
  obtain ⟨kq, bn, rfl, HA, HJ2, ac, ad, HB⟩ := hcut
  cases kq with
  | zero => exact absurd HA.out (by simp [codewrightlaw02_RationalLists.j0])
  | succ kj2 =>
   have H := HA.out
   clear HA
   simp only [codewrightlaw02_RationalLists.j0] at H
   by_cases c7 : bn = true
   ·
    subst c7
    have H1 : (some true) = some r := by rw [if_pos rfl] at H; exact H
    clear H
    have H := H1
    clear H1
    obtain rfl := Option.some.inj H
    go_wp2
    go_ret
    exact ⟨by first | rfl | (simp [errW_none, errW_some] <;> rfl) | (simp [*, errW_none, errW_some] <;> rfl), by repeat (first | (with_reducible first | exact HB.out | apply below_alloc | apply pw_below_drewN | apply below_drew1) | exact HB.out)⟩
   ·
    replace c7 := Bool.eq_false_iff.mpr c7
    subst c7
    have H1 : (if (wrap64 ((l0.length : Int) + (l1.length : Int))) > 16 then (some true) else ((some (([] : List (S67)) : List (S67))).bind fun aZ => (if aZ.length + l0.length < 2513169434916 then ((some (aZ ++ l0 : List (S67))).bind fun aJ => (if aJ.length + l1.length < 2513169434916 then ((some (aJ ++ l1 : List (S67))).bind fun aa => ((rational_Add.f kj2 ([] : List (S67))).bind fun av => ((codewrightref02_Int.f kj2 0).bind fun aw => ((codewrightlaw02_same.f kj2 av.1 av.2.1 av.2.2 aw.1 aw.2.1 aw.2.2).bind fun aW => (if aW = true then ((rational_Mul.f kj2 ([] : List (S67))).bind fun ai => ((codewrightref02_Int.f kj2 1).bind fun aj => ((codewrightlaw02_same.f kj2 ai.1 ai.2.1 ai.2.2 aj.1 aj.2.1 aj.2.2).bind fun aG => (codewrightlaw02_RationalLists.j1 kj2 l0 l1 aa (!aG))))) else (codewrightlaw02_RationalLists.j1 kj2 l0 l1 aa true)))))) else (none))) else (none)))) = some r := by rw [if_neg (show ¬ (false = true) by decide)] at H; exact H
    clear H
    have H := H1
    clear H1
    by_cases c8 : (wrap64 ((l0.length : Int) + (l1.length : Int))) > 16
    ·
     rw [if_pos c8] at H
     have b7 : decide (16 < (wrap64 ((l0.length : Int) + (l1.length : Int)))) = true := decide_eq_true c8
     clear c8
     obtain rfl := Option.some.inj H
     go_wp2
     go_ret
     exact ⟨by first | rfl | (simp [errW_none, errW_some] <;> rfl) | (simp [*, errW_none, errW_some] <;> rfl), by repeat (first | (with_reducible first | exact HB.out | apply below_alloc | apply pw_below_drewN | apply below_drew1) | exact HB.out)⟩
    ·
     rw [if_neg c8] at H
     have b7 : decide (16 < (wrap64 ((l0.length : Int) + (l1.length : Int)))) = false := decide_eq_false c8
     clear c8
     obtain ⟨aZ, a0⟩ : ∃ y_ : List (S67), y_ = (([] : List (S67))) := ⟨_, rfl⟩
     replace H : (if aZ.length + l0.length < 2513169434916 then ((some (aZ ++ l0 : List (S67))).bind fun aJ => (if aJ.length + l1.length < 2513169434916 then ((some (aJ ++ l1 : List (S67))).bind fun aa => ((rational_Add.f kj2 ([] : List (S67))).bind fun av => ((codewrightref02_Int.f kj2 0).bind fun aw => ((codewrightlaw02_same.f kj2 av.1 av.2.1 av.2.2 aw.1 aw.2.1 aw.2.2).bind fun aW => (if aW = true then ((rational_Mul.f kj2 ([] : List (S67))).bind fun ai => ((codewrightref02_Int.f kj2 1).bind fun aj => ((codewrightlaw02_same.f kj2 ai.1 ai.2.1 ai.2.2 aj.1 aj.2.1 aj.2.2).bind fun aG => (codewrightlaw02_RationalLists.j1 kj2 l0 l1 aa (!aG))))) else (codewrightlaw02_RationalLists.j1 kj2 l0 l1 aa true)))))) else (none))) else (none)) = some r := by first | (rw [a0]; with_reducible exact H) | (have H2_ := (Option.bind_some _ _).symm.trans H; rw [a0]; with_reducible exact H2_) | (have H2_ := (Option.bind_some _ _).symm.trans H; with_reducible exact H2_) | with_reducible exact H | (rw [a0]; exact H) | exact H
     have bp := am a0
     clear a0
     by_cases c9 : aZ.length + l0.length < 2513169434916
     ·
      rw [if_pos c9] at H
      have LMc9 := am c9
      clear c9
      obtain ⟨aJ, a1⟩ : ∃ y_ : List (S67), y_ = (aZ ++ l0) := ⟨_, rfl⟩
      replace H : (if aJ.length + l1.length < 2513169434916 then ((some (aJ ++ l1 : List (S67))).bind fun aa => ((rational_Add.f kj2 ([] : List (S67))).bind fun av => ((codewrightref02_Int.f kj2 0).bind fun aw => ((codewrightlaw02_same.f kj2 av.1 av.2.1 av.2.2 aw.1 aw.2.1 aw.2.2).bind fun aW => (if aW = true then ((rational_Mul.f kj2 ([] : List (S67))).bind fun ai => ((codewrightref02_Int.f kj2 1).bind fun aj => ((codewrightlaw02_same.f kj2 ai.1 ai.2.1 ai.2.2 aj.1 aj.2.1 aj.2.2).bind fun aG => (codewrightlaw02_RationalLists.j1 kj2 l0 l1 aa (!aG))))) else (codewrightlaw02_RationalLists.j1 kj2 l0 l1 aa true)))))) else (none)) = some r := by first | (rw [a1]; with_reducible exact H) | (have H2_ := (Option.bind_some _ _).symm.trans H; rw [a1]; with_reducible exact H2_) | (have H2_ := (Option.bind_some _ _).symm.trans H; with_reducible exact H2_) | with_reducible exact H | (rw [a1]; exact H) | exact H
      have b3 := am a1
      clear a1
      by_cases b8 : aJ.length + l1.length < 2513169434916
      ·
       rw [if_pos b8] at H
       have LMc10 := am b8
       clear b8
       obtain ⟨aa, a2⟩ : ∃ y_ : List (S67), y_ = (aJ ++ l1) := ⟨_, rfl⟩
       replace H : ((rational_Add.f kj2 ([] : List (S67))).bind fun av => ((codewrightref02_Int.f kj2 0).bind fun aw => ((codewrightlaw02_same.f kj2 av.1 av.2.1 av.2.2 aw.1 aw.2.1 aw.2.2).bind fun aW => (if aW = true then ((rational_Mul.f kj2 ([] : List (S67))).bind fun ai => ((codewrightref02_Int.f kj2 1).bind fun aj => ((codewrightlaw02_same.f kj2 ai.1 ai.2.1 ai.2.2 aj.1 aj.2.1 aj.2.2).bind fun aG => (codewrightlaw02_RationalLists.j1 kj2 l0 l1 aa (!aG))))) else (codewrightlaw02_RationalLists.j1 kj2 l0 l1 aa true))))) = some r := by first | (rw [a2]; with_reducible exact H) | (have H2_ := (Option.bind_some _ _).symm.trans H; rw [a2]; with_reducible exact H2_) | (have H2_ := (Option.bind_some _ _).symm.trans H; with_reducible exact H2_) | with_reducible exact H | (rw [a2]; exact H) | exact H
       have b4 := am a2
       clear a2
       have b5 := am H
       clear H
       go_upto_region 6 with (first | ((with_reducible refine gate_dst (N := 18) rfl ?_); refine Kd.N_lit k67 _ 67 ?hg (N' := 18) ?hd (xs := ([] : List (S67))) (inner := []) (ok := (fun k_ => ((P0_ k_ ∨ P1_ k_) ∨ w.heap.size ≤ k_))) (okp := (fun k_ => ((P0_ k_ ∨ P1_ k_) ∨ w.heap.size ≤ k_))) ?hr ?hp (fun _ hk => hk) ((show ∀ k_, wc.heap.size ≤ k_ → (fun k_ => ((P0_ k_ ∨ P1_ k_) ∨ w.heap.size ≤ k_)) k_ from fun k_ hk => (.inr (Nat.le_trans (below_size (bu HB.out)) hk))) _ (Nat.le_refl _)) (Below.refl _ _) (Nat.le_refl _) (by simp) ?_; (case hd => rfl); (case hg => rfl); (case hr => first | (go_simp; done) | (go_simp; rfl)); (case hp => exact (Reps.none _ _)); intro bq eq bi hb hg_ hnew_; clear hg_ hnew_; (first | rw [← bp.out] at bi | (simp only [Int.reduceToNat] at bi; rw [← bp.out] at bi)); replace ac := el ac bi hb; replace ad := el ad bi hb; have br := am (Kd.N_lower bi (below_size (bu HB.out))); replace HB := be HB hb; clear hb bi) | ((with_reducible refine gate_builtin (b := .append) (xs := #[.tmp 18, .tmp 19]) rfl ?_); at_builtin; refine Kd.N_append_rows k67 (w0 := w) w.heap.size rfl (.tmp 18) (.tmp 19) 82 67 (.agg #[(.bool false), (.slice none 0 0), (.slice none 0 0)]) 56 rfl Try.underlying82 info67 rfl (by decide) (by omega) bq aZ l0 _ _ _ (fun k_ => ((P0_ k_ ∨ P1_ k_) ∨ w.heap.size ≤ k_)) (fun k_ => ((fun k_ => ((P0_ k_ ∨ P1_ k_) ∨ w.heap.size ≤ k_))) k_ ∧ some k_ ≠ (bq : Value).ownBlock) rfl rfl ?aO ?aR (fun _ hk => hk) ?aF ?aB ?aS ?aL ?_; (case aR => exact (by skip; exact Kd.V_F (vy ((fun k_ => ((fun k_ => ((P0_ k_ ∨ P1_ k_) ∨ w.heap.size ≤ k_))) k_ ∧ some k_ ≠ (bq : Value).ownBlock)) ac.out))); (case aB => exact (bu HB.out)); (case aF => exact (fun k_ hk => (.inr (Nat.le_trans (below_size (bu HB.out)) hk)))); (case aO => exact (nu br.out)); (case aS => exact (below_size (bu HB.out))); (case aL => have := LMc9.out; omega); intro bv er ho hb hg hat; rw [← b3.out] at ho; replace ac := am (Kd.V_afterv (ok := (fun k_ => ((P0_ k_ ∨ P1_ k_) ∨ w.heap.size ≤ k_))) (vu ac.out) hg hat); replace ad := am (Kd.V_afterv (ok := (fun k_ => ((P0_ k_ ∨ P1_ k_) ∨ w.heap.size ≤ k_))) (vu ad.out) hg hat); replace HB := am (hb); have bw := am (ho); clear br ho hb hg hat) | ((with_reducible refine gate_builtin (b := .append) (xs := #[.tmp 20, .tmp 21]) rfl ?_); at_builtin; refine Kd.N_append_rows k67 (w0 := w) w.heap.size rfl (.tmp 20) (.tmp 21) 82 67 (.agg #[(.bool false), (.slice none 0 0), (.slice none 0 0)]) 56 rfl Try.underlying82 info67 rfl (by decide) (by omega) bv aJ l1 _ _ _ (fun k_ => ((P0_ k_ ∨ P1_ k_) ∨ w.heap.size ≤ k_)) (fun k_ => ((fun k_ => ((P0_ k_ ∨ P1_ k_) ∨ w.heap.size ≤ k_))) k_ ∧ some k_ ≠ (bv : Value).ownBlock) rfl rfl ?aO ?aR (fun _ hk => hk) ?aF ?aB ?aS ?aL ?_; (case aR => exact (by skip; exact Kd.V_F (vy ((fun k_ => ((fun k_ => ((P0_ k_ ∨ P1_ k_) ∨ w.heap.size ≤ k_))) k_ ∧ some k_ ≠ (bv : Value).ownBlock)) ad.out))); (case aB => exact (bu HB.out)); (case aF => exact (fun k_ hk => (.inr (Nat.le_trans (below_size (bu HB.out)) hk)))); (case aO => exact (nu bw.out)); (case aS => exact (below_size (bu HB.out))); (case aL => have := LMc10.out; omega); intro aC es ho hb hg hat; rw [← b4.out] at ho; replace ac := am (Kd.V_afterv (ok := (fun k_ => ((P0_ k_ ∨ P1_ k_) ∨ w.heap.size ≤ k_))) (vu ac.out) hg hat); replace ad := am (Kd.V_afterv (ok := (fun k_ => ((P0_ k_ ∨ P1_ k_) ∨ w.heap.size ≤ k_))) (vu ad.out) hg hat); replace HB := am (hb); have ab := am (ho); clear bw ho hb hg hat))
       (try simp only [Act.put, List.setIfInBounds_toArray, List.set_cons_zero, List.set_cons_succ])
       go_cut [32] (fun dN wc => ∃ (kq : Nat) (bh : Bool), dN = .bool bh ∧ Aside0 (codewrightlaw02_RationalLists.j1 kq l0 l1 aa bh = some r) ∧ Aside0 (kq ≤ kj2) ∧ Aside0 (Kd.V k67 67 wc w.heap.size (fun k_ => ((P0_ k_ ∨ P1_ k_) ∨ w.heap.size ≤ k_) ∧ some k_ ≠ (aC : Value).ownBlock) (.slice A0 l0.length c0) l0) ∧ Aside0 (Kd.V k67 67 wc w.heap.size (fun k_ => ((P0_ k_ ∨ P1_ k_) ∨ w.heap.size ≤ k_) ∧ some k_ ≠ (aC : Value).ownBlock) (.slice A1 l1.length c1) l1) ∧ Aside0 (Kd.N k67 67 wc w.heap.size (fun k_ => ((P0_ k_ ∨ P1_ k_) ∨ w.heap.size ≤ k_)) aC aa) ∧ Aside0 (Below w.heap.size w wc))
       case first =>
        have H := b5.out
        clear b5
        obtain ⟨⟨a8, a9, ba⟩, dp, H⟩ := bs H
        (try dsimp -simprocs only at H)
        obtain ⟨⟨bb, bd, bf⟩, dq, H⟩ := bs H
        (try dsimp -simprocs only at H)
        obtain ⟨aW, dr, H⟩ := bs H
        (try dsimp -simprocs only at H)
        by_cases b9 : aW = true
        ·
         subst b9
         have H1 : ((rational_Mul.f kj2 ([] : List (S67))).bind fun ai => ((codewrightref02_Int.f kj2 1).bind fun aj => ((codewrightlaw02_same.f kj2 ai.1 ai.2.1 ai.2.2 aj.1 aj.2.1 aj.2.2).bind fun aG => (codewrightlaw02_RationalLists.j1 kj2 l0 l1 aa (!aG))))) = some r := by rw [if_pos rfl] at H; exact H
         clear H
         have H := H1
         clear H1
         obtain ⟨⟨bL, bM, bN⟩, dO, H⟩ := bs H
         (try dsimp -simprocs only at H)
         obtain ⟨⟨bO, bP, bQ⟩, dP, H⟩ := bs H
         (try dsimp -simprocs only at H)
         obtain ⟨aG, dQ, H⟩ := bs H
         (try dsimp -simprocs only at H)
         have H' := am H
         clear H
         go_wp2_with (first | ((with_reducible refine gate_callee (f := 98) rfl ?_); refine goesL_ (some 23) rfl rfl Try.func98 (by kernel_rfl) rfl #[.slice none 0 0] rfl lu ?_; (refine (rational_Add.calls kj2 (fun k_ => False) _ _ ([] : List (S67)) a8 a9 ba _ ?side1 dp.out).mono ?_); (case side1 => exact Kd.V_nil _ _ _ _ _); rintro e et ⟨ca, cb, rfl, aH, aI, hb⟩; refine ⟨_, rfl, ?_⟩; replace ac := kv ac hb; replace ad := kv ad hb; have ae := am (Kd.V_lower (Kd.V_mono (ok' := fun k_ => ((P0_ k_ ∨ P1_ k_) ∨ w.heap.size ≤ k_) ∧ some k_ ≠ (aC : Value).ownBlock) aH (fun k_ hk_ => ⟨Or.elim hk_ (fun hs_ => (hs_).elim) (fun hn_ => (.inr (Nat.le_trans (below_size (bu HB.out)) hn_))), Or.elim hk_ (fun hs_ => (hs_).elim) (fun hn_ => (Kd.fresh' (Kd.N_lt (nu ab.out)) k_ hn_))⟩)) (below_size (bu HB.out))); have af := am (Kd.V_lower (Kd.V_mono (ok' := fun k_ => ((P0_ k_ ∨ P1_ k_) ∨ w.heap.size ≤ k_) ∧ some k_ ≠ (aC : Value).ownBlock) aI (fun k_ hk_ => ⟨Or.elim hk_ (fun hs_ => (hs_).elim) (fun hn_ => (.inr (Nat.le_trans (below_size (bu HB.out)) hn_))), Or.elim hk_ (fun hs_ => (hs_).elim) (fun hn_ => (Kd.fresh' (Kd.N_lt (nu ab.out)) k_ hn_))⟩)) (below_size (bu HB.out))); replace ab := kn ab hb; replace HB := be HB hb; (try clear hb); (try clear aH); (try clear aI)) | ((with_reducible refine gate_callee (f := 99) rfl ?_); refine goesL_ (some 24) rfl rfl Try.func99 (by kernel_rfl) rfl #[.int .i64 0] rfl lu ?_; (with_reducible refine (codewrightref02_Int.calls kj2 0 bb bd bf _ dq.out).mono ?_); rintro e eu ⟨cc, cd, rfl, aH, aI, hb⟩; refine ⟨_, rfl, ?_⟩; replace ac := kv ac hb; replace ad := kv ad hb; replace ae := kv ae hb; replace af := kv af hb; have an := ar0 w.heap.size (ok' := fun k_ => ((P0_ k_ ∨ P1_ k_) ∨ w.heap.size ≤ k_) ∧ some k_ ≠ (aC : Value).ownBlock) aH (fa (fz HB) (fo ab)); have ao := ar0 w.heap.size (ok' := fun k_ => ((P0_ k_ ∨ P1_ k_) ∨ w.heap.size ≤ k_) ∧ some k_ ≠ (aC : Value).ownBlock) aI (fa (fz HB) (fo ab)); replace ab := kn ab hb; replace HB := be HB hb; (try clear hb); (try clear aH); (try clear aI); obtain ⟨ci, cj, ck⟩ := Kd.V_slice ae.out; subst ck; obtain ⟨cl, cm, cn⟩ := Kd.V_slice af.out; subst cn; obtain ⟨co, cp, cq⟩ := Kd.V_slice an.out; subst cq; obtain ⟨cr, cs, ct⟩ := Kd.V_slice ao.out; subst ct) | ((with_reducible refine gate_callee (f := 83) rfl ?_); refine goesL_ (some 25) rfl rfl Try.func83 (by kernel_rfl) rfl #[.agg #[.bool a8, .slice ci a9.length cj, .slice cl ba.length cm], .agg #[.bool bb, .slice co bd.length cp, .slice cr bf.length cs]] rfl lu ?_; (with_reducible refine (codewrightlaw02_same.calls kj2 a8 _ _ a9 _ _ ba bb _ _ bd _ _ bf true _ ?side1 ?side2 ?side3 ?side4 ?side5 ?side6 ?side7 ?side8 dr.out).mono ?_); (case side1 => exact cu (Kd.V_reads' ae.out).2.2); (case side2 => exact (Kd.V_reads' ae.out).2.1); (case side3 => exact cu (Kd.V_reads' af.out).2.2); (case side4 => exact (Kd.V_reads' af.out).2.1); (case side5 => exact cu (Kd.V_reads' an.out).2.2); (case side6 => exact (Kd.V_reads' an.out).2.1); (case side7 => exact cu (Kd.V_reads' ao.out).2.2); (case side8 => exact (Kd.V_reads' ao.out).2.1); rintro e ev ⟨rfl, hb⟩; refine ⟨_, rfl, ?_⟩; replace ac := kv ac hb; replace ad := kv ad hb; replace ab := kn ab hb; replace ae := kv ae hb; replace af := kv af hb; replace an := kv an hb; replace ao := kv ao hb; replace HB := be HB hb; (try clear hb)) | (go_at_call 95; (refine (rational_Mul.calls kj2 (fun k_ => False) _ _ ([] : List (S67)) bL bM bN _ ?side1 dO.out).mono ?_); (case side1 => exact Kd.V_nil _ _ _ _ _); rintro e ew ⟨ds, dt, rfl, aH, aI, hb⟩; replace ac := kv ac hb; replace ad := kv ad hb; replace ae := kv ae hb; replace af := kv af hb; replace an := kv an hb; replace ao := kv ao hb; have aN := am (Kd.V_lower (Kd.V_mono (ok' := fun k_ => ((P0_ k_ ∨ P1_ k_) ∨ w.heap.size ≤ k_) ∧ some k_ ≠ (aC : Value).ownBlock) aH (fun k_ hk_ => ⟨Or.elim hk_ (fun hs_ => (hs_).elim) (fun hn_ => (.inr (Nat.le_trans (below_size (bu HB.out)) hn_))), Or.elim hk_ (fun hs_ => (hs_).elim) (fun hn_ => (Kd.fresh' (Kd.N_lt (nu ab.out)) k_ hn_))⟩)) (below_size (bu HB.out))); have aP := am (Kd.V_lower (Kd.V_mono (ok' := fun k_ => ((P0_ k_ ∨ P1_ k_) ∨ w.heap.size ≤ k_) ∧ some k_ ≠ (aC : Value).ownBlock) aI (fun k_ hk_ => ⟨Or.elim hk_ (fun hs_ => (hs_).elim) (fun hn_ => (.inr (Nat.le_trans (below_size (bu HB.out)) hn_))), Or.elim hk_ (fun hs_ => (hs_).elim) (fun hn_ => (Kd.fresh' (Kd.N_lt (nu ab.out)) k_ hn_))⟩)) (below_size (bu HB.out))); replace ab := kn ab hb; replace HB := be HB hb; (try clear hb); (try clear aH); (try clear aI)) | (go_at_call 99; (with_reducible refine (codewrightref02_Int.calls kj2 1 bO bP bQ _ dP.out).mono ?_); rintro e ex ⟨du, dv, rfl, aH, aI, hb⟩; replace ac := kv ac hb; replace ad := kv ad hb; replace ae := kv ae hb; replace af := kv af hb; replace an := kv an hb; replace ao := kv ao hb; replace aN := kv aN hb; replace aP := kv aP hb; have a3 := ar0 w.heap.size (ok' := fun k_ => ((P0_ k_ ∨ P1_ k_) ∨ w.heap.size ≤ k_) ∧ some k_ ≠ (aC : Value).ownBlock) aH (fa (fz HB) (fo ab)); have a4 := ar0 w.heap.size (ok' := fun k_ => ((P0_ k_ ∨ P1_ k_) ∨ w.heap.size ≤ k_) ∧ some k_ ≠ (aC : Value).ownBlock) aI (fa (fz HB) (fo ab)); replace ab := kn ab hb; replace HB := be HB hb; (try clear hb); (try clear aH); (try clear aI); obtain ⟨dR, dS, cv⟩ := Kd.V_slice aN.out; subst cv; obtain ⟨dT, dU, cw⟩ := Kd.V_slice aP.out; subst cw; obtain ⟨dV, dW, cx⟩ := Kd.V_slice a3.out; subst cx; obtain ⟨dX, dY, cy⟩ := Kd.V_slice a4.out; subst cy) | (go_at_call 83; (with_reducible refine (codewrightlaw02_same.calls kj2 bL _ _ bM _ _ bN bO _ _ bP _ _ bQ aG _ ?side1 ?side2 ?side3 ?side4 ?side5 ?side6 ?side7 ?side8 dQ.out).mono ?_); (case side1 => exact cu (Kd.V_reads' aN.out).2.2); (case side2 => exact (Kd.V_reads' aN.out).2.1); (case side3 => exact cu (Kd.V_reads' aP.out).2.2); (case side4 => exact (Kd.V_reads' aP.out).2.1); (case side5 => exact cu (Kd.V_reads' a3.out).2.2); (case side6 => exact (Kd.V_reads' a3.out).2.1); (case side7 => exact cu (Kd.V_reads' a4.out).2.2); (case side8 => exact (Kd.V_reads' a4.out).2.1); rintro e ey ⟨rfl, hb⟩; replace ac := kv ac hb; replace ad := kv ad hb; replace ab := kn ab hb; replace ae := kv ae hb; replace af := kv af hb; replace an := kv an hb; replace ao := kv ao hb; replace aN := kv aN hb; replace aP := kv aP hb; replace a3 := kv a3 hb; replace a4 := kv a4 hb; replace HB := be HB hb; (try clear hb)))
         go_meet
         case rel => exact ⟨_, (!aG), (by first | rfl | (simp; done) | (simp [*]; done) | (cases aG <;> first | rfl | (simp; done))), H', ⟨by have := HJ2.out; first | omega | exact Nat.le_refl _⟩, ⟨by (with_reducible repeat (first | apply Kd.V_alloc | apply Kd.V_drewN | apply Kd.V_drew)); exact ac.out⟩, ⟨by (with_reducible repeat (first | apply Kd.V_alloc | apply Kd.V_drewN | apply Kd.V_drew)); exact ad.out⟩, ⟨by (with_reducible repeat (first | apply Kd.N_alloc | apply Kd.N_drewN | apply Kd.N_drew)); exact ab.out⟩, ⟨by repeat (first | (with_reducible first | exact HB.out | apply below_alloc | apply pw_below_drewN | apply below_drew1) | exact HB.out)⟩⟩
        ·
         replace b9 := Bool.eq_false_iff.mpr b9
         subst b9
         have H1 : (codewrightlaw02_RationalLists.j1 kj2 l0 l1 aa true) = some r := by rw [if_neg (show ¬ (false = true) by decide)] at H; exact H
         clear H
         have H := H1
         clear H1
         have H' := am H
         clear H
         go_wp2_with (first | ((with_reducible refine gate_callee (f := 98) rfl ?_); refine goesL_ (some 23) rfl rfl Try.func98 (by kernel_rfl) rfl #[.slice none 0 0] rfl lu ?_; (refine (rational_Add.calls kj2 (fun k_ => False) _ _ ([] : List (S67)) a8 a9 ba _ ?side1 dp.out).mono ?_); (case side1 => exact Kd.V_nil _ _ _ _ _); rintro e ez ⟨ca, cb, rfl, aH, aI, hb⟩; refine ⟨_, rfl, ?_⟩; replace ac := kv ac hb; replace ad := kv ad hb; have ae := am (Kd.V_lower (Kd.V_mono (ok' := fun k_ => ((P0_ k_ ∨ P1_ k_) ∨ w.heap.size ≤ k_) ∧ some k_ ≠ (aC : Value).ownBlock) aH (fun k_ hk_ => ⟨Or.elim hk_ (fun hs_ => (hs_).elim) (fun hn_ => (.inr (Nat.le_trans (below_size (bu HB.out)) hn_))), Or.elim hk_ (fun hs_ => (hs_).elim) (fun hn_ => (Kd.fresh' (Kd.N_lt (nu ab.out)) k_ hn_))⟩)) (below_size (bu HB.out))); have af := am (Kd.V_lower (Kd.V_mono (ok' := fun k_ => ((P0_ k_ ∨ P1_ k_) ∨ w.heap.size ≤ k_) ∧ some k_ ≠ (aC : Value).ownBlock) aI (fun k_ hk_ => ⟨Or.elim hk_ (fun hs_ => (hs_).elim) (fun hn_ => (.inr (Nat.le_trans (below_size (bu HB.out)) hn_))), Or.elim hk_ (fun hs_ => (hs_).elim) (fun hn_ => (Kd.fresh' (Kd.N_lt (nu ab.out)) k_ hn_))⟩)) (below_size (bu HB.out))); replace ab := kn ab hb; replace HB := be HB hb; (try clear hb); (try clear aH); (try clear aI)) | ((with_reducible refine gate_callee (f := 99) rfl ?_); refine goesL_ (some 24) rfl rfl Try.func99 (by kernel_rfl) rfl #[.int .i64 0] rfl lu ?_; (with_reducible refine (codewrightref02_Int.calls kj2 0 bb bd bf _ dq.out).mono ?_); rintro e eA ⟨cc, cd, rfl, aH, aI, hb⟩; refine ⟨_, rfl, ?_⟩; replace ac := kv ac hb; replace ad := kv ad hb; replace ae := kv ae hb; replace af := kv af hb; have an := ar0 w.heap.size (ok' := fun k_ => ((P0_ k_ ∨ P1_ k_) ∨ w.heap.size ≤ k_) ∧ some k_ ≠ (aC : Value).ownBlock) aH (fa (fz HB) (fo ab)); have ao := ar0 w.heap.size (ok' := fun k_ => ((P0_ k_ ∨ P1_ k_) ∨ w.heap.size ≤ k_) ∧ some k_ ≠ (aC : Value).ownBlock) aI (fa (fz HB) (fo ab)); replace ab := kn ab hb; replace HB := be HB hb; (try clear hb); (try clear aH); (try clear aI); obtain ⟨cz, cA, cB⟩ := Kd.V_slice ae.out; subst cB; obtain ⟨cC, cD, cE⟩ := Kd.V_slice af.out; subst cE; obtain ⟨cF, cG, cH⟩ := Kd.V_slice an.out; subst cH; obtain ⟨cI, cJ, cK⟩ := Kd.V_slice ao.out; subst cK) | ((with_reducible refine gate_callee (f := 83) rfl ?_); refine goesL_ (some 25) rfl rfl Try.func83 (by kernel_rfl) rfl #[.agg #[.bool a8, .slice cz a9.length cA, .slice cC ba.length cD], .agg #[.bool bb, .slice cF bd.length cG, .slice cI bf.length cJ]] rfl lu ?_; (with_reducible refine (codewrightlaw02_same.calls kj2 a8 _ _ a9 _ _ ba bb _ _ bd _ _ bf false _ ?side1 ?side2 ?side3 ?side4 ?side5 ?side6 ?side7 ?side8 dr.out).mono ?_); (case side1 => exact cu (Kd.V_reads' ae.out).2.2); (case side2 => exact (Kd.V_reads' ae.out).2.1); (case side3 => exact cu (Kd.V_reads' af.out).2.2); (case side4 => exact (Kd.V_reads' af.out).2.1); (case side5 => exact cu (Kd.V_reads' an.out).2.2); (case side6 => exact (Kd.V_reads' an.out).2.1); (case side7 => exact cu (Kd.V_reads' ao.out).2.2); (case side8 => exact (Kd.V_reads' ao.out).2.1); rintro e eB ⟨rfl, hb⟩; refine ⟨_, rfl, ?_⟩; replace ac := kv ac hb; replace ad := kv ad hb; replace ab := kn ab hb; replace ae := kv ae hb; replace af := kv af hb; replace an := kv an hb; replace ao := kv ao hb; replace HB := be HB hb; (try clear hb)))
         go_meet
         case rel => exact ⟨_, (true), (by first | rfl | (simp; done) | (simp [*]; done)), H', ⟨by have := HJ2.out; first | omega | exact Nat.le_refl _⟩, ⟨by (with_reducible repeat (first | apply Kd.V_alloc | apply Kd.V_drewN | apply Kd.V_drew)); exact ac.out⟩, ⟨by (with_reducible repeat (first | apply Kd.V_alloc | apply Kd.V_drewN | apply Kd.V_drew)); exact ad.out⟩, ⟨by (with_reducible repeat (first | apply Kd.N_alloc | apply Kd.N_drewN | apply Kd.N_drew)); exact ab.out⟩, ⟨by repeat (first | (with_reducible first | exact HB.out | apply below_alloc | apply pw_below_drewN | apply below_drew1) | exact HB.out)⟩⟩
       case rest =>
        clear b5
        try clear c1
        try clear p2
        try clear c5
        try clear p6
        try clear c7
        try clear c8
        try clear b7
        try clear c9
        try clear b8
        try clear c15
        try clear b9
        try clear p2
        obtain ⟨kq, bh, rfl, HA, HJ10, ac, ad, ap, HB⟩ := hcut
        cases kq with
        | zero => exact absurd HA.out (by simp [codewrightlaw02_RationalLists.j1])
        | succ kj10 =>
         have H := HA.out
         clear HA
         simp only [codewrightlaw02_RationalLists.j1] at H
         by_cases cf : bh = true
         ·
          subst cf
          have H1 : (none) = some r := by rw [if_pos rfl] at H; exact H
          clear H
          have H := H1
          clear H1
          exact absurd H (by simp)
         ·
          replace cf := Bool.eq_false_iff.mpr cf
          subst cf
          have H1 : ((rational_Add.f kj10 aa).bind fun bj => ((rational_Add.f kj10 l0).bind fun bk => ((rational_Add.f kj10 l1).bind fun bl => ((codewrightref02_Add.f kj10 bk.1 bk.2.1 bk.2.2 bl.1 bl.2.1 bl.2.2).bind fun bm => ((codewrightlaw02_same.f kj10 bj.1 bj.2.1 bj.2.2 bm.1 bm.2.1 bm.2.2).bind fun bx => (if bx = true then ((rational_Mul.f kj10 aa).bind fun aQ => ((rational_Mul.f kj10 l0).bind fun aT => ((rational_Mul.f kj10 l1).bind fun aU => ((codewrightref02_Mul.f kj10 aT.1 aT.2.1 aT.2.2 aU.1 aU.2.1 aU.2.2).bind fun aV => ((codewrightlaw02_same.f kj10 aQ.1 aQ.2.1 aQ.2.2 aV.1 aV.2.1 aV.2.2).bind fun bg => (some bg)))))) else (none))))))) = some r := by rw [if_neg (show ¬ (false = true) by decide)] at H; exact H
          clear H
          have H := H1
          clear H1
          obtain ⟨⟨bz, bA, bB⟩, dZ, H⟩ := bs H
          (try dsimp -simprocs only at H)
          obtain ⟨⟨bC, bD, bE⟩, d0, H⟩ := bs H
          (try dsimp -simprocs only at H)
          obtain ⟨⟨bF, bG, bH⟩, d1, H⟩ := bs H
          (try dsimp -simprocs only at H)
          obtain ⟨⟨bI, bJ, bK⟩, d2, H⟩ := bs H
          (try dsimp -simprocs only at H)
          obtain ⟨bx, d3, H⟩ := bs H
          (try dsimp -simprocs only at H)
          by_cases cg : bx = true
          ·
           subst cg
           have H1 : ((rational_Mul.f kj10 aa).bind fun aQ => ((rational_Mul.f kj10 l0).bind fun aT => ((rational_Mul.f kj10 l1).bind fun aU => ((codewrightref02_Mul.f kj10 aT.1 aT.2.1 aT.2.2 aU.1 aU.2.1 aU.2.2).bind fun aV => ((codewrightlaw02_same.f kj10 aQ.1 aQ.2.1 aQ.2.2 aV.1 aV.2.1 aV.2.2).bind fun bg => (some bg)))))) = some r := by rw [if_pos rfl] at H; exact H
           clear H
           have H := H1
           clear H1
           obtain ⟨⟨bR, bS, bT⟩, d4, H⟩ := bs H
           (try dsimp -simprocs only at H)
           obtain ⟨⟨bU, bV, bW⟩, d5, H⟩ := bs H
           (try dsimp -simprocs only at H)
           obtain ⟨⟨bX, bY, bZ⟩, d6, H⟩ := bs H
           (try dsimp -simprocs only at H)
           obtain ⟨⟨b0, b1, b2⟩, d7, H⟩ := bs H
           (try dsimp -simprocs only at H)
           obtain ⟨bg, d8, H⟩ := bs H
           replace H : (some bg) = some r := H
           obtain rfl := Option.some.inj H
           obtain ⟨az, aA, cL⟩ := Kd.N_slice ap.out
           subst cL
           go_wp2_with (first | ((with_reducible refine gate_callee (f := 98) rfl ?_); refine goesL_ (some 34) rfl rfl Try.func98 (by kernel_rfl) rfl #[.slice az aa.length aA] rfl lu ?_; (with_reducible refine (rational_Add.calls kj10 (fun k_ => ((P0_ k_ ∨ P1_ k_) ∨ w.heap.size ≤ k_)) _ _ aa bz bA bB _ ?side1 dZ.out).mono ?_); (case side1 => exact Kd.N_V (ap.out)); rintro e eC ⟨dw, dx, rfl, aH, aI, hb⟩; refine ⟨_, rfl, ?_⟩; replace ac := kv ac hb; replace ad := kv ad hb; replace ap := kn ap hb; have ag := ar w.heap.size (ok' := fun k_ => ((P0_ k_ ∨ P1_ k_) ∨ w.heap.size ≤ k_)) aH (fz HB); have ah := ar w.heap.size (ok' := fun k_ => ((P0_ k_ ∨ P1_ k_) ∨ w.heap.size ≤ k_)) aI (fz HB); replace HB := be HB hb; (try clear hb); (try clear aH); (try clear aI)) | ((with_reducible refine gate_callee (f := 98) rfl ?_); refine goesL_ (some 36) rfl rfl Try.func98 (by kernel_rfl) rfl #[.slice A0 l0.length c0] rfl lu ?_; (with_reducible refine (rational_Add.calls kj10 (fun k_ => (((P0_ k_ ∨ P1_ k_) ∨ w.heap.size ≤ k_) ∧ some k_ ≠ (.slice az aa.length aA : Value).ownBlock)) _ _ l0 bC bD bE _ ?side1 d0.out).mono ?_); (case side1 => exact vz ac.out); rintro e eD ⟨dy, dz, rfl, aH, aI, hb⟩; refine ⟨_, rfl, ?_⟩; replace ac := kv ac hb; replace ad := kv ad hb; replace ag := kv ag hb; replace ah := kv ah hb; have ak := ar w.heap.size (ok' := fun k_ => ((P0_ k_ ∨ P1_ k_) ∨ w.heap.size ≤ k_) ∧ some k_ ≠ (.slice az aa.length aA : Value).ownBlock) aH (fa (fz HB) (fo ap)); have al := ar w.heap.size (ok' := fun k_ => ((P0_ k_ ∨ P1_ k_) ∨ w.heap.size ≤ k_) ∧ some k_ ≠ (.slice az aa.length aA : Value).ownBlock) aI (fa (fz HB) (fo ap)); replace ap := kn ap hb; replace HB := be HB hb; (try clear hb); (try clear aH); (try clear aI)) | ((with_reducible refine gate_callee (f := 98) rfl ?_); refine goesL_ (some 38) rfl rfl Try.func98 (by kernel_rfl) rfl #[.slice A1 l1.length c1] rfl lu ?_; (with_reducible refine (rational_Add.calls kj10 (fun k_ => (((P0_ k_ ∨ P1_ k_) ∨ w.heap.size ≤ k_) ∧ some k_ ≠ (.slice az aa.length aA : Value).ownBlock)) _ _ l1 bF bG bH _ ?side1 d1.out).mono ?_); (case side1 => exact vz ad.out); rintro e eE ⟨dA, dB, rfl, aH, aI, hb⟩; refine ⟨_, rfl, ?_⟩; replace ac := kv ac hb; replace ad := kv ad hb; replace ag := kv ag hb; replace ah := kv ah hb; replace ak := kv ak hb; replace al := kv al hb; have aq := ar w.heap.size (ok' := fun k_ => ((P0_ k_ ∨ P1_ k_) ∨ w.heap.size ≤ k_) ∧ some k_ ≠ (.slice az aa.length aA : Value).ownBlock) aH (fa (fz HB) (fo ap)); have au := ar w.heap.size (ok' := fun k_ => ((P0_ k_ ∨ P1_ k_) ∨ w.heap.size ≤ k_) ∧ some k_ ≠ (.slice az aa.length aA : Value).ownBlock) aI (fa (fz HB) (fo ap)); replace ap := kn ap hb; replace HB := be HB hb; (try clear hb); (try clear aH); (try clear aI); obtain ⟨cM, cN, cO⟩ := Kd.V_slice ak.out; subst cO; obtain ⟨cP, cQ, cR⟩ := Kd.V_slice al.out; subst cR; obtain ⟨cS, cT, cU⟩ := Kd.V_slice aq.out; subst cU; obtain ⟨cV, cW, cX⟩ := Kd.V_slice au.out; subst cX) | ((with_reducible refine gate_callee (f := 100) rfl ?_); refine goesL_ (some 39) rfl rfl Try.func100 (by kernel_rfl) rfl #[.agg #[.bool bC, .slice cM bD.length cN, .slice cP bE.length cQ], .agg #[.bool bF, .slice cS bG.length cT, .slice cV bH.length cW]] rfl lu ?_; (with_reducible refine (codewrightref02_Add.calls kj10 bC (fun k_ => (((P0_ k_ ∨ P1_ k_) ∨ w.heap.size ≤ k_) ∧ some k_ ≠ (.slice az aa.length aA : Value).ownBlock)) _ _ bD (fun k_ => (((P0_ k_ ∨ P1_ k_) ∨ w.heap.size ≤ k_) ∧ some k_ ≠ (.slice az aa.length aA : Value).ownBlock)) _ _ bE bF (fun k_ => (((P0_ k_ ∨ P1_ k_) ∨ w.heap.size ≤ k_) ∧ some k_ ≠ (.slice az aa.length aA : Value).ownBlock)) _ _ bG (fun k_ => (((P0_ k_ ∨ P1_ k_) ∨ w.heap.size ≤ k_) ∧ some k_ ≠ (.slice az aa.length aA : Value).ownBlock)) _ _ bH bI bJ bK _ ?side1 ?side2 ?side3 ?side4 d2.out).mono ?_); (case side1 => exact vz ak.out); (case side2 => exact vz al.out); (case side3 => exact vz aq.out); (case side4 => exact vz au.out); rintro e eF ⟨dC, dD, rfl, aH, aI, hb⟩; refine ⟨_, rfl, ?_⟩; replace ac := kv ac hb; replace ad := kv ad hb; replace ag := kv ag hb; replace ah := kv ah hb; replace ak := kv ak hb; replace al := kv al hb; replace aq := kv aq hb; replace au := kv au hb; have ax := ar w.heap.size (ok' := fun k_ => ((P0_ k_ ∨ P1_ k_) ∨ w.heap.size ≤ k_) ∧ some k_ ≠ (.slice az aa.length aA : Value).ownBlock) aH (fa (fz HB) (fo ap)); have ay := ar w.heap.size (ok' := fun k_ => ((P0_ k_ ∨ P1_ k_) ∨ w.heap.size ≤ k_) ∧ some k_ ≠ (.slice az aa.length aA : Value).ownBlock) aI (fa (fz HB) (fo ap)); replace ap := kn ap hb; replace HB := be HB hb; (try clear hb); (try clear aH); (try clear aI); obtain ⟨cY, cZ, c2⟩ := Kd.V_slice ag.out; subst c2; obtain ⟨c3, c4, c6⟩ := Kd.V_slice ah.out; subst c6; obtain ⟨da, db, dc⟩ := Kd.V_slice ax.out; subst dc; obtain ⟨dd, de, df⟩ := Kd.V_slice ay.out; subst df) | ((with_reducible refine gate_callee (f := 83) rfl ?_); refine goesL_ (some 40) rfl rfl Try.func83 (by kernel_rfl) rfl #[.agg #[.bool bz, .slice cY bA.length cZ, .slice c3 bB.length c4], .agg #[.bool bI, .slice da bJ.length db, .slice dd bK.length de]] rfl lu ?_; (with_reducible refine (codewrightlaw02_same.calls kj10 bz _ _ bA _ _ bB bI _ _ bJ _ _ bK true _ ?side1 ?side2 ?side3 ?side4 ?side5 ?side6 ?side7 ?side8 d3.out).mono ?_); (case side1 => exact cu (Kd.V_reads' ag.out).2.2); (case side2 => exact (Kd.V_reads' ag.out).2.1); (case side3 => exact cu (Kd.V_reads' ah.out).2.2); (case side4 => exact (Kd.V_reads' ah.out).2.1); (case side5 => exact cu (Kd.V_reads' ax.out).2.2); (case side6 => exact (Kd.V_reads' ax.out).2.1); (case side7 => exact cu (Kd.V_reads' ay.out).2.2); (case side8 => exact (Kd.V_reads' ay.out).2.1); rintro e eG ⟨rfl, hb⟩; refine ⟨_, rfl, ?_⟩; replace ac := kv ac hb; replace ad := kv ad hb; replace ap := kn ap hb; replace ag := kv ag hb; replace ah := kv ah hb; replace ak := kv ak hb; replace al := kv al hb; replace aq := kv aq hb; replace au := kv au hb; replace ax := kv ax hb; replace ay := kv ay hb; replace HB := be HB hb; (try clear hb)) | (go_at_call 95; (with_reducible refine (rational_Mul.calls kj10 (fun k_ => ((P0_ k_ ∨ P1_ k_) ∨ w.heap.size ≤ k_)) _ _ aa bR bS bT _ ?side1 d4.out).mono ?_); (case side1 => exact Kd.N_V (ap.out)); rintro e eH ⟨dE, dF, rfl, aH, aI, hb⟩; replace ac := kv ac hb; replace ad := kv ad hb; replace ap := kn ap hb; replace ag := kv ag hb; replace ah := kv ah hb; replace ak := kv ak hb; replace al := kv al hb; replace aq := kv aq hb; replace au := kv au hb; replace ax := kv ax hb; replace ay := kv ay hb; have aD := ar w.heap.size (ok' := fun k_ => ((P0_ k_ ∨ P1_ k_) ∨ w.heap.size ≤ k_)) aH (fz HB); have aE := ar w.heap.size (ok' := fun k_ => ((P0_ k_ ∨ P1_ k_) ∨ w.heap.size ≤ k_)) aI (fz HB); replace HB := be HB hb; (try clear hb); (try clear aH); (try clear aI)) | (go_at_call 95; (with_reducible refine (rational_Mul.calls kj10 (fun k_ => (((P0_ k_ ∨ P1_ k_) ∨ w.heap.size ≤ k_) ∧ some k_ ≠ (.slice az aa.length aA : Value).ownBlock)) _ _ l0 bU bV bW _ ?side1 d5.out).mono ?_); (case side1 => exact vz ac.out); rintro e eI ⟨dG, dH, rfl, aH, aI, hb⟩; replace ac := kv ac hb; replace ad := kv ad hb; replace ag := kv ag hb; replace ah := kv ah hb; replace ak := kv ak hb; replace al := kv al hb; replace aq := kv aq hb; replace au := kv au hb; replace ax := kv ax hb; replace ay := kv ay hb; replace aD := kv aD hb; replace aE := kv aE hb; have aK := ar w.heap.size (ok' := fun k_ => ((P0_ k_ ∨ P1_ k_) ∨ w.heap.size ≤ k_) ∧ some k_ ≠ (.slice az aa.length aA : Value).ownBlock) aH (fa (fz HB) (fo ap)); have aM := ar w.heap.size (ok' := fun k_ => ((P0_ k_ ∨ P1_ k_) ∨ w.heap.size ≤ k_) ∧ some k_ ≠ (.slice az aa.length aA : Value).ownBlock) aI (fa (fz HB) (fo ap)); replace ap := kn ap hb; replace HB := be HB hb; (try clear hb); (try clear aH); (try clear aI)) | (go_at_call 95; (with_reducible refine (rational_Mul.calls kj10 (fun k_ => (((P0_ k_ ∨ P1_ k_) ∨ w.heap.size ≤ k_) ∧ some k_ ≠ (.slice az aa.length aA : Value).ownBlock)) _ _ l1 bX bY bZ _ ?side1 d6.out).mono ?_); (case side1 => exact vz ad.out); rintro e eJ ⟨dI, dJ, rfl, aH, aI, hb⟩; replace ac := kv ac hb; replace ad := kv ad hb; replace ag := kv ag hb; replace ah := kv ah hb; replace ak := kv ak hb; replace al := kv al hb; replace aq := kv aq hb; replace au := kv au hb; replace ax := kv ax hb; replace ay := kv ay hb; replace aD := kv aD hb; replace aE := kv aE hb; replace aK := kv aK hb; replace aM := kv aM hb; have aX := ar w.heap.size (ok' := fun k_ => ((P0_ k_ ∨ P1_ k_) ∨ w.heap.size ≤ k_) ∧ some k_ ≠ (.slice az aa.length aA : Value).ownBlock) aH (fa (fz HB) (fo ap)); have aY := ar w.heap.size (ok' := fun k_ => ((P0_ k_ ∨ P1_ k_) ∨ w.heap.size ≤ k_) ∧ some k_ ≠ (.slice az aa.length aA : Value).ownBlock) aI (fa (fz HB) (fo ap)); replace ap := kn ap hb; replace HB := be HB hb; (try clear hb); (try clear aH); (try clear aI); obtain ⟨d9, ea, dg⟩ := Kd.V_slice aK.out; subst dg; obtain ⟨eb, ec, dh⟩ := Kd.V_slice aM.out; subst dh; obtain ⟨ed, ee, di⟩ := Kd.V_slice aX.out; subst di; obtain ⟨ef, eg, dj⟩ := Kd.V_slice aY.out; subst dj) | (go_at_call 101; (with_reducible refine (codewrightref02_Mul.calls kj10 bU (fun k_ => (((P0_ k_ ∨ P1_ k_) ∨ w.heap.size ≤ k_) ∧ some k_ ≠ (.slice az aa.length aA : Value).ownBlock)) _ _ bV (fun k_ => (((P0_ k_ ∨ P1_ k_) ∨ w.heap.size ≤ k_) ∧ some k_ ≠ (.slice az aa.length aA : Value).ownBlock)) _ _ bW bX (fun k_ => (((P0_ k_ ∨ P1_ k_) ∨ w.heap.size ≤ k_) ∧ some k_ ≠ (.slice az aa.length aA : Value).ownBlock)) _ _ bY (fun k_ => (((P0_ k_ ∨ P1_ k_) ∨ w.heap.size ≤ k_) ∧ some k_ ≠ (.slice az aa.length aA : Value).ownBlock)) _ _ bZ b0 b1 b2 _ ?side1 ?side2 ?side3 ?side4 d7.out).mono ?_); (case side1 => exact vz aK.out); (case side2 => exact vz aM.out); (case side3 => exact vz aX.out); (case side4 => exact vz aY.out); rintro e eK ⟨dK, dL, rfl, aH, aI, hb⟩; replace ac := kv ac hb; replace ad := kv ad hb; replace ag := kv ag hb; replace ah := kv ah hb; replace ak := kv ak hb; replace al := kv al hb; replace aq := kv aq hb; replace au := kv au hb; replace ax := kv ax hb; replace ay := kv ay hb; replace aD := kv aD hb; replace aE := kv aE hb; replace aK := kv aK hb; replace aM := kv aM hb; replace aX := kv aX hb; replace aY := kv aY hb; have a5 := ar w.heap.size (ok' := fun k_ => ((P0_ k_ ∨ P1_ k_) ∨ w.heap.size ≤ k_) ∧ some k_ ≠ (.slice az aa.length aA : Value).ownBlock) aH (fa (fz HB) (fo ap)); have a6 := ar w.heap.size (ok' := fun k_ => ((P0_ k_ ∨ P1_ k_) ∨ w.heap.size ≤ k_) ∧ some k_ ≠ (.slice az aa.length aA : Value).ownBlock) aI (fa (fz HB) (fo ap)); replace ap := kn ap hb; replace HB := be HB hb; (try clear hb); (try clear aH); (try clear aI); obtain ⟨eh, ei, dk⟩ := Kd.V_slice aD.out; subst dk; obtain ⟨ej, ek, dl⟩ := Kd.V_slice aE.out; subst dl; obtain ⟨em, en, dm⟩ := Kd.V_slice a5.out; subst dm; obtain ⟨eo, ep, dn⟩ := Kd.V_slice a6.out; subst dn) | (go_at_call 83; (with_reducible refine (codewrightlaw02_same.calls kj10 bR _ _ bS _ _ bT b0 _ _ b1 _ _ b2 bg _ ?side1 ?side2 ?side3 ?side4 ?side5 ?side6 ?side7 ?side8 d8.out).mono ?_); (case side1 => exact cu (Kd.V_reads' aD.out).2.2); (case side2 => exact (Kd.V_reads' aD.out).2.1); (case side3 => exact cu (Kd.V_reads' aE.out).2.2); (case side4 => exact (Kd.V_reads' aE.out).2.1); (case side5 => exact cu (Kd.V_reads' a5.out).2.2); (case side6 => exact (Kd.V_reads' a5.out).2.1); (case side7 => exact cu (Kd.V_reads' a6.out).2.2); (case side8 => exact (Kd.V_reads' a6.out).2.1); rintro e eL ⟨rfl, hb⟩; replace ac := kv ac hb; replace ad := kv ad hb; replace ap := kn ap hb; replace ag := kv ag hb; replace ah := kv ah hb; replace ak := kv ak hb; replace al := kv al hb; replace aq := kv aq hb; replace au := kv au hb; replace ax := kv ax hb; replace ay := kv ay hb; replace aD := kv aD hb; replace aE := kv aE hb; replace aK := kv aK hb; replace aM := kv aM hb; replace aX := kv aX hb; replace aY := kv aY hb; replace a5 := kv a5 hb; replace a6 := kv a6 hb; replace HB := be HB hb; (try clear hb)))
           go_ret
           exact ⟨by first | rfl | (simp [errW_none, errW_some] <;> rfl) | (simp [*, errW_none, errW_some] <;> rfl), by repeat (first | (with_reducible first | exact HB.out | apply below_alloc | apply pw_below_drewN | apply below_drew1) | exact HB.out)⟩
          ·
           replace cg := Bool.eq_false_iff.mpr cg
           subst cg
           have H1 : (none) = some r := by rw [if_neg (show ¬ (false = true) by decide)] at H; exact H
           clear H
           have H := H1
           clear H1
           exact absurd H (by simp)
      ·
       rw [if_neg b8] at H
       exact absurd H (by simp)
     ·
      rw [if_neg c9] at H
      exact absurd H (by simp)
end Go.Proofs.Ytecfdemglbfnoaa.PT
end
section
namespace Go.Proofs.Ytecfdemglbfnoaa.Num
open Go.RowKit Go.Proofs.Ytecfdemglbfnoaa.PT Go.Proofs.YtecfdemglbfnoaaW.PrintWords
def rep (q : Rat) : Bool × List Int × List Int := (decide (q.num < 0), lb q.num.natAbs, lb q.den)
def sg (neg : Bool) (n : Nat) : Int := if neg then -(n : Int) else (n : Int)
def rv (neg : Bool) (n d : List Int) : Rat := mkRat (sg neg (valn n)) (valn d)
def Sz (m : Nat) (q : Rat) : Prop := q.num.natAbs < pw m ∧ q.den < pw m
theorem sg_abs (neg : Bool) (n : Nat) : (sg neg n).natAbs = n := by cases neg <;> simp [sg]
theorem sg_self (z : Int) : sg (decide (z < 0)) z.natAbs = z := by
  by_cases h : z < 0
  · rw [decide_eq_true h]; simp only [sg, if_true]; omega
  · rw [decide_eq_false h]; simp only [sg, Bool.false_eq_true, if_false]; omega
theorem sg_zero (neg : Bool) : sg neg 0 = 0 := by cases neg <;> rfl
theorem sg_add (neg : Bool) (m n : Nat) : sg neg (m + n) = sg neg m + sg neg n := by cases neg <;> simp [sg] <;> omega
theorem sg_sub (neg : Bool) {m n : Nat} (h : n ≤ m) : sg neg (m - n) = sg neg m + sg (!neg) n := by cases neg <;> simp [sg] <;> omega
theorem sg_mul (a b : Bool) (m n : Nat) : sg (a != b) (m * n) = sg a m * sg b n := by cases a <;> cases b <;> simp [sg, Int.neg_mul, Int.mul_neg]
theorem sg_mulN (a : Bool) (m n : Nat) : sg a (m * n) = sg a m * (n : Int) := by cases a <;> simp [sg, Int.neg_mul]
theorem sg_div (neg : Bool) {m g : Nat} (h : g ∣ m) : sg neg m / (g : Int) = sg neg (m / g) := by
  cases neg
  · simp [sg]
  · simp only [sg, if_true]
    rw [Int.neg_ediv_of_dvd (Int.ofNat_dvd.mpr h)]; rfl
theorem rv_zero_num (neg : Bool) {n d : List Int} (h : valn n = 0) : rv neg n d = 0 := by rw [rv, h, sg_zero]; exact Rat.zero_mkRat _
theorem rv_zero_den (neg : Bool) {n d : List Int} (h : valn d = 0) : rv neg n d = 0 := by rw [rv, h]; exact Rat.mkRat_zero _
theorem rv_rep (q : Rat) : rv (rep q).1 (rep q).2.1 (rep q).2.2 = q := by
  simp only [rep, rv, valn_lb, sg_self]; exact Rat.mkRat_self q
theorem rep_zero : rep 0 = (false, [], [1]) := by
  simp only [rep, Rat.zero_num, Rat.zero_den]
  rw [show lb (0 : Int).natAbs = [] from lb_zero, show lb 1 = [1] from by rw [lb_pos (by decide), show (1 : Nat) / 4294967296 = 0 from rfl, lb_zero]; rfl]
  rfl
theorem rep_inj {p q : Rat} (h : rep p = rep q) : p = q := by rw [← rv_rep p, ← rv_rep q, h]
theorem rep_mkRat (neg : Bool) {n d : Nat} (hn : n ≠ 0) (hd : d ≠ 0) : rep (mkRat (sg neg n) d) = (neg, lb (n / n.gcd d), lb (d / n.gcd d)) := by
  have hg : d.gcd n = n.gcd d := Nat.gcd_comm d n
  have hdv : n.gcd d ∣ n := Nat.gcd_dvd_left n d
  have hq : n / n.gcd d ≠ 0 := Nat.ne_of_gt (Nat.div_pos (Nat.le_of_dvd (Nat.pos_of_ne_zero hn) hdv) (Nat.gcd_pos_of_pos_left _ (Nat.pos_of_ne_zero hn)))
  have hnum : (mkRat (sg neg n) d).num = sg neg (n / n.gcd d) := by
    rw [Rat.num_mkRat, if_neg hd, sg_abs, hg, sg_div neg hdv]
  have hden : (mkRat (sg neg n) d).den = d / n.gcd d := by
    rw [Rat.den_mkRat, if_neg hd, sg_abs, hg]
  have hs : decide (sg neg (n / n.gcd d) < 0) = neg := by
    generalize n / n.gcd d = x at hq
    cases neg
    · exact decide_eq_false (by simp [sg])
    · exact decide_eq_true (by simp only [sg, if_true]; omega)
  simp only [rep, hnum, hden, sg_abs, hs]
theorem mkRat_sz {neg : Bool} {n d m : Nat} (hn : n < pw m) (hd : d < pw m) (hm : 1 ≤ m) : Sz m (mkRat (sg neg n) d) := by
  have h1 : 1 < pw m := Nat.lt_of_lt_of_le (by rw [pw_succ, pw_zero]; decide) (pw_mono hm)
  refine ⟨?_, ?_⟩
  · rw [Rat.num_mkRat]
    split
    · exact pw_pos m
    · rw [sg_abs, sg_div neg (Nat.gcd_dvd_right d n), sg_abs]; exact Nat.lt_of_le_of_lt (Nat.div_le_self _ _) hn
  · rw [Rat.den_mkRat]
    split
    · exact h1
    · exact Nat.lt_of_le_of_lt (Nat.div_le_self _ _) hd
theorem Sz_rv {neg : Bool} {n d : List Int} {m : Nat} (hn : U n) (hd : U d) (ln : n.length ≤ m) (ld : d.length ≤ m) (hm : 1 ≤ m) : Sz m (rv neg n d) :=
  mkRat_sz (Nat.lt_of_lt_of_le (valn_lt hn) (pw_mono ln)) (Nat.lt_of_lt_of_le (valn_lt hd) (pw_mono ld)) hm
theorem Sz_mono {m n : Nat} {q : Rat} (h : Sz m q) (hm : m ≤ n) : Sz n q := ⟨Nat.lt_of_lt_of_le h.1 (pw_mono hm), Nat.lt_of_lt_of_le h.2 (pw_mono hm)⟩
theorem mul_pw' {x y m n : Nat} (h1 : x < pw m) (h2 : y < pw n) : x * y < pw (m + n) := by rw [pw_add]; exact Nat.mul_lt_mul'' h1 h2
theorem add_parts (p q : Rat) : p + q = mkRat (sg (decide (p.num < 0)) (p.num.natAbs * q.den) + sg (decide (q.num < 0)) (q.num.natAbs * p.den)) (p.den * q.den) := by
  rw [Rat.add_def', sg_mulN, sg_mulN, sg_self, sg_self]
theorem mul_parts (p q : Rat) : p * q = mkRat (sg (decide (p.num < 0) != decide (q.num < 0)) (p.num.natAbs * q.num.natAbs)) (p.den * q.den) := by
  rw [Rat.mul_def', sg_mul, sg_self, sg_self]
theorem Sz_mul {m n : Nat} {p q : Rat} (hp : Sz m p) (hq : Sz n q) (hm : 1 ≤ m) : Sz (m + n) (p * q) := by
  rw [mul_parts]; exact mkRat_sz (mul_pw' hp.1 hq.1) (mul_pw' hp.2 hq.2) (by omega)
theorem Sz_add {m n : Nat} {p q : Rat} (hp : Sz m p) (hq : Sz n q) (hm : 1 ≤ m) : Sz (m + n + 1) (p + q) := by
  have hx := mul_pw' hp.1 hq.2
  have hy := mul_pw' hq.1 hp.2
  have hd := mul_pw' hp.2 hq.2
  rw [Nat.add_comm n m] at hy
  have hP := pw_succ (m + n)
  have e : p + q = mkRat (sg (decide (p.num * q.den + q.num * p.den < 0)) (p.num * q.den + q.num * p.den).natAbs) (p.den * q.den) := by rw [sg_self]; exact Rat.add_def' p q
  have h1 : (p.num * (q.den : Int)).natAbs = p.num.natAbs * q.den := Int.natAbs_mul ..
  have h2 : (q.num * (p.den : Int)).natAbs = q.num.natAbs * p.den := Int.natAbs_mul ..
  rw [e]
  refine mkRat_sz ?_ ?_ (by omega)
  · have := Int.natAbs_add_le (p.num * (q.den : Int)) (q.num * (p.den : Int))
    rw [h1, h2] at this
    generalize (p.num * (q.den : Int) + q.num * (p.den : Int)).natAbs = z at this ⊢
    generalize p.num.natAbs * q.den = x at *
    generalize q.num.natAbs * p.den = y at *
    omega
  · generalize p.den * q.den = x at *
    omega
theorem Sz_zero {m : Nat} (hm : 1 ≤ m) : Sz m 0 := by
  have h1 : 1 < pw m := Nat.lt_of_lt_of_le (by rw [pw_succ, pw_zero]; decide) (pw_mono hm)
  exact ⟨pw_pos m, h1⟩
end Go.Proofs.Ytecfdemglbfnoaa.Num
end
section
namespace Go.Proofs.Ytecfdemglbfnoaa.Num
open Go.RowKit Go.Proofs.Ytecfdemglbfnoaa.PT Go.Proofs.YtecfdemglbfnoaaW.PrintWords Go.Proofs.YtecfdemglbfnoaaW.PrintLast Go.Proofs.YtecfdemglbfnoaaW.PrintMore
theorem Ev_pos {α : Type} {c : Prop} [Decidable c] {f g : Nat → Option α} {r : α} (h : c) (k : Ev f r) : Ev (fun n => if c then f n else g n) r := Ev.congr (fun _ => if_pos h) k
theorem Ev_neg {α : Type} {c : Prop} [Decidable c] {f g : Nat → Option α} {r : α} (h : ¬ c) (k : Ev g r) : Ev (fun n => if c then f n else g n) r := Ev.congr (fun _ => if_neg h) k
theorem two_pw (n : Nat) : pw n = 2 ^ (32 * n) := by rw [pw_eq, Nat.pow_mul]
theorem sz_lb {v M : Nat} (hl : (lb v).length = M + 1) {t : Nat} (et : rd (lb v) (M : Int) = (t : Int)) (h0 : v ≠ 0) : sz v = 32 * M + sz t := by
  have h1 := top_val hl et
  rw [valn_lb] at h1
  have h2 := take_lt' (U_lb v) M
  have ht : t ≠ 0 := by
    intro h
    have h3 := rd_lb_last h0
    rw [hl, Nat.add_sub_cancel, et, h] at h3
    exact h3 rfl
  have e : v / 2 ^ (32 * M) = t := by
    rw [← two_pw, h1, Nat.add_mul_div_left _ _ (pw_pos M), Nat.div_eq_of_lt h2, Nat.zero_add]
  rw [sz_div (n := v) (k := 32 * M) (by rw [e]; exact ht), e]
theorem Bits_f {l : List Int} (ul : U l) (hl : l.length ≤ 100000000) : Ev (fun k => nat_Bits.f k l) ((sz (valn l) : Nat) : Int) := by
  have hs := short_f ul (by omega)
  have hL := lb_len ul
  generalize valn l = v at *
  by_cases h0 : v = 0
  · subst h0
    rw [lb_zero] at hs
    exact Ev.bind hs (Ev.now _)
  · obtain ⟨M, hM⟩ : ∃ M, (lb v).length = M + 1 := ⟨(lb v).length - 1, by
      have : (lb v).length ≠ 0 := fun h => h0 (lb_eq_nil.mp (List.length_eq_zero_iff.mp h))
      omega⟩
    obtain ⟨t, et, ht⟩ := rd_nat (U_lb v) (M : Int)
    have hz := sz_lb hM et h0
    have ht32 : sz t ≤ 32 := sz_le (b := 32) ht
    have c : ¬ (((M + 1 : Nat) : Int) = 0) ∧ (0 : Int) ≤ (M : Int) ∧ (M : Int) < ((M + 1 : Nat) : Int) ∧ M < 9223372036854775807 ∧ (32 : Int) * (M : Int) = ((32 * M : Nat) : Int) := by omega
    have ws : wrap64 (((M + 1 : Nat) : Int) - 1) = (M : Int) ∧ wrap64 ((32 * M : Nat) : Int) = ((32 * M : Nat) : Int) ∧ wrap64 (((32 * M : Nat) : Int) + ((sz t : Nat) : Int)) = ((32 * M + sz t : Nat) : Int) := ⟨dn M c.2.2.2.1, w64 (by omega) (by omega), by rw [w64 (by omega) (by omega)]; rfl⟩
    refine Ev.bind hs (Ev.congr (f := fun _ => some ((sz v : Nat) : Int)) (fun k => ?_) (Ev.now _))
    rw [hM, if_neg c.1, ws.1, if_pos c.2.1, if_pos c.2.2.1, et, Len32_f t ht, Option.bind_some, c.2.2.2.2, ws.2.1, ws.2.2, hz]
theorem mod32 (r : Nat) : r * 4294967296 % 2 ^ 32 = 0 := by rw [show (2 : Nat) ^ 32 = 4294967296 from rfl]; exact Nat.mul_mod_left ..
theorem or_rx {r x : Nat} (hr : r < 4294967296) (hx : x < 4294967296) : Go.bits .or .u64 (IntKind.u64.wrap ((r : Int) * 4294967296)) (IntKind.u64.wrap (x : Int)) = ((r * 4294967296 + x : Nat) : Int) := by
  have e : (r : Int) * 4294967296 = ((r * 4294967296 : Nat) : Int) := by simp
  rw [e, u64 (x := ((r * 4294967296 : Nat) : Int)) (by omega) (by omega), u64 (x := (x : Int)) (by omega) (by omega), or64 32 _ _ (mod32 r) (by omega) hx (by omega)]
theorem digit_l0 {a : List Int} (ua : U a) {b : Nat} (hb : 0 < b) (hb' : b < 4294967296) (hs : a.length ≤ 100000000) : ∀ (j : Nat) (out : List Int) (r : Nat), j ≤ a.length → out.length = a.length → U out → r = valn (a.drop j) % b → valn (out.drop j) = valn (a.drop j) / b →
    Ev (fun k => nat_digit.l0 k a (b : Int) out (r : Int) ((j : Int) - 1)) (lb (valn a / b), ((valn a % b : Nat) : Int)) := by
  intro j
  induction j with
  | zero =>
    intro out r _ hout uo hr hv
    rw [List.drop_zero] at hr hv
    rw [List.drop_zero] at hv
    have hsh := short_f uo (by omega)
    rw [hv] at hsh
    refine Ev_succ ?_
    refine Ev.congr (fun k => ?_) (Ev.bind (f := fun _ x => some (x, ((valn a % b : Nat) : Int))) hsh (Ev.now _))
    simp only [nat_digit.l0]
    have hrb : r < b := by rw [hr]; exact Nat.mod_lt _ hb
    have e : (r : Int) % 4294967296 = (r : Int) := by omega
    rw [if_neg (by omega), e, hr]
  | succ j ih =>
    intro out r hj hout uo hr hv
    obtain ⟨x, ex, hx⟩ := rd_nat ua (j : Int)
    have hrb : r < b := by rw [hr]; exact Nat.mod_lt _ hb
    have hd := valn_drop_rd a j
    rw [ex, Int.toNat_natCast] at hd
    have key : valn (a.drop j) = (r * 4294967296 + x) + b * (4294967296 * (valn (a.drop (j + 1)) / b)) := by
      have h1 := Nat.div_add_mod (valn (a.drop (j + 1))) b
      rw [← hr] at h1
      have h2 : b * (4294967296 * (valn (a.drop (j + 1)) / b)) = 4294967296 * (b * (valn (a.drop (j + 1)) / b)) := by ac_rfl
      rw [hd, h2]
      generalize b * (valn (a.drop (j + 1)) / b) = y at *
      omega
    have hrx : r * 4294967296 + x < b * 4294967296 := by
      have : (r + 1) * 4294967296 ≤ b * 4294967296 := Nat.mul_le_mul_right _ hrb
      omega
    have hq : (r * 4294967296 + x) / b < 4294967296 := (Nat.div_lt_iff_lt_mul hb).mpr (by rw [Nat.mul_comm 4294967296 b]; exact hrx)
    have k1 : valn (a.drop j) % b = (r * 4294967296 + x) % b := by rw [key, Nat.add_mul_mod_self_left]
    have k2 : valn (a.drop j) / b = (r * 4294967296 + x) / b + 4294967296 * (valn (a.drop (j + 1)) / b) := by rw [key, Nat.add_mul_div_left _ _ hb]
    obtain ⟨D, hD⟩ : ∃ D, (r * 4294967296 + x) / b = D := ⟨_, rfl⟩
    rw [hD] at hq k2
    have step := ih (out.set j (D : Int)) ((r * 4294967296 + x) % b) (by omega) (by rw [List.length_set]; exact hout) (U_set uo ⟨Int.natCast_nonneg _, by omega⟩ _) k1.symm (by
      rw [valn_drop_rd, rd_set_eq _ _ _ (by omega), Int.toNat_natCast, List.drop_set_of_lt (by omega), hv, k2])
    have rx64 : r * 4294967296 + x < 18446744073709551616 := by omega
    have et : Go.bits .or .u64 (IntKind.u64.wrap ((r : Int) * 4294967296)) (IntKind.u64.wrap (rd a (j : Int))) = ((r * 4294967296 + x : Nat) : Int) := by rw [ex]; exact or_rx (Nat.lt_trans hrb hb') hx
    have eb : IntKind.u64.wrap (b : Int) = (b : Int) := u64 (by omega) (by omega)
    have eD : IntKind.u64.wrap ((D : Nat) : Int) % 4294967296 = (D : Int) := by rw [u64 (by omega) (by omega)]; omega
    have ej : ((j + 1 : Nat) : Int) - 1 = (j : Int) := by omega
    have c : (j : Int) ≥ 0 ∧ (0 : Int) ≤ (j : Int) ∧ (j : Int) < (a.length : Int) ∧ ¬ ((b : Int) = 0) ∧ (j : Int) < (out.length : Int) := by omega
    have wj : wrap64 ((j : Int) - 1) = (j : Int) - 1 := w64 (by omega) (by omega)
    refine Ev_succ (Ev.congr (fun k => ?_) step)
    rw [nat_digit.l0, ej, if_pos c.1, if_pos c.2.1, if_pos c.2.2.1, eb, if_neg c.2.2.2.1, if_pos c.2.2.2.2, et, tdiv_cast, tmod_cast, hD, eD, wj, Int.toNat_natCast]
theorem digit_f {a : List Int} (ua : U a) {b : Nat} (hb : 0 < b) (hb' : b < 4294967296) (hs : a.length ≤ 100000000) : Ev (fun k => nat_digit.f k a (b : Int)) (lb (valn a / b), ((valn a % b : Nat) : Int)) := by
  have h := digit_l0 ua hb hb' hs a.length (List.replicate a.length 0) 0 (Nat.le_refl _) (by simp) (U_replicate _) (by rw [List.drop_eq_nil_of_le (Nat.le_refl _), valn_nil, Nat.zero_mod]) (by
    rw [show (List.replicate a.length (0 : Int)).drop a.length = [] from List.drop_eq_nil_of_le (by rw [List.length_replicate]; exact Nat.le_refl _), List.drop_eq_nil_of_le (Nat.le_refl _), valn_nil, Nat.zero_div])
  refine Ev.congr (fun k => ?_) h
  have c : (0 : Int) ≤ (a.length : Int) ∧ a.length ≤ 70368744177664 := by omega
  have wj : wrap64 ((a.length : Int) - 1) = (a.length : Int) - 1 := w64 (by omega) (by omega)
  unfold nat_digit.f
  rw [if_pos c.1, Int.toNat_natCast, if_pos c.2, wj]; rfl
theorem DivMod_f {a b : List Int} (ua : U a) (ub : U b) (la : a.length ≤ 1000000) (lb' : b.length ≤ 1000000) (h0 : valn b ≠ 0) :
    Ev (fun k => nat_DivMod.f k a b) (lb (valn a / valn b), lb (valn a % valn b), 0) := by
  have hsa := short_f ua (by omega)
  have hsb := short_f ub (by omega)
  have ha := lb_len ua
  have hb := lb_len ub
  generalize valn a = m at *
  generalize valn b = n at *
  have hn : (lb n).length ≠ 0 := fun h => h0 (lb_eq_nil.mp (List.length_eq_zero_iff.mp h))
  have hc := Cmp_f (U_lb m) (U_lb n) (by omega) (by omega)
  rw [valn_lb, valn_lb] at hc
  refine Ev.bind hsa (Ev.bind hsb ?_)
  have c0 : ¬ (((lb n).length : Int) = 0) := by omega
  by_cases hlt : m < n
  · have h1 : cmpn m n = -1 := by unfold cmpn; rw [if_pos hlt]
    rw [h1] at hc
    have ht := Trim_f (U_lb m) (by omega)
    rw [valn_lb] at ht
    refine Ev_neg c0 (Ev.bind hc (Ev_pos (by decide) (Ev.bind ht ?_)))
    rw [Nat.div_eq_of_lt hlt, Nat.mod_eq_of_lt hlt, lb_zero]; exact Ev.now _
  · have h1 : ¬ cmpn m n < 0 := by unfold cmpn; rw [if_neg hlt]; split <;> omega
    refine Ev_neg c0 (Ev.bind hc (Ev_neg h1 ?_))
    by_cases h2 : (lb n).length = 1
    · obtain ⟨t, et, ht⟩ := rd_nat (U_lb n) ((0 : Nat) : Int)
      have en : n = t := by
        have h3 := top_val (M := 0) h2 et
        rw [valn_lb, List.take_zero, valn_nil, pw_zero] at h3; omega
      have hd := digit_f (U_lb m) (b := t) (by omega) ht (by omega)
      rw [valn_lb, ← en] at hd
      have c2 : ((lb n).length : Int) = 1 ∧ (0 : Int) < ((lb n).length : Int) := by omega
      have et' : rd (lb n) 0 = (n : Int) := by rw [en]; rw [en] at et; exact et
      have hr : m % n < n := Nat.mod_lt _ (Nat.pos_of_ne_zero h0)
      have eo : IntKind.u64.wrap ((m % n : Nat) : Int) = ((m % n : Nat) : Int) := u64 (Int.natCast_nonneg _) (by omega)
      have ho := Of_f (m % n) (by omega)
      refine Ev_pos c2.1 (Ev_pos c2.2 ?_)
      rw [et']
      refine Ev.bind hd ?_
      rw [eo]
      exact Ev.bind ho (Ev.now _)
    · have c2 : ¬ ((lb n).length : Int) = 1 := by omega
      have hle : (lb n).length ≤ (lb m).length := by
        by_cases c : (lb n).length ≤ (lb m).length
        · exact c
        · exact absurd (len_lt_of_lt (by omega)) hlt
      have hl : nat_long.f (lb m) (lb n) = some (padn ((lb m).length + 1 - (lb n).length) (m / n), padn (lb n).length (m % n)) := by
        unfold nat_long.f
        rw [if_pos ⟨by omega, hle, by rw [← rd_getLastD]; exact rd_lb_last h0, U_lb m, U_lb n, by omega⟩, valn_lb, valn_lb]
      have hm := lt_pow_len m
      have hnl := lt_pow_len n
      have hq : m / n < pw ((lb m).length + 1 - (lb n).length) := by
        have h3 := pow_len_le h0
        have h4 : (lb m).length = ((lb n).length - 1) + ((lb m).length + 1 - (lb n).length) := by omega
        rw [h4, pw_add] at hm
        refine (Nat.div_lt_iff_lt_mul (Nat.pos_of_ne_zero h0)).mpr (Nat.lt_of_lt_of_le hm ?_)
        rw [Nat.mul_comm]; exact Nat.mul_le_mul_left _ h3
      have hr : m % n < pw (lb n).length := Nat.lt_trans (Nat.mod_lt _ (Nat.pos_of_ne_zero h0)) hnl
      have t1 := Trim_f (U_padn ((lb m).length + 1 - (lb n).length) (m / n)) (by rw [padn_len]; omega)
      have t2 := Trim_f (U_padn (lb n).length (m % n)) (by rw [padn_len]; omega)
      rw [valn_padn_lt hq] at t1
      rw [valn_padn_lt hr] at t2
      refine Ev_neg c2 ?_
      rw [hl]
      exact Ev.bind (Ev.now _) (Ev.bind t1 (Ev.bind t2 (Ev.now _)))
theorem Gcd_l0 : ∀ (n m : Nat), (lb m).length ≤ 1000000 → (lb n).length ≤ 1000000 → Ev (fun k => nat_Gcd.l0 k (lb m) (lb n)) (lb (Nat.gcd m n)) := by
  intro n
  induction n using Nat.strongRecOn with
  | _ n ih =>
    intro m hm hn
    refine Ev_succ ?_
    simp only [nat_Gcd.l0]
    by_cases h0 : n = 0
    · subst h0
      have ht := Trim_f (U_lb m) (by omega)
      rw [valn_lb] at ht
      have c : ¬ (((lb 0).length : Int) > 0) := by rw [lb_zero]; decide
      rw [Nat.gcd_zero_right]
      exact Ev_neg c (Ev.bind ht (Ev.now _))
    · have hl : (lb n).length ≠ 0 := fun h => h0 (lb_eq_nil.mp (List.length_eq_zero_iff.mp h))
      have c : ((lb n).length : Int) > 0 := by omega
      have hd := DivMod_f (U_lb m) (U_lb n) hm hn (by rw [valn_lb]; exact h0)
      rw [valn_lb, valn_lb] at hd
      have hr : m % n < n := Nat.mod_lt _ (Nat.pos_of_ne_zero h0)
      have hlr : (lb (m % n)).length ≤ 1000000 := Nat.le_trans (lb_len_le (Nat.lt_trans hr (lt_pow_len n))) hn
      refine Ev_pos c (Ev.bind hd ?_)
      rw [Nat.gcd_comm, Nat.gcd_rec, Nat.gcd_comm]
      exact ih (m % n) hr n hn hlr
theorem Gcd_f {a b : List Int} (ua : U a) (ub : U b) (la : a.length ≤ 1000000) (lb' : b.length ≤ 1000000) : Ev (fun k => nat_Gcd.f k a b) (lb (Nat.gcd (valn a) (valn b))) :=
  Ev.bind (short_f ua (by omega)) (Ev.bind (short_f ub (by omega)) (Gcd_l0 _ _ (Nat.le_trans (lb_len ua) la) (Nat.le_trans (lb_len ub) lb')))
end Go.Proofs.Ytecfdemglbfnoaa.Num
end
section
namespace Go.Proofs.Ytecfdemglbfnoaa.Num
open Go.RowKit Go.Proofs.Ytecfdemglbfnoaa.PT Go.Proofs.YtecfdemglbfnoaaW.PrintWords Go.Proofs.YtecfdemglbfnoaaW.PrintLast Go.Proofs.YtecfdemglbfnoaaW.PrintMore
theorem Ev_as {α : Type} {g : Nat → Option α} {a b : α} (h : Ev g a) (e : a = b) : Ev g b := e ▸ h
theorem lb_len_zero {n : Nat} : (lb n).length = 0 ↔ n = 0 := by rw [List.length_eq_zero_iff, lb_eq_nil]
theorem rZero_f {l : List Int} (ul : U l) (hl : l.length < 35184372088832) : Ev (fun k => codewrightref01_Zero.f k l) (decide (valn l = 0)) := by
  refine Ev.bind (rTrim_f ul hl) (Ev_as (Ev.now _) ?_)
  by_cases h : valn l = 0
  · rw [h, lb_zero]; rfl
  · rw [decide_eq_false h]
    have := mt lb_len_zero.mp h
    exact beq_eq_false_iff_ne.mpr (by omega)
theorem snoc_val (z : List Int) (d : Int) : valn (z ++ [d]) = valn z + pw z.length * d.toNat := by
  rw [valn_append, valn_cons, valn_nil]; simp
theorem U_snoc {z : List Int} (uz : U z) {d : Int} (h : 0 ≤ d ∧ d < 4294967296) : U (z ++ [d]) := U_append uz (U_cons h U_nil)
theorem sub_num {x y c : Nat} (hx : x < 4294967296) (hy : y < 4294967296) (hc : c ≤ 1) :
    ∃ d h : Nat, d < 4294967296 ∧ h ≤ 1 ∧ x + 4294967296 * h = d + y + c ∧
      Int.tmod (IntKind.u64.wrap (IntKind.u64.wrap (IntKind.u64.wrap ((x : Int) + 4294967296) - (y : Int)) - (c : Int))) 4294967296 % 4294967296 = (d : Int) ∧
      IntKind.u64.wrap (1 - IntKind.u64.wrap (Int.tdiv (IntKind.u64.wrap (IntKind.u64.wrap (IntKind.u64.wrap ((x : Int) + 4294967296) - (y : Int)) - (c : Int))) 4294967296)) = (h : Int) := by
  have e1 : (x : Int) + 4294967296 = ((x + 4294967296 : Nat) : Int) := by omega
  have e2 : ((x + 4294967296 : Nat) : Int) - (y : Int) = ((x + 4294967296 - y : Nat) : Int) := by omega
  have e3 : ((x + 4294967296 - y : Nat) : Int) - (c : Int) = ((x + 4294967296 - y - c : Nat) : Int) := by omega
  have w1 : IntKind.u64.wrap ((x + 4294967296 : Nat) : Int) = ((x + 4294967296 : Nat) : Int) ∧ IntKind.u64.wrap ((x + 4294967296 - y : Nat) : Int) = ((x + 4294967296 - y : Nat) : Int) ∧ IntKind.u64.wrap ((x + 4294967296 - y - c : Nat) : Int) = ((x + 4294967296 - y - c : Nat) : Int) :=
    ⟨u64 (by omega) (by omega), u64 (by omega) (by omega), u64 (by omega) (by omega)⟩
  rw [e1, w1.1, e2, w1.2.1, e3, w1.2.2, tmod_nat, tdiv_nat]
  obtain ⟨s, hs⟩ : ∃ s, x + 4294967296 - y - c = s := ⟨_, rfl⟩
  rw [hs]
  clear w1 e1 e2 e3
  have b1 : s / 4294967296 ≤ 1 := by omega
  have w2 : IntKind.u64.wrap ((s / 4294967296 : Nat) : Int) = ((s / 4294967296 : Nat) : Int) ∧ IntKind.u64.wrap ((1 - s / 4294967296 : Nat) : Int) = ((1 - s / 4294967296 : Nat) : Int) := ⟨u64 (by omega) (by omega), u64 (by omega) (by omega)⟩
  have e4 : (1 : Int) - ((s / 4294967296 : Nat) : Int) = ((1 - s / 4294967296 : Nat) : Int) := by omega
  refine ⟨s % 4294967296, 1 - s / 4294967296, by omega, by omega, by omega, by omega, ?_⟩
  rw [w2.1, e4, w2.2]
theorem rSub_l0 {a b : List Int} (ua : U a) (ub : U b) (hs : a.length ≤ 100000000) (hle : valn b ≤ valn a) (n : Nat) : ∀ (i : Nat) (z : List Int) (c : Nat), i + n = a.length → z.length = i → U z → c ≤ 1 →
    valn (a.take i) + pw i * c = valn z + valn (b.take i) → Ev (fun k => codewrightref01_Sub.l0 k a b z (c : Int) (i : Int)) (lb (valn a - valn b)) := by
  induction n with
  | zero =>
    intro i z c hi hz uz hc hv
    obtain rfl : i = a.length := by omega
    have hzl := valn_lt uz
    rw [hz] at hzl
    have va := valn_lt ua
    rw [List.take_of_length_le (Nat.le_refl _)] at hv
    have hb : valn (b.take a.length) = valn b := by
      have h1 := valn_splitD b a.length
      rcases Nat.eq_zero_or_pos (valn (b.drop a.length)) with h | h
      · rw [h] at h1; omega
      · exfalso
        have := Nat.mul_le_mul_left (pw a.length) h
        omega
    rw [hb] at hv
    have key : valn z = valn a - valn b := by
      rcases Nat.eq_zero_or_pos c with h | h
      · subst h; omega
      · obtain rfl : c = 1 := by omega
        omega
    have ht := rTrim_f uz (by omega)
    rw [key] at ht
    have c1 : ¬ ((a.length : Int) < (a.length : Int)) := by omega
    refine Ev_succ ?_
    simp only [codewrightref01_Sub.l0]
    exact Ev_neg c1 (Ev.bind ht (Ev.now _))
  | succ n ih =>
    intro i z c hi hz uz hc hv
    obtain ⟨x, ex, hx⟩ := rd_nat ua (i : Int)
    obtain ⟨y, ey, hy⟩ := rd_nat ub (i : Int)
    obtain ⟨d, h, hd, hh, heq, e1, e2⟩ := sub_num hx hy hc
    have step := ih (i + 1) (z ++ [(d : Int)]) h (by omega) (by simp [hz]) (U_snoc uz (by omega)) hh (by
      rw [snoc_val, hz, valn_take_succ, valn_take_succ, ex, ey, Int.toNat_natCast, Int.toNat_natCast, Int.toNat_natCast, pw_succ]
      have h3 : pw i * (x + 4294967296 * h) = pw i * (d + y + c) := by rw [heq]
      rw [Nat.mul_add, Nat.mul_add, Nat.mul_add, ← Nat.mul_assoc] at h3
      omega)
    have c1 : (i : Int) < (a.length : Int) ∧ z.length < 35184372088832 := by omega
    have wi : wrap64 ((i : Int) + 1) = ((i + 1 : Nat) : Int) := up i (by omega)
    refine Ev_succ ?_
    simp only [codewrightref01_Sub.l0, limb_f ua, limb_f ub, Option.bind_some]
    refine Ev_pos c1.1 (Ev_pos c1.2 ?_)
    rw [ex, ey, e1, e2, wi]; exact step
theorem rSub_f {a b : List Int} (ua : U a) (ub : U b) (hs : a.length ≤ 100000000) (hle : valn b ≤ valn a) : Ev (fun k => codewrightref01_Sub.f k a b) (lb (valn a - valn b)) :=
  rSub_l0 ua ub hs hle a.length 0 [] 0 (by omega) rfl U_nil (by omega) (by rw [List.take_zero, List.take_zero, Nat.mul_zero, valn_nil])
theorem sz_half {x : Nat} (h : x ≠ 0) : sz x = sz (x / 2) + 1 := by
  by_cases h1 : x / 2 = 0
  · obtain rfl : x = 1 := by omega
    rfl
  · rw [sz_div (n := x) (k := 1) h1]; exact Nat.add_comm _ _
theorem rBits_l0 (n : Nat) : ∀ (x s : Nat), x < 2 ^ n → n ≤ 32 → s + n ≤ 200000000000 → Ev (fun k => codewrightref01_Bits.l0 k (s : Int) (x : Int)) ((s + sz x : Nat) : Int) := by
  induction n with
  | zero =>
    intro x s hx _ _
    obtain rfl : x = 0 := by omega
    refine Ev_succ ?_
    simp only [codewrightref01_Bits.l0]
    exact Ev_neg (by omega) (Ev.now _)
  | succ n ih =>
    intro x s hx hn hs
    by_cases h0 : x = 0
    · subst h0
      refine Ev_succ ?_
      simp only [codewrightref01_Bits.l0]
      exact Ev_neg (by omega) (Ev.now _)
    · have hp : 2 ^ (n + 1) = 2 ^ n * 2 := Nat.pow_succ ..
      have h32 : 2 ^ (n + 1) ≤ 2 ^ 32 := Nat.pow_le_pow_right (by decide) hn
      have hx32 : x < 4294967296 := Nat.lt_of_lt_of_le hx h32
      have hx2 : x / 2 < 2 ^ n := by
        rw [hp] at hx
        exact (Nat.div_lt_iff_lt_mul (by decide)).mpr hx
      clear hp h32 hx
      have step := ih (x / 2) (s + 1) hx2 (by omega) (by clear hx2; omega)
      clear hx2
      have e : Int.tdiv (x : Int) 2 % 4294967296 = ((x / 2 : Nat) : Int) := by
        rw [show Int.tdiv (x : Int) 2 = ((x / 2 : Nat) : Int) from rfl]; omega
      have hz := sz_half h0
      refine Ev_succ ?_
      simp only [codewrightref01_Bits.l0]
      refine Ev_pos (by omega) ?_
      rw [e, up s (by omega), hz, show s + (sz (x / 2) + 1) = s + 1 + sz (x / 2) from by omega]
      exact step
theorem rBits_f {l : List Int} (ul : U l) (hl : l.length ≤ 100000000) : Ev (fun k => codewrightref01_Bits.f k l) ((sz (valn l) : Nat) : Int) := by
  have hs := rTrim_f ul (by omega)
  have hL := lb_len ul
  generalize valn l = v at *
  by_cases h0 : v = 0
  · subst h0
    rw [lb_zero] at hs
    exact Ev.bind hs (Ev.now _)
  · obtain ⟨M, hM⟩ : ∃ M, (lb v).length = M + 1 := ⟨(lb v).length - 1, by
      have : (lb v).length ≠ 0 := fun h => h0 (lb_len_zero.mp h)
      omega⟩
    obtain ⟨t, et, ht⟩ := rd_nat (U_lb v) (M : Int)
    have hz := sz_lb hM et h0
    have c : ¬ (((M + 1 : Nat) : Int) = 0) ∧ (0 : Int) ≤ (M : Int) ∧ (M : Int) < ((M + 1 : Nat) : Int) ∧ M < 9223372036854775807 ∧ (32 : Int) * (M : Int) = ((32 * M : Nat) : Int) ∧ 32 * M + 32 ≤ 200000000000 := by omega
    have w1 : wrap64 ((32 * M : Nat) : Int) = ((32 * M : Nat) : Int) := w64 (by omega) (by omega)
    have hb := rBits_l0 32 t (32 * M) ht (by omega) c.2.2.2.2.2
    rw [← hz] at hb
    refine Ev.bind hs ?_
    rw [hM, dn M c.2.2.2.1, c.2.2.2.2.1, w1, et]
    exact Ev_neg c.1 (Ev_pos c.2.1 (Ev_pos c.2.2.1 hb))
theorem shl_num {x r c : Nat} (hx : x < 4294967296) (hr : r ≤ 31) (hc : c < 2 ^ r) :
    ∃ d h : Nat, d < 4294967296 ∧ h < 2 ^ r ∧ x * 2 ^ r + c = d + 4294967296 * h ∧
      Int.tmod (IntKind.u64.wrap (shl .u64 (IntKind.u64.wrap (x : Int)) (r : Int) + (c : Int))) 4294967296 % 4294967296 = (d : Int) ∧
      IntKind.u64.wrap (Int.tdiv (IntKind.u64.wrap (shl .u64 (IntKind.u64.wrap (x : Int)) (r : Int) + (c : Int))) 4294967296) = (h : Int) := by
  have hp : 2 ^ r ≤ 2 ^ 31 := Nat.pow_le_pow_right (by decide) hr
  have hxp : x * 2 ^ r + 2 ^ r ≤ 4294967296 * 2 ^ r := by
    have : (x + 1) * 2 ^ r ≤ 4294967296 * 2 ^ r := Nat.mul_le_mul_right _ hx
    rwa [Nat.add_mul, Nat.one_mul] at this
  have e1 : IntKind.u64.wrap (x : Int) = (x : Int) := u64 (by omega) (by omega)
  rw [e1, shl64 x r hx hr]
  clear e1
  obtain ⟨y, hy⟩ : ∃ y, x * 2 ^ r = y := ⟨_, rfl⟩
  obtain ⟨q, hq⟩ : ∃ q, 2 ^ r = q := ⟨_, rfl⟩
  rw [hy, hq] at hxp
  rw [hq] at hp hc
  rw [hy, hq]
  clear hy hq
  have e2 : (y : Int) + (c : Int) = ((y + c : Nat) : Int) := by omega
  have b2 : y + c < 18446744073709551616 := by omega
  obtain ⟨s, hs⟩ : ∃ s, y + c = s := ⟨_, rfl⟩
  rw [hs] at e2 b2
  have e3 : IntKind.u64.wrap (s : Int) = (s : Int) ∧ IntKind.u64.wrap ((s / 4294967296 : Nat) : Int) = ((s / 4294967296 : Nat) : Int) := ⟨u64 (by omega) (by omega), u64 (by omega) (by omega)⟩
  rw [e2, e3.1, tmod_nat, tdiv_nat, e3.2]
  clear e3 e2
  exact ⟨s % 4294967296, s / 4294967296, by omega, by omega, by omega, by omega, rfl⟩
theorem rshift_l0 {a : List Int} (ua : U a) (hs : a.length ≤ 100000000) (m r : Nat) (hm : m ≤ 100000000) (hr : r ≤ 31) (n : Nat) : ∀ (i : Nat) (z : List Int) (c : Nat), i + n = a.length → z.length = m + i → U z → c < 2 ^ r →
    valn z + pw (m + i) * c = valn (a.take i) * (pw m * 2 ^ r) → Ev (fun k => codewrightref01_shift.l0 k a ((32 * m + r : Nat) : Int) z (c : Int) (i : Int)) (lb (valn a * (pw m * 2 ^ r))) := by
  have et : Int.tmod ((32 * m + r : Nat) : Int) 32 = (r : Int) := by
    rw [show Int.tmod ((32 * m + r : Nat) : Int) 32 = (((32 * m + r) % 32 : Nat) : Int) from rfl]; omega
  have hp : 2 ^ r ≤ 2 ^ 31 := Nat.pow_le_pow_right (by decide) hr
  induction n with
  | zero =>
    intro i z c hi hz uz hc hv
    obtain rfl : i = a.length := by omega
    rw [List.take_of_length_le (Nat.le_refl _)] at hv
    have hc4 : c < 4294967296 := by omega
    have ht := rTrim_f (U_snoc uz (d := (c : Int)) (by omega)) (by rw [List.length_append, hz]; simp only [List.length_cons, List.length_nil]; omega)
    rw [snoc_val, hz, Int.toNat_natCast, hv] at ht
    have c1 : ¬ ((a.length : Int) < (a.length : Int)) ∧ z.length < 35184372088832 ∧ (c : Int) % 4294967296 = (c : Int) := by omega
    refine Ev_succ ?_
    simp only [codewrightref01_shift.l0]
    refine Ev_neg c1.1 (Ev_pos c1.2.1 ?_)
    rw [c1.2.2]
    exact Ev.bind ht (Ev.now _)
  | succ n ih =>
    intro i z c hi hz uz hc hv
    obtain ⟨x, ex, hx⟩ := rd_nat ua (i : Int)
    obtain ⟨d, h, hd, hh, heq, e1, e2⟩ := shl_num hx hr hc
    have step := ih (i + 1) (z ++ [(d : Int)]) h (by omega) (by simp [hz]; omega) (U_snoc uz (by omega)) hh (by
      rw [snoc_val, hz, valn_take_succ, ex, Int.toNat_natCast, Int.toNat_natCast, ← Nat.add_assoc, pw_succ, Nat.add_mul, ← hv]
      have h3 : pw (m + i) * (x * 2 ^ r + c) = pw (m + i) * (d + 4294967296 * h) := by rw [heq]
      rw [Nat.mul_add, Nat.mul_add, ← Nat.mul_assoc (pw (m + i)) 4294967296] at h3
      have h4 : pw i * x * (pw m * 2 ^ r) = pw (m + i) * (x * 2 ^ r) := by rw [pw_add]; ac_rfl
      rw [h4]
      omega)
    have c1 : (i : Int) < (a.length : Int) ∧ (0 : Int) ≤ (i : Int) ∧ (0 : Int) ≤ (r : Int) ∧ z.length < 35184372088832 := by
      clear hv hh heq hp hc
      omega
    have wi : wrap64 ((i : Int) + 1) = ((i + 1 : Nat) : Int) := up i (by clear hv hh heq hp hc; omega)
    refine Ev_succ ?_
    simp only [codewrightref01_shift.l0, et]
    refine Ev_pos c1.1 (Ev_pos c1.2.1 (Ev_pos c1.2.2.1 (Ev_pos c1.2.2.2 ?_)))
    rw [ex, e1, e2, wi]; exact step
theorem rshift_f {a : List Int} (ua : U a) (hs : a.length ≤ 100000000) (n : Nat) (hn : n ≤ 3200000000) : Ev (fun k => codewrightref01_shift.f k a (n : Int)) (lb (valn a * 2 ^ n)) := by
  obtain ⟨m, r, hr, e⟩ : ∃ m r, r ≤ 31 ∧ n = 32 * m + r := ⟨n / 32, n % 32, by omega, by omega⟩
  subst e
  have h := rshift_l0 ua hs m r (by omega) hr a.length 0 (List.replicate m 0) 0 (by omega) (by simp) (U_replicate _) (Nat.two_pow_pos r) (by rw [valn_replicate, List.take_zero, valn_nil, Nat.mul_zero, Nat.zero_mul])
  rw [two_pw, ← Nat.pow_add] at h
  have ed : Int.tdiv ((32 * m + r : Nat) : Int) 32 = (m : Int) := by
    rw [show Int.tdiv ((32 * m + r : Nat) : Int) 32 = (((32 * m + r) / 32 : Nat) : Int) from rfl]; omega
  have wm : wrap64 (m : Int) = (m : Int) := w64 (by omega) (by omega)
  have c : (0 : Int) ≤ (m : Int) ∧ m ≤ 70368744177664 := by omega
  refine Ev.congr (fun k => ?_) h
  unfold codewrightref01_shift.f
  rw [ed, wm, if_pos c.1, Int.toNat_natCast, if_pos c.2]; rfl
end Go.Proofs.Ytecfdemglbfnoaa.Num
end
section
namespace Go.Proofs.Ytecfdemglbfnoaa.Num
open Go.RowKit Go.Proofs.Ytecfdemglbfnoaa.PT Go.Proofs.YtecfdemglbfnoaaW.PrintWords Go.Proofs.YtecfdemglbfnoaaW.PrintLast Go.Proofs.YtecfdemglbfnoaaW.PrintMore
theorem pow_lt_pw {n m : Nat} (h : n < 32 * m) : 2 ^ n < pw m := by rw [two_pw]; exact (Nat.pow_lt_pow_iff_right (by decide)).mpr h
theorem sz_le_pw {x m : Nat} (h : x < pw m) : sz x ≤ 32 * m := sz_le (by rw [← two_pw]; exact h)
theorem rDiv_l0 {b : List Int} (ub : U b) (hb0 : valn b ≠ 0) (L S : Nat) (hL : L ≤ 1000000) (lb' : b.length ≤ L) (hS : S < pw L) : ∀ (i Q R : Nat), i ≤ 32 * L → S = Q * valn b + R → R < valn b * 2 ^ i →
    Ev (fun k => codewrightref01_DivMod.l0 k b (lb Q) (lb R) ((i : Int) - 1)) (lb (S / valn b), lb (S % valn b)) := by
  have hvb := Nat.pos_of_ne_zero hb0
  intro i
  induction i with
  | zero =>
    intro Q R _ hQ hR
    rw [Nat.pow_zero, Nat.mul_one] at hR
    have hq := quo_of (u := S) (v := valn b) (q := Q) (by omega) (by omega)
    have hr : S % valn b = R := by rw [hq.2]; omega
    have hQS : Q ≤ S := by
      have : Q * 1 ≤ Q * valn b := Nat.mul_le_mul_left _ hvb
      omega
    have hlQ := lb_len_le (Nat.lt_of_le_of_lt hQS hS)
    have ht := rTrim_f (U_lb Q) (by omega)
    rw [valn_lb] at ht
    rw [hq.1, hr]
    refine Ev_succ ?_
    simp only [codewrightref01_DivMod.l0]
    exact Ev_neg (by omega) (Ev.bind ht (Ev.now _))
  | succ i ih =>
    intro Q R hi hQ hR
    have hQS : Q ≤ S := by
      have : Q * 1 ≤ Q * valn b := Nat.mul_le_mul_left _ hvb
      omega
    have hRS : R ≤ S := by omega
    have hlQ := lb_len_le (Nat.lt_of_le_of_lt hQS hS)
    have hlR := lb_len_le (Nat.lt_of_le_of_lt hRS hS)
    have hsh := rshift_f ub (by omega) i (by omega)
    have htb : valn b * 2 ^ i < pw (2 * L + 1) := by
      have h1 : 2 ^ i < pw (L + 1) := pow_lt_pw (by omega)
      have h2 := Nat.lt_of_lt_of_le (valn_lt ub) (pw_mono lb')
      rw [show 2 * L + 1 = L + (L + 1) from by omega, pw_add]
      exact Nat.mul_lt_mul'' h2 h1
    have hlt := lb_len_le htb
    have hc := rCmp_f (U_lb R) (U_lb (valn b * 2 ^ i)) (by omega) (by omega)
    have h1s := rshift_f (a := [1]) (U_cons (by decide) U_nil) (by simp) i (by omega)
    have hone : valn [1] * 2 ^ i = 2 ^ i := by rw [show valn [1] = 1 from rfl, Nat.one_mul]
    rw [hone] at h1s
    have hp2 : R < valn b * 2 ^ i * 2 := by rw [Nat.mul_assoc, ← Nat.pow_succ]; exact hR
    rw [valn_lb, valn_lb] at hc
    have ci : ((i + 1 : Nat) : Int) - 1 = (i : Int) ∧ (i : Int) ≥ 0 := by omega
    have wi : wrap64 ((i : Int) - 1) = (i : Int) - 1 := w64 (by omega) (by omega)
    obtain ⟨T, hT⟩ : ∃ T, valn b * 2 ^ i = T := ⟨_, rfl⟩
    have h1l : (lb (2 ^ i)).length ≤ L + 1 := lb_len_le (pow_lt_pw (by omega))
    refine Ev_succ ?_
    simp only [codewrightref01_DivMod.l0, ci.1]
    refine Ev_pos ci.2 (Ev.bind hsh (Ev.bind hc ?_))
    rw [wi]
    rw [hT] at hp2 ⊢
    by_cases hge : T ≤ R
    · have c1 : cmpn R T ≥ 0 := by unfold cmpn; rw [if_neg (by omega)]; split <;> omega
      have hsub := rSub_f (U_lb R) (U_lb T) (by omega) (by rw [valn_lb, valn_lb]; exact hge)
      have hadd := rAdd_f (U_lb Q) (U_lb (2 ^ i)) (by omega) (by omega)
      rw [valn_lb, valn_lb] at hsub hadd
      refine Ev_pos c1 (Ev.bind hsub (Ev.bind h1s (Ev.bind hadd ?_)))
      refine ih (Q + 2 ^ i) (R - T) (by omega) ?_ (by rw [hT]; omega)
      rw [Nat.add_mul, Nat.mul_comm (2 ^ i), hT]; omega
    · have c1 : ¬ cmpn R T ≥ 0 := by unfold cmpn; rw [if_pos (by omega)]; decide
      refine Ev_neg c1 (ih Q R (by omega) hQ (by rw [hT]; omega))
theorem rDivMod_f {a b : List Int} (ua : U a) (ub : U b) (la : a.length ≤ 1000000) (lb' : b.length ≤ 1000000) (h0 : valn b ≠ 0) :
    Ev (fun k => codewrightref01_DivMod.f k a b) (lb (valn a / valn b), lb (valn a % valn b)) := by
  have ht := rTrim_f ua (by omega)
  have ha := rBits_f ua (by omega)
  have hb := rBits_f ub (by omega)
  have hS := Nat.lt_of_lt_of_le (valn_lt ua) (pw_mono la)
  have hB := Nat.lt_of_lt_of_le (valn_lt ub) (pw_mono lb')
  have sa := sz_le_pw hS
  have sb := sz_le_pw hB
  have s1 := sz_pos h0
  refine Ev.bind ht (Ev.bind ha (Ev.bind hb ?_))
  by_cases c : sz (valn b) ≤ sz (valn a)
  · have e : ((sz (valn a) : Nat) : Int) - ((sz (valn b) : Nat) : Int) = ((sz (valn a) - sz (valn b) + 1 : Nat) : Int) - 1 := by omega
    have w : wrap64 (((sz (valn a) - sz (valn b) + 1 : Nat) : Int) - 1) = ((sz (valn a) - sz (valn b) + 1 : Nat) : Int) - 1 := w64 (by omega) (by omega)
    have hlt : valn a < valn b * 2 ^ (sz (valn a) - sz (valn b) + 1) := by
      have h1 := lt_sz (valn a)
      have h2 := (sz_spec h0).1
      have h3 : 2 ^ sz (valn a) = 2 ^ (sz (valn b) - 1) * 2 ^ (sz (valn a) - sz (valn b) + 1) := by rw [← Nat.pow_add]; congr 1; omega
      rw [h3] at h1
      exact Nat.lt_of_lt_of_le h1 (Nat.mul_le_mul_right _ h2)
    have hm := rDiv_l0 ub h0 1000000 (valn a) (by omega) lb' hS (sz (valn a) - sz (valn b) + 1) 0 (valn a) (by omega) (by omega) hlt
    rw [lb_zero] at hm
    rw [e, w]; exact hm
  · have e : wrap64 (((sz (valn a) : Nat) : Int) - ((sz (valn b) : Nat) : Int)) = ((sz (valn a) : Nat) : Int) - ((sz (valn b) : Nat) : Int) := w64 (by omega) (by omega)
    have c1 : ¬ ((sz (valn a) : Nat) : Int) - ((sz (valn b) : Nat) : Int) ≥ 0 := by omega
    have hlt : valn a < valn b := by
      by_cases h : valn a < valn b
      · exact h
      · exfalso
        have h1 := (sz_spec h0).1
        have h2 : 2 ^ sz (valn a) ≤ 2 ^ (sz (valn b) - 1) := Nat.pow_le_pow_right (by decide) (by omega)
        have h3 := lt_sz (valn a)
        omega
    have ht0 := rTrim_f U_nil (by simp)
    rw [valn_nil, lb_zero] at ht0
    rw [e, Nat.div_eq_of_lt hlt, Nat.mod_eq_of_lt hlt, lb_zero]
    refine Ev_succ ?_
    simp only [codewrightref01_DivMod.l0]
    exact Ev_neg c1 (Ev.bind ht0 (Ev.now _))
theorem rGcd_f : ∀ (n : Nat) {a b : List Int}, valn b = n → U a → U b → a.length ≤ 1000000 → b.length ≤ 1000000 → Ev (fun k => codewrightref01_Gcd.l0 k a b) (lb (Nat.gcd (valn a) (valn b))) := by
  intro n
  induction n using Nat.strongRecOn with
  | _ n ih =>
    intro a b hn ua ub la lb'
    have hz := rZero_f ub (by omega)
    refine Ev_succ ?_
    simp only [codewrightref01_Gcd.l0]
    by_cases h0 : valn b = 0
    · have ht := rTrim_f ua (by omega)
      rw [decide_eq_true h0] at hz
      rw [h0, Nat.gcd_zero_right]
      exact Ev.bind hz (Ev_pos rfl (Ev.bind ht (Ev.now _)))
    · have hd := rDivMod_f ua ub la lb' h0
      rw [decide_eq_false h0] at hz
      have hr : valn a % valn b < valn b := Nat.mod_lt _ (Nat.pos_of_ne_zero h0)
      refine Ev.bind hz (Ev_neg (by decide) (Ev.bind hd ?_))
      have := ih (valn a % valn b) (by omega) (a := b) (b := lb (valn a % valn b)) (valn_lb _) ub (U_lb _) lb' (Nat.le_trans (lb_len_le (Nat.lt_trans hr (valn_lt ub))) lb')
      rw [valn_lb] at this
      rw [Nat.gcd_comm, Nat.gcd_rec, Nat.gcd_comm]
      exact this
theorem rGcd_f' {a b : List Int} (ua : U a) (ub : U b) (la : a.length ≤ 1000000) (lb' : b.length ≤ 1000000) : Ev (fun k => codewrightref01_Gcd.f k a b) (lb (Nat.gcd (valn a) (valn b))) := rGcd_f _ rfl ua ub la lb'
end Go.Proofs.Ytecfdemglbfnoaa.Num
end
section
namespace Go.Proofs.Ytecfdemglbfnoaa.Num
open Go.RowKit Go.Proofs.Ytecfdemglbfnoaa.PT Go.Proofs.YtecfdemglbfnoaaW.PrintWords Go.Proofs.YtecfdemglbfnoaaW.PrintLast Go.Proofs.YtecfdemglbfnoaaW.PrintMore
theorem sz_eq_zero {n : Nat} : sz n = 0 ↔ n = 0 := by
  constructor
  · intro h
    by_cases c : n = 0
    · exact c
    · have := sz_pos c; omega
  · intro h; subst h; rfl
theorem rep_rv {neg : Bool} {n d : List Int} (hn : valn n ≠ 0) (hd : valn d ≠ 0) : rep (rv neg n d) = (neg, lb (valn n / Nat.gcd (valn n) (valn d)), lb (valn d / Nat.gcd (valn n) (valn d))) := rep_mkRat neg hn hd
theorem gcd_lb {n d : List Int} (un : U n) (ln : n.length ≤ 1000000) (hn : valn n ≠ 0) : (lb (Nat.gcd (valn n) (valn d))).length ≤ 1000000 ∧ Nat.gcd (valn n) (valn d) ≠ 0 :=
  ⟨Nat.le_trans (lb_len_le (Nat.lt_of_le_of_lt (Nat.le_of_dvd (Nat.pos_of_ne_zero hn) (Nat.gcd_dvd_left _ _)) (valn_lt un))) ln, Nat.ne_of_gt (Nat.gcd_pos_of_pos_left _ (Nat.pos_of_ne_zero hn))⟩
theorem canonical_j {neg : Bool} {n d : List Int} (un : U n) (ud : U d) (ln : n.length ≤ 1000000) (ld : d.length ≤ 1000000) (b : Bool) (hb : b = true ↔ valn n = 0 ∨ valn d = 0) :
    Ev (fun k => rational_canonical.j0 k neg n d b) (rep (rv neg n d)) := by
  refine Ev_succ ?_
  simp only [rational_canonical.j0]
  cases b with
  | true =>
    have h : rv neg n d = 0 := by
      rcases hb.mp rfl with h | h
      · exact rv_zero_num neg h
      · exact rv_zero_den neg h
    rw [h, rep_zero]
    exact Ev_pos rfl (Ev.bind (Ev.now _) (Ev.now _))
  | false =>
    have hn : valn n ≠ 0 := fun h => absurd (hb.mpr (.inl h)) (by decide)
    have hd : valn d ≠ 0 := fun h => absurd (hb.mpr (.inr h)) (by decide)
    obtain ⟨hg, hg0⟩ := gcd_lb un ln hn
    have h1 := Gcd_f un ud ln ld
    have h2 := DivMod_f un (U_lb (Nat.gcd (valn n) (valn d))) ln hg (by rw [valn_lb]; exact hg0)
    have h3 := DivMod_f ud (U_lb (Nat.gcd (valn n) (valn d))) ld hg (by rw [valn_lb]; exact hg0)
    rw [valn_lb] at h2 h3
    rw [rep_rv hn hd]
    exact Ev_neg (by decide) (Ev.bind h1 (Ev.bind h2 (Ev.bind h3 (Ev.now _))))
theorem canonical_f {neg : Bool} {n d : List Int} (un : U n) (ud : U d) (ln : n.length ≤ 1000000) (ld : d.length ≤ 1000000) :
    Ev (fun k => rational_canonical.f k neg n d) (rep (rv neg n d)) := by
  have b1 := Bits_f un (by omega)
  have b2 := Bits_f ud (by omega)
  refine Ev.bind b1 ?_
  by_cases h1 : valn n = 0
  · exact Ev_pos (by rw [h1]; rfl) (canonical_j un ud ln ld true ⟨fun _ => .inl h1, fun _ => rfl⟩)
  · have hz : ((sz (valn n) : Nat) : Int) ≠ 0 := fun h => h1 (sz_eq_zero.mp (Int.ofNat_eq_zero.mp h))
    refine Ev_neg hz (Ev.bind b2 (canonical_j un ud ln ld _ ?_))
    constructor
    · intro h
      exact .inr (sz_eq_zero.mp (Int.ofNat_eq_zero.mp (beq_iff_eq.mp h)))
    · intro h
      rcases h with h | h
      · exact absurd h h1
      · rw [h]; rfl
theorem Make_j {neg : Bool} {n d : List Int} (un : U n) (ud : U d) (ln : n.length ≤ 1000000) (ld : d.length ≤ 1000000) (b : Bool) (hb : b = true ↔ valn n = 0 ∨ valn d = 0) :
    Ev (fun k => codewrightref02_Make.j0 k neg n d b) (rep (rv neg n d)) := by
  refine Ev_succ ?_
  simp only [codewrightref02_Make.j0]
  cases b with
  | true =>
    have h : rv neg n d = 0 := by
      rcases hb.mp rfl with h | h
      · exact rv_zero_num neg h
      · exact rv_zero_den neg h
    rw [h, rep_zero]
    exact Ev_pos rfl (Ev.now _)
  | false =>
    have hn : valn n ≠ 0 := fun h => absurd (hb.mpr (.inl h)) (by decide)
    have hd : valn d ≠ 0 := fun h => absurd (hb.mpr (.inr h)) (by decide)
    obtain ⟨hg, hg0⟩ := gcd_lb un ln hn
    have h1 := rGcd_f' un ud ln ld
    have h2 := rDivMod_f un (U_lb (Nat.gcd (valn n) (valn d))) ln hg (by rw [valn_lb]; exact hg0)
    have h3 := rDivMod_f ud (U_lb (Nat.gcd (valn n) (valn d))) ld hg (by rw [valn_lb]; exact hg0)
    rw [valn_lb] at h2 h3
    rw [rep_rv hn hd]
    exact Ev_neg (by decide) (Ev.bind h1 (Ev.bind h2 (Ev.bind h3 (Ev.now _))))
theorem Make_f {neg : Bool} {n d : List Int} (un : U n) (ud : U d) (ln : n.length ≤ 1000000) (ld : d.length ≤ 1000000) :
    Ev (fun k => codewrightref02_Make.f k neg n d) (rep (rv neg n d)) := by
  have b1 := rZero_f un (by omega)
  have b2 := rZero_f ud (by omega)
  refine Ev.bind b1 ?_
  by_cases h1 : valn n = 0
  · exact Ev_pos (decide_eq_true h1) (Make_j un ud ln ld true ⟨fun _ => .inl h1, fun _ => rfl⟩)
  · refine Ev_neg (by rw [decide_eq_false h1]; decide) (Ev.bind b2 (Make_j un ud ln ld _ ?_))
    rw [decide_eq_true_iff]
    exact ⟨.inr, fun h => h.elim (fun h => absurd h h1) id⟩
end Go.Proofs.Ytecfdemglbfnoaa.Num
end
section
namespace Go.Proofs.Ytecfdemglbfnoaa.PT
open Go.RowKit Go.Proofs.YtecfdemglbfnoaaW.PrintWords Go.Proofs.YtecfdemglbfnoaaW.PrintLast Go.Proofs.YtecfdemglbfnoaaW.PrintMore
attribute [local go_sem] max2_int min2_int max_two min_two max_three min_three max_four min_four
set_option linter.unusedVariables false
set_option linter.unusedSimpArgs false
set_option maxHeartbeats 8000000
set_option maxRecDepth 100000
end Go.Proofs.Ytecfdemglbfnoaa.PT
end
section
namespace Go.Proofs.Ytecfdemglbfnoaa.Num
open Go.RowKit Go.Proofs.Ytecfdemglbfnoaa.PT Go.Proofs.YtecfdemglbfnoaaW.PrintWords Go.Proofs.YtecfdemglbfnoaaW.PrintLast Go.Proofs.YtecfdemglbfnoaaW.PrintMore
theorem rTrim02_f {neg : Bool} {n d : List Int} (un : U n) (ud : U d) (ln : n.length ≤ 1000000) (ld : d.length ≤ 1000000) :
    Ev (fun k => codewrightref02_Trim.f k neg n d) (rep (rv neg n d)) := Ev.bind (Make_f un ud ln ld) (Ev.now _)
theorem same02_f {x y : Bool} {a b c d : List Int} (la : a.length ≤ 100000000) (lc : b.length ≤ 100000000) : Ev (fun k => codewrightlaw02_same.f k x a b y c d) (decide ((x, a, b) = (y, c, d))) := by
  have h1 := Same_f (a := a) (b := c) (by omega)
  have h2 := Same_f (a := b) (b := d) (by omega)
  refine Ev.bind (a := decide ((x, a, b) = (y, c, d))) ?_ (Ev.now _)
  by_cases c1 : x = y
  · by_cases c2 : a = c
    · refine Ev_pos (by rw [c1]; simp) (Ev.bind h1 (Ev_pos (decide_eq_true c2) (Ev.bind h2 (Ev_as (Ev.now _) ?_))))
      rw [c1, c2]; simp
    · refine Ev_pos (by rw [c1]; simp) (Ev.bind h1 (Ev_neg (by rw [decide_eq_false c2]; decide) (Ev_as (Ev.now _) ?_)))
      rw [decide_eq_false]; intro h; injection h with _ h; injection h with h _; exact c2 h
  · refine Ev_neg (by simp [c1]) (Ev_as (Ev.now _) ?_)
    rw [decide_eq_false]; intro h; injection h with h _; exact c1 h
theorem rep_len {q : Rat} {m : Nat} (h : Sz m q) : (rep q).2.1.length ≤ m ∧ (rep q).2.2.length ≤ m := ⟨lb_len_le h.1, lb_len_le h.2⟩
theorem same_rep {p q : Rat} {m : Nat} (h : Sz m p) (hm : m ≤ 100000000) : Ev (fun k => codewrightlaw02_same.f k (rep p).1 (rep p).2.1 (rep p).2.2 (rep q).1 (rep q).2.1 (rep q).2.2) (decide (p = q)) := by
  have hl := rep_len h
  refine Ev_as (same02_f (by omega) (by omega)) ?_
  have : ((rep p).1, (rep p).2.1, (rep p).2.2) = ((rep q).1, (rep q).2.1, (rep q).2.2) ↔ p = q := ⟨fun h => rep_inj h, fun h => by rw [h]⟩
  exact decide_eq_decide.mpr this
theorem same_self {q : Rat} {m : Nat} (h : Sz m q) (hm : m ≤ 100000000) : Ev (fun k => codewrightlaw02_same.f k (rep q).1 (rep q).2.1 (rep q).2.2 (rep q).1 (rep q).2.1 (rep q).2.2) true :=
  Ev_as (same_rep h hm) (decide_eq_true rfl)
def I64 (x : Int) : Prop := -9223372036854775808 ≤ x ∧ x ≤ 9223372036854775807
theorem rOf_f {n : Nat} (h : n < 18446744073709551616) : Ev (fun k => codewrightref01_Of.f k (n : Int)) (lb n) := by
  have ht := rTrim_f (l := [((n : Int)) % 4294967296, ((n : Int) / 4294967296) % 4294967296]) (U_cons (by omega) (U_cons (by omega) U_nil)) (by simp)
  rw [valn_two n h] at ht
  have e1 : Int.tmod (n : Int) 4294967296 % 4294967296 = (n : Int) % 4294967296 := by rw [tmod_nat]; omega
  have e2 : IntKind.u64.wrap (Int.tdiv (n : Int) 4294967296) % 4294967296 = (n : Int) / 4294967296 % 4294967296 := by
    rw [tdiv_nat, u64 (Int.natCast_nonneg _) (by omega)]; rfl
  unfold codewrightref01_Of.f
  rw [e1, e2]
  exact Ev.bind ht (Ev.now _)
theorem abs_f {x : Int} (h : I64 x) : Ev (fun k => codewrightref02_abs.f k x) (lb x.natAbs) := by
  unfold I64 at h
  by_cases c : x < 0
  · have e1 : wrap64 (x + 1) = x + 1 := w64 (by omega) (by omega)
    have e2 : wrap64 (-(x + 1)) = -(x + 1) := w64 (by omega) (by omega)
    have e3 : IntKind.u64.wrap (-(x + 1)) = ((x.natAbs - 1 : Nat) : Int) := by rw [u64 (by omega) (by omega)]; omega
    have b1 : x.natAbs - 1 < 18446744073709551616 := by clear e1 e2 e3; omega
    have ho := rOf_f b1
    have hl := lb_len_le (n := x.natAbs - 1) (m := 2) (by rw [two_pw]; exact Nat.lt_of_lt_of_le b1 (by decide))
    have ha := rAdd_f (U_lb (x.natAbs - 1)) (b := [1]) (U_cons (by decide) U_nil) (by clear e1 e2 e3; omega) (by simp)
    have e4 : x.natAbs - 1 + 1 = x.natAbs := by clear e1 e2 e3; omega
    rw [valn_lb, show valn [1] = 1 from rfl, e4] at ha
    refine Ev_pos c ?_
    rw [e1, e2, e3]
    exact Ev.bind ho (Ev.bind ha (Ev.now _))
  · have e : IntKind.u64.wrap x = ((x.natAbs : Nat) : Int) := by rw [u64 (by omega) (by omega)]; omega
    have ho := rOf_f (n := x.natAbs) (by clear e; omega)
    refine Ev_neg c ?_
    rw [e]; exact Ev.bind ho (Ev.now _)
def divq (x y : Int) : Rat := mkRat (sg (decide (x < 0) != decide (y < 0)) x.natAbs) y.natAbs
theorem lb_i64 {x : Int} (h : I64 x) : (lb x.natAbs).length ≤ 2 := by
  unfold I64 at h
  exact lb_len_le (by rw [two_pw]; exact Nat.lt_of_lt_of_le (by omega : x.natAbs < 18446744073709551616) (by decide))
theorem rOf02_f {x y : Int} (hx : I64 x) (hy : I64 y) : Ev (fun k => codewrightref02_Of.f k x y) (rep (divq x y)) := by
  have lx := lb_i64 hx
  have ly := lb_i64 hy
  have hc := Make_f (neg := decide (x < 0) != decide (y < 0)) (U_lb x.natAbs) (U_lb y.natAbs) (by omega) (by omega)
  rw [rv, valn_lb, valn_lb] at hc
  exact Ev.bind (abs_f hx) (Ev.bind (abs_f hy) (Ev.bind hc (Ev.now _)))
end Go.Proofs.Ytecfdemglbfnoaa.Num
end
section
namespace Go.Proofs.Ytecfdemglbfnoaa.PT
open Go.RowKit Go.Proofs.YtecfdemglbfnoaaW.PrintWords Go.Proofs.YtecfdemglbfnoaaW.PrintLast Go.Proofs.YtecfdemglbfnoaaW.PrintMore
attribute [local go_sem] max2_int min2_int max_two min_two max_three min_three max_four min_four
set_option linter.unusedVariables false
set_option linter.unusedSimpArgs false
set_option maxHeartbeats 8000000
set_option maxRecDepth 100000
end Go.Proofs.Ytecfdemglbfnoaa.PT
end
section
namespace Go.Proofs.Ytecfdemglbfnoaa.Num
open Go.RowKit Go.Proofs.Ytecfdemglbfnoaa.PT Go.Proofs.YtecfdemglbfnoaaW.PrintWords Go.Proofs.YtecfdemglbfnoaaW.PrintLast Go.Proofs.YtecfdemglbfnoaaW.PrintMore
theorem Trim02_f {neg : Bool} {n d : List Int} (un : U n) (ud : U d) (ln : n.length ≤ 1000000) (ld : d.length ≤ 1000000) :
    Ev (fun k => rational_Trim.f k neg n d) (rep (rv neg n d)) := Ev.bind (canonical_f un ud ln ld) (Ev.now _)
theorem long02_l0 (m : Nat) (l : List S67) (hl : l.length < 4611686018427387904) (hs : ∀ x ∈ l, x.f1.length < 2305843009213693952 ∧ x.f2.length < 2305843009213693952) (n : Nat) : ∀ i : Nat, i + n = l.length →
    Ev (fun k => codewrightlaw02_long.l0 k (m : Int) l (i : Int)) ((l.drop i).any fun x => decide (m < x.f1.length + x.f2.length)) := by
  induction n with
  | zero =>
    intro i hi
    rw [List.drop_eq_nil_of_le (by omega)]
    refine Ev_succ ?_
    simp only [codewrightlaw02_long.l0]
    exact Ev_neg (by omega) (Ev.now _)
  | succ n ih =>
    intro i hi
    have e : rd_T67 l (i : Int) = l[i]'(by omega) := by simp [rd_T67, show i < l.length from by omega]
    have hm : l[i]'(by omega) ∈ l := List.getElem_mem _
    have hx := hs _ hm
    have hd : l.drop i = l[i]'(by omega) :: l.drop (i + 1) := by rw [List.drop_eq_getElem_cons]
    rw [hd, List.any_cons]
    generalize l[i]'(by omega) = x at *
    have c : (i : Int) < (l.length : Int) ∧ (0 : Int) ≤ (i : Int) := by omega
    have step := ih (i + 1) (by omega)
    have wi : wrap64 ((i : Int) + 1) = ((i + 1 : Nat) : Int) := up i (by omega)
    have ws : wrap64 ((x.f1.length : Int) + (x.f2.length : Int)) = ((x.f1.length + x.f2.length : Nat) : Int) := by rw [w64 (by omega) (by omega)]; rfl
    refine Ev_succ ?_
    simp only [codewrightlaw02_long.l0]
    refine Ev_pos c.1 (Ev_pos c.2 ?_)
    rw [e, ws, wi]
    clear ws wi
    by_cases h : m < x.f1.length + x.f2.length
    · rw [decide_eq_true h]
      exact Ev_pos (by omega) (Ev.now _)
    · rw [decide_eq_false h, Bool.false_or]
      exact Ev_neg (by omega) step
theorem long02_f (m : Nat) (l : List S67) (hl : l.length < 4611686018427387904) (hs : ∀ x ∈ l, x.f1.length < 2305843009213693952 ∧ x.f2.length < 2305843009213693952) :
    Ev (fun k => codewrightlaw02_long.f k (m : Int) l) (l.any fun x => decide (m < x.f1.length + x.f2.length)) := long02_l0 m l hl hs l.length 0 (by omega)
end Go.Proofs.Ytecfdemglbfnoaa.Num
end
section
namespace Go.Proofs.Ytecfdemglbfnoaa.PT
open Go.RowKit Go.Proofs.YtecfdemglbfnoaaW.PrintWords Go.Proofs.YtecfdemglbfnoaaW.PrintLast Go.Proofs.YtecfdemglbfnoaaW.PrintMore
attribute [local go_sem] max2_int min2_int max_two min_two max_three min_three max_four min_four
set_option linter.unusedVariables false
set_option linter.unusedSimpArgs false
set_option maxHeartbeats 8000000
set_option maxRecDepth 100000
end Go.Proofs.Ytecfdemglbfnoaa.PT
end
section
namespace Go.Proofs.Ytecfdemglbfnoaa.Num
open Go.RowKit Go.Proofs.Ytecfdemglbfnoaa.PT Go.Proofs.YtecfdemglbfnoaaW.PrintWords Go.Proofs.YtecfdemglbfnoaaW.PrintLast Go.Proofs.YtecfdemglbfnoaaW.PrintMore
def v67 (x : S67) : Rat := rv x.f0 x.f1 x.f2
def Ok67 (m : Nat) (l : List S67) : Prop := ∀ x ∈ l, U x.f1 ∧ U x.f2 ∧ x.f1.length ≤ m ∧ x.f2.length ≤ m
def prodq : List S67 → Rat
  | [] => 1
  | x :: l => v67 x * prodq l
theorem rep_one : rep 1 = (false, [1], [1]) := by
  have e : rep 1 = (false, lb 1, lb 1) := rfl
  rw [e, lb_one]
theorem mul_rv (p q : Rat) : rv ((rep p).1 != (rep q).1) (lb (p.num.natAbs * q.num.natAbs)) (lb (p.den * q.den)) = p * q := by
  rw [rv, valn_lb, valn_lb]; exact (mul_parts p q).symm
theorem lb_sz {m : Nat} {q : Rat} (h : Sz m q) : (lb q.num.natAbs).length ≤ m ∧ (lb q.den).length ≤ m := ⟨lb_len_le h.1, lb_len_le h.2⟩
theorem rd67 {l : List S67} {i : Nat} (h : i < l.length) : rd_T67 l (i : Int) = l[i] := by simp [rd_T67, h]
theorem Mul02_l0 {m : Nat} {l : List S67} (hl : Ok67 m l) (hm : 1 ≤ m) (hn : l.length < 4611686018427387904) (n : Nat) : ∀ (i s : Nat) (p : Rat), i + n = l.length → Sz s p → 1 ≤ s → s + m * n ≤ 1000000 →
    Ev (fun k => rational_Mul.l0 k (rep p).1 (rep p).2.1 (rep p).2.2 l (l.length : Int) (i : Int)) (rep (p * prodq (l.drop i))) := by
  induction n with
  | zero =>
    intro i s p hi hp h1 hs
    rw [List.drop_eq_nil_of_le (by omega)]
    refine Ev_succ ?_
    simp only [rational_Mul.l0]
    exact Ev_neg (by omega) (Ev_as (Ev.now _) (by rw [prodq, Rat.mul_one]))
  | succ n ih =>
    intro i s p hi hp h1 hs
    have hs' : s + m + m * n ≤ 1000000 := by rw [Nat.mul_succ] at hs; omega
    have hi' : i < l.length := by omega
    have c1 : (i : Int) < (l.length : Int) := by omega
    have c0 : (0 : Int) ≤ (i : Int) := by omega
    obtain ⟨u1, u2, l1, l2⟩ := hl _ (List.getElem_mem hi')
    have hq : Sz m (v67 l[i]) := Sz_rv u1 u2 l1 l2 hm
    have hd : l.drop i = l[i] :: l.drop (i + 1) := by rw [List.drop_eq_getElem_cons]
    have ht : Ev (fun k => rational_Trim.f k l[i].f0 l[i].f1 l[i].f2) (rep (v67 l[i])) := Trim02_f u1 u2 (by omega) (by omega)
    have hrd := rd67 hi'
    have lp := lb_sz hp
    have lq := lb_sz hq
    have m1 : Ev (fun k => nat_Mul.f k [(rep p).2.1, (rep (v67 l[i])).2.1]) (lb (p.num.natAbs * (v67 l[i]).num.natAbs)) := by
      have m1 := Mul_two (U_lb p.num.natAbs) (U_lb (v67 l[i]).num.natAbs) (by omega)
      rw [valn_lb, valn_lb] at m1; exact m1
    have m2 : Ev (fun k => nat_Mul.f k [(rep p).2.2, (rep (v67 l[i])).2.2]) (lb (p.den * (v67 l[i]).den)) := by
      have m2 := Mul_two (U_lb p.den) (U_lb (v67 l[i]).den) (by omega)
      rw [valn_lb, valn_lb] at m2; exact m2
    have hpq : Sz (s + m) (p * v67 l[i]) := Sz_mul hp hq h1
    have b1 : (lb (p.num.natAbs * (v67 l[i]).num.natAbs)).length ≤ 1000000 := Nat.le_trans (lb_len_le (mul_pw' hp.1 hq.1)) (by omega)
    have b2 : (lb (p.den * (v67 l[i]).den)).length ≤ 1000000 := Nat.le_trans (lb_len_le (mul_pw' hp.2 hq.2)) (by omega)
    have hc := canonical_f (neg := (rep p).1 != (rep (v67 l[i])).1) (U_lb (p.num.natAbs * (v67 l[i]).num.natAbs)) (U_lb (p.den * (v67 l[i]).den)) b1 b2
    rw [mul_rv] at hc
    have step := ih (i + 1) (s + m) (p * v67 l[i]) (by omega) hpq (by omega) (by omega)
    rw [hd, prodq, ← Rat.mul_assoc]
    have wi : wrap64 ((i : Int) + 1) = ((i + 1 : Nat) : Int) := up i (by omega)
    refine Ev_succ ?_
    simp only [rational_Mul.l0]
    refine Ev_pos c1 (Ev_pos c0 (Ev_pos c1 ?_))
    rw [hrd, wi]
    clear wi hrd hd hi hs hs' lp lq b1 b2 hpq hp hq ih
    generalize v67 l[i] = q at *
    generalize p * q = pq at *
    exact Ev.bind ht (Ev.bind m1 (Ev.bind m2 (Ev.bind hc step)))
theorem Sz_one : Sz 1 1 := by
  have h1 : 1 < pw 1 := by rw [pw_succ, pw_zero]; decide
  exact ⟨h1, h1⟩
theorem Mul02_f {m : Nat} {l : List S67} (hl : Ok67 m l) (hm : 1 ≤ m) (hs : m * l.length ≤ 999999) : Ev (fun k => rational_Mul.f k l) (rep (prodq l)) := by
  have hn : l.length ≤ m * l.length := Nat.le_mul_of_pos_left _ hm
  have h := Mul02_l0 hl hm (by omega) l.length 0 1 1 (by omega) Sz_one (by omega) (by omega)
  rw [rep_one, Rat.one_mul] at h
  exact Ev.bind (Ev.now _) (Ev.bind (Ev.now _) h)
theorem ok_rep {m : Nat} {q : Rat} (h : Sz m q) : U (rep q).2.1 ∧ U (rep q).2.2 ∧ (rep q).2.1.length ≤ m ∧ (rep q).2.2.length ≤ m := ⟨U_lb _, U_lb _, (rep_len h).1, (rep_len h).2⟩
theorem v67_rep (q : Rat) : v67 ⟨(rep q).1, (rep q).2.1, (rep q).2.2⟩ = q := rv_rep q
end Go.Proofs.Ytecfdemglbfnoaa.Num
end
section
namespace Go.Proofs.Ytecfdemglbfnoaa.Num
open Go.RowKit Go.Proofs.Ytecfdemglbfnoaa.PT Go.Proofs.YtecfdemglbfnoaaW.PrintWords Go.Proofs.YtecfdemglbfnoaaW.PrintLast Go.Proofs.YtecfdemglbfnoaaW.PrintMore
theorem sub_digit {x y c : Nat} (hx : x < 4294967296) (hy : y < 4294967296) (hc : c ≤ 1) :
    ∃ d h : Nat, d < 4294967296 ∧ h ≤ 1 ∧ x + 4294967296 * h = d + y + c ∧
      IntKind.u64.wrap (IntKind.u64.wrap (IntKind.u64.wrap (x : Int) - (c : Int)) - IntKind.u64.wrap (y : Int)) % 4294967296 = (d : Int) ∧
      IntKind.u64.wrap (IntKind.u64.wrap (IntKind.u64.wrap (x : Int) - (c : Int)) - IntKind.u64.wrap (y : Int)) / 9223372036854775808 = (h : Int) := by
  have e : ∀ z : Int, IntKind.u64.wrap z = z % 18446744073709551616 := fun z => rfl
  simp only [e]
  refine ⟨if x < y + c then x + 4294967296 - (y + c) else x - (y + c), if x < y + c then 1 else 0, ?_, ?_, ?_, ?_, ?_⟩ <;> split <;> omega
theorem sub_digit0 {x c : Nat} (hx : x < 4294967296) (hc : c ≤ 1) :
    ∃ d h : Nat, d < 4294967296 ∧ h ≤ 1 ∧ x + 4294967296 * h = d + 0 + c ∧
      IntKind.u64.wrap (IntKind.u64.wrap (x : Int) - (c : Int)) % 4294967296 = (d : Int) ∧
      IntKind.u64.wrap (IntKind.u64.wrap (x : Int) - (c : Int)) / 9223372036854775808 = (h : Int) := by
  have e : ∀ z : Int, IntKind.u64.wrap z = z % 18446744073709551616 := fun z => rfl
  simp only [e]
  refine ⟨if x < c then x + 4294967296 - c else x - c, if x < c then 1 else 0, ?_, ?_, ?_, ?_, ?_⟩ <;> split <;> omega
theorem Sub_l0 {a b : List Int} (ua : U a) (ub : U b) (hs : a.length ≤ 100000000) (hle : valn b ≤ valn a) (n : Nat) : ∀ (i : Nat) (z : List Int) (c : Nat), i + n = a.length → z.length = a.length → U z → c ≤ 1 → z.drop i = a.drop i →
    valn (a.take i) + pw i * c = valn (z.take i) + valn (b.take i) → Ev (fun k => nat_Sub.l0 k b z (c : Int) (a.length : Int) (i : Int)) (lb (valn a - valn b), 0) := by
  induction n with
  | zero =>
    intro i z c hi hz uz hc hd hv
    obtain rfl : i = a.length := by omega
    have hzl := valn_lt uz
    rw [hz] at hzl
    have va := valn_lt ua
    rw [List.take_of_length_le (Nat.le_refl _), List.take_of_length_le (by omega)] at hv
    have hb : valn (b.take a.length) = valn b := by
      have h1 := valn_split b a.length
      rcases Nat.eq_zero_or_pos (valn (b.drop a.length)) with h | h
      · rw [h] at h1; omega
      · exfalso
        have := Nat.mul_le_mul_left (pw a.length) h
        omega
    rw [hb] at hv
    have key : valn z = valn a - valn b := by
      rcases Nat.eq_zero_or_pos c with h | h
      · subst h; omega
      · obtain rfl : c = 1 := by omega
        omega
    have ht := short_f uz (by omega)
    rw [key] at ht
    have c1 : ¬ ((a.length : Int) < (a.length : Int)) := by omega
    refine Ev_succ ?_
    simp only [nat_Sub.l0]
    exact Ev_neg c1 (Ev.bind ht (Ev.now _))
  | succ n ih =>
    intro i z c hi hz uz hc hdr hv
    have hi1 : i < a.length := by omega
    have hi2 : i < z.length := by omega
    obtain ⟨x, ex, hx⟩ := rd_nat ua (i : Int)
    obtain ⟨y, ey, hy⟩ := rd_nat ub (i : Int)
    have exz : rd z (i : Int) = (x : Int) := by
      have h1 := drop_rd z i hi2
      have h2 := drop_rd a i hi1
      rw [hdr, h2] at h1
      injection h1 with h1 _
      rw [← h1]; exact ex
    have c1 : (i : Int) < (a.length : Int) := by omega
    have c0 : (0 : Int) ≤ (i : Int) := by omega
    have c2 : (i : Int) < (z.length : Int) := by omega
    have wi : wrap64 ((i : Int) + 1) = ((i + 1 : Nat) : Int) := up i (by omega)
    have ti : ((i : Int)).toNat = i := Int.toNat_natCast i
    have main : ∀ d h : Nat, d < 4294967296 → h ≤ 1 → x + 4294967296 * h = d + y + c → Ev (fun k => nat_Sub.l0 k b (z.set i (d : Int)) (h : Int) (a.length : Int) ((i + 1 : Nat) : Int)) (lb (valn a - valn b), 0) := by
      intro d h hd hh heq
      refine ih (i + 1) (z.set i (d : Int)) h (by omega) (by rw [List.length_set]; exact hz) (U_set uz (by omega) i) hh ?_ ?_
      · have e1 := drop_rd z i hi2
        have e2 := drop_rd a i hi1
        rw [hdr, e2] at e1
        injection e1 with _ e1
        rw [List.drop_set_of_lt (by omega)]; exact e1.symm
      · rw [valn_set_take z i d hi2, valn_take_succ, valn_take_succ b, ex, ey, Int.toNat_natCast, Int.toNat_natCast, Int.toNat_natCast, pw_succ]
        have h3 : pw i * (x + 4294967296 * h) = pw i * (d + y + c) := by rw [heq]
        rw [Nat.mul_add, Nat.mul_add, Nat.mul_add, ← Nat.mul_assoc] at h3
        omega
    refine Ev_succ ?_
    simp only [nat_Sub.l0]
    refine Ev_pos c1 (Ev_pos c0 (Ev_pos c2 ?_))
    by_cases hb : i < b.length
    · obtain ⟨d, h, hd, hh, heq, e1, e2⟩ := sub_digit hx hy hc
      have c3 : (i : Int) < (b.length : Int) := by clear wi e1 e2; omega
      refine Ev_pos c3 ?_
      rw [exz, ey, e1, e2, wi, ti]; exact main d h hd hh heq
    · obtain ⟨d, h, hd, hh, heq, e1, e2⟩ := sub_digit0 hx hc
      have c3 : ¬ (i : Int) < (b.length : Int) := by clear wi e1 e2; omega
      have y0 : y = 0 := by have := rd_ge b i (by clear wi e1 e2; omega); rw [ey] at this; clear wi e1 e2; omega
      refine Ev_neg c3 ?_
      rw [exz, e1, e2, wi, ti]; exact main d h hd hh (by rw [y0]; exact heq)
theorem Sub_f {a b : List Int} (ua : U a) (ub : U b) (la : a.length ≤ 1000000) (lb' : b.length ≤ 1000000) (hle : valn b ≤ valn a) : Ev (fun k => nat_Sub.f k a b) (lb (valn a - valn b), 0) := by
  have hc := Cmp_f ua ub (by omega) (by omega)
  have ht := Trim_f ua (by omega)
  have hl := lb_len ua
  have h := Sub_l0 (a := lb (valn a)) (U_lb _) ub (by omega) (by rw [valn_lb]; exact hle) (lb (valn a)).length 0 (lb (valn a)) 0 (by omega) rfl (U_lb _) (by omega) rfl (by simp [valn_nil])
  rw [valn_lb] at h
  refine Ev.bind hc (Ev_neg ?_ (Ev.bind ht h))
  unfold cmpn
  split
  · omega
  · split <;> decide
theorem sum_same {p q : Rat} (h : decide (p.num < 0) = decide (q.num < 0)) : rv (decide (p.num < 0)) (lb (p.num.natAbs * q.den + q.num.natAbs * p.den)) (lb (p.den * q.den)) = p + q := by
  rw [rv, valn_lb, valn_lb, sg_add, add_parts p q, ← h]
theorem sum_less {p q : Rat} (h : decide (p.num < 0) ≠ decide (q.num < 0)) (hl : p.num.natAbs * q.den ≤ q.num.natAbs * p.den) : rv (decide (q.num < 0)) (lb (q.num.natAbs * p.den - p.num.natAbs * q.den)) (lb (p.den * q.den)) = p + q := by
  have e : (!decide (q.num < 0)) = decide (p.num < 0) := by
    revert h; cases decide (p.num < 0) <;> cases decide (q.num < 0) <;> decide
  rw [rv, valn_lb, valn_lb, sg_sub _ hl, e, Int.add_comm, add_parts p q]
theorem sum_more {p q : Rat} (h : decide (p.num < 0) ≠ decide (q.num < 0)) (hl : q.num.natAbs * p.den ≤ p.num.natAbs * q.den) : rv (decide (p.num < 0)) (lb (p.num.natAbs * q.den - q.num.natAbs * p.den)) (lb (p.den * q.den)) = p + q := by
  have e : (!decide (p.num < 0)) = decide (q.num < 0) := by
    revert h; cases decide (p.num < 0) <;> cases decide (q.num < 0) <;> decide
  rw [rv, valn_lb, valn_lb, sg_sub _ hl, e, add_parts p q]
theorem plus_q {p q : Rat} {s m : Nat} (hp : Sz s p) (hq : Sz m q) (hs : s + m ≤ 400000) : Ev (fun k => rational_plus.f k (rep p).1 (rep p).2.1 (rep p).2.2 (rep q).1 (rep q).2.1 (rep q).2.2) (rep (p + q)) := by
  have lp := lb_sz hp
  have lq := lb_sz hq
  have m1 : Ev (fun k => nat_Mul.f k [(rep p).2.1, (rep q).2.2]) (lb (p.num.natAbs * q.den)) := by
    have h := Mul_two (U_lb p.num.natAbs) (U_lb q.den) (by omega)
    rw [valn_lb, valn_lb] at h; exact h
  have m2 : Ev (fun k => nat_Mul.f k [(rep q).2.1, (rep p).2.2]) (lb (q.num.natAbs * p.den)) := by
    have h := Mul_two (U_lb q.num.natAbs) (U_lb p.den) (by omega)
    rw [valn_lb, valn_lb] at h; exact h
  have m3 : Ev (fun k => nat_Mul.f k [(rep p).2.2, (rep q).2.2]) (lb (p.den * q.den)) := by
    have h := Mul_two (U_lb p.den) (U_lb q.den) (by omega)
    rw [valn_lb, valn_lb] at h; exact h
  have bx : p.num.natAbs * q.den < pw (s + m) := mul_pw' hp.1 hq.2
  have by' : q.num.natAbs * p.den < pw (s + m) := by rw [Nat.add_comm s m]; exact mul_pw' hq.1 hp.2
  have lx := lb_len_le bx
  have ly := lb_len_le by'
  have ld := lb_len_le (mul_pw' hp.2 hq.2)
  have e1 : (rep p).1 = decide (p.num < 0) := rfl
  have e2 : (rep q).1 = decide (q.num < 0) := rfl
  have hsame : decide (p.num < 0) = decide (q.num < 0) → rv (decide (p.num < 0)) (lb (p.num.natAbs * q.den + q.num.natAbs * p.den)) (lb (p.den * q.den)) = p + q := sum_same
  have hless := @sum_less p q
  have hmore := @sum_more p q
  refine Ev.bind m1 (Ev.bind m2 (Ev.bind m3 ?_))
  clear m1 m2 m3
  rw [e1, e2]
  generalize p.num.natAbs * q.den = x at *
  generalize q.num.natAbs * p.den = y at *
  generalize p.den * q.den = d at *
  generalize decide (p.num < 0) = a at *
  generalize decide (q.num < 0) = b at *
  generalize p + q = r at *
  have C : ∀ (g : Bool) (n : Nat), (lb n).length ≤ 1000000 → rv g (lb n) (lb d) = r → Ev (fun k => rational_canonical.f k g (lb n) (lb d)) (rep r) := by
    intro g n hn he
    rw [← he]; exact canonical_f (U_lb _) (U_lb _) hn (by omega)
  by_cases c : a = b
  · refine Ev_pos (by rw [c]; exact beq_self_eq_true b) ?_
    have ha := Add_two (U_lb x) (U_lb y) (by omega) (by omega)
    rw [valn_lb, valn_lb] at ha
    have hxy : (lb (x + y)).length ≤ 1000000 := Nat.le_trans (lb_len_le (m := s + m + 1) (by rw [pw_succ]; omega)) (by omega)
    exact Ev.bind ha (Ev.bind (C a (x + y) hxy (hsame c)) (Ev.now _))
  · refine Ev_neg (fun h => c (beq_iff_eq.mp h)) ?_
    have hc := Cmp_f (U_lb x) (U_lb y) (by omega) (by omega)
    rw [valn_lb, valn_lb] at hc
    refine Ev.bind hc ?_
    by_cases hlt : x < y
    · have hs := Sub_f (U_lb y) (U_lb x) (by omega) (by omega) (by rw [valn_lb, valn_lb]; omega)
      rw [valn_lb, valn_lb] at hs
      have hn : (lb (y - x)).length ≤ 1000000 := Nat.le_trans (lb_len_le (m := s + m) (by omega)) (by omega)
      exact Ev_pos (by unfold cmpn; rw [if_pos hlt]; decide) (Ev.bind hs (Ev.bind (C b (y - x) hn (hless c (by omega))) (Ev.now _)))
    · have hs := Sub_f (U_lb x) (U_lb y) (by omega) (by omega) (by rw [valn_lb, valn_lb]; omega)
      rw [valn_lb, valn_lb] at hs
      have hn : (lb (x - y)).length ≤ 1000000 := Nat.le_trans (lb_len_le (m := s + m) (by omega)) (by omega)
      exact Ev_neg (by unfold cmpn; rw [if_neg hlt]; split <;> decide) (Ev.bind hs (Ev.bind (C a (x - y) hn (hmore c (by omega))) (Ev.now _)))
end Go.Proofs.Ytecfdemglbfnoaa.Num
end
section
namespace Go.Proofs.Ytecfdemglbfnoaa.PT
open Go.RowKit Go.Proofs.YtecfdemglbfnoaaW.PrintWords Go.Proofs.YtecfdemglbfnoaaW.PrintLast Go.Proofs.YtecfdemglbfnoaaW.PrintMore
attribute [local go_sem] max2_int min2_int max_two min_two max_three min_three max_four min_four
set_option linter.unusedVariables false
set_option linter.unusedSimpArgs false
set_option maxHeartbeats 8000000
set_option maxRecDepth 100000
end Go.Proofs.Ytecfdemglbfnoaa.PT
end
section
namespace Go.Proofs.Ytecfdemglbfnoaa.Num
open Go.RowKit Go.Proofs.Ytecfdemglbfnoaa.PT Go.Proofs.YtecfdemglbfnoaaW.PrintWords Go.Proofs.YtecfdemglbfnoaaW.PrintLast Go.Proofs.YtecfdemglbfnoaaW.PrintMore
def sumq : List S67 → Rat
  | [] => 0
  | x :: l => v67 x + sumq l
theorem sumq_append (a b : List S67) : sumq (a ++ b) = sumq a + sumq b := by
  induction a with
  | nil => rw [List.nil_append, sumq, Rat.zero_add]
  | cons x a ih => rw [List.cons_append, sumq, sumq, ih, Rat.add_assoc]
theorem prodq_append (a b : List S67) : prodq (a ++ b) = prodq a * prodq b := by
  induction a with
  | nil => rw [List.nil_append, prodq, Rat.one_mul]
  | cons x a ih => rw [List.cons_append, prodq, prodq, ih, Rat.mul_assoc]
theorem Add02_l0 {m : Nat} {l : List S67} (hl : Ok67 m l) (hm : 1 ≤ m) (hn : l.length < 4611686018427387904) (n : Nat) : ∀ (i s : Nat) (p : Rat), i + n = l.length → Sz s p → 1 ≤ s → s + (m + 1) * n ≤ 400000 →
    Ev (fun k => rational_Add.l0 k l (l.length : Int) (i : Int) (rep p).1 (rep p).2.1 (rep p).2.2) (rep (p + sumq (l.drop i))) := by
  induction n with
  | zero =>
    intro i s p hi hp h1 hs
    rw [List.drop_eq_nil_of_le (by omega)]
    have c1 : ¬ ((i : Int) < (l.length : Int)) := by omega
    refine Ev_succ ?_
    simp only [rational_Add.l0]
    exact Ev_neg c1 (Ev_as (Ev.now _) (by rw [sumq, Rat.add_zero]))
  | succ n ih =>
    intro i s p hi hp h1 hs
    have hs' : s + m + 1 + (m + 1) * n ≤ 400000 := by rw [Nat.mul_succ] at hs; omega
    have hi' : i < l.length := by omega
    have c1 : (i : Int) < (l.length : Int) := by omega
    have c0 : (0 : Int) ≤ (i : Int) := by omega
    obtain ⟨u1, u2, l1, l2⟩ := hl _ (List.getElem_mem hi')
    have hq : Sz m (v67 l[i]) := Sz_rv u1 u2 l1 l2 hm
    have hd : l.drop i = l[i] :: l.drop (i + 1) := by rw [List.drop_eq_getElem_cons]
    have ht : Ev (fun k => rational_Trim.f k l[i].f0 l[i].f1 l[i].f2) (rep (v67 l[i])) := Trim02_f u1 u2 (by omega) (by omega)
    have hrd := rd67 hi'
    have hp' := plus_q hp hq (by omega)
    have step := ih (i + 1) (s + m + 1) (p + v67 l[i]) (by omega) (Sz_add hp hq h1) (by omega) (by omega)
    rw [hd, sumq, ← Rat.add_assoc]
    have wi : wrap64 ((i : Int) + 1) = ((i + 1 : Nat) : Int) := up i (by omega)
    refine Ev_succ ?_
    simp only [rational_Add.l0]
    refine Ev_pos c1 (Ev_pos c0 (Ev_pos c1 ?_))
    rw [hrd, wi]
    exact Ev.bind ht (Ev.bind hp' step)
theorem Add02_f {m : Nat} {l : List S67} (hl : Ok67 m l) (hm : 1 ≤ m) (hs : (m + 1) * l.length ≤ 399999) : Ev (fun k => rational_Add.f k l) (rep (sumq l)) := by
  have hn : l.length ≤ (m + 1) * l.length := Nat.le_mul_of_pos_left _ (by omega)
  have h := Add02_l0 hl hm (by omega) l.length 0 1 0 (by omega) (Sz_zero (by omega)) (by omega) (by omega)
  rw [rep_zero, Rat.zero_add] at h
  exact Ev.bind (Ev.now _) h
theorem Sz_sumq {m : Nat} {l : List S67} (hl : Ok67 m l) (hm : 1 ≤ m) : Sz ((m + 1) * l.length + 1) (sumq l) := by
  induction l with
  | nil => exact Sz_zero (by omega)
  | cons x l ih =>
    obtain ⟨u1, u2, l1, l2⟩ := hl x (List.mem_cons_self ..)
    have h1 : Sz m (v67 x) := Sz_rv u1 u2 l1 l2 hm
    have h2 := ih (fun y hy => hl y (List.mem_cons_of_mem _ hy))
    refine Sz_mono (Sz_add h1 h2 hm) ?_
    rw [List.length_cons, Nat.mul_succ]; omega
theorem Sz_prodq {m : Nat} {l : List S67} (hl : Ok67 m l) (hm : 1 ≤ m) : Sz (m * l.length + 1) (prodq l) := by
  induction l with
  | nil => exact Sz_mono Sz_one (by omega)
  | cons x l ih =>
    obtain ⟨u1, u2, l1, l2⟩ := hl x (List.mem_cons_self ..)
    have h1 : Sz m (v67 x) := Sz_rv u1 u2 l1 l2 hm
    have h2 := ih (fun y hy => hl y (List.mem_cons_of_mem _ hy))
    refine Sz_mono (Sz_mul h1 h2 hm) ?_
    rw [List.length_cons, Nat.mul_succ]; omega
end Go.Proofs.Ytecfdemglbfnoaa.Num
end
section
namespace Go.Proofs.Ytecfdemglbfnoaa.Num
open Go.RowKit Go.Proofs.Ytecfdemglbfnoaa.PT Go.Proofs.YtecfdemglbfnoaaW.PrintWords Go.Proofs.YtecfdemglbfnoaaW.PrintLast Go.Proofs.YtecfdemglbfnoaaW.PrintMore
theorem rAdd02_f {a b : S67} {m : Nat} (ha : U a.f1 ∧ U a.f2 ∧ a.f1.length ≤ m ∧ a.f2.length ≤ m) (hb : U b.f1 ∧ U b.f2 ∧ b.f1.length ≤ m ∧ b.f2.length ≤ m) (hm : 1 ≤ m) (hs : m ≤ 200000) :
    Ev (fun k => codewrightref02_Add.f k a.f0 a.f1 a.f2 b.f0 b.f1 b.f2) (rep (v67 a + v67 b)) := by
  have hp : Sz m (v67 a) := Sz_rv ha.1 ha.2.1 ha.2.2.1 ha.2.2.2 hm
  have hq : Sz m (v67 b) := Sz_rv hb.1 hb.2.1 hb.2.2.1 hb.2.2.2 hm
  have t1 : Ev (fun k => codewrightref02_Trim.f k a.f0 a.f1 a.f2) (rep (v67 a)) := rTrim02_f ha.1 ha.2.1 (by omega) (by omega)
  have t2 : Ev (fun k => codewrightref02_Trim.f k b.f0 b.f1 b.f2) (rep (v67 b)) := rTrim02_f hb.1 hb.2.1 (by omega) (by omega)
  refine Ev.bind t1 (Ev.bind t2 ?_)
  clear t1 t2
  generalize v67 a = p at *
  generalize v67 b = q at *
  have lp := lb_sz hp
  have lq := lb_sz hq
  have m1 : Ev (fun k => codewrightref01_Mul.f k (rep p).2.1 (rep q).2.2) (lb (p.num.natAbs * q.den)) := by
    have h := rMul_f (U_lb p.num.natAbs) (U_lb q.den) (by omega)
    rw [valn_lb, valn_lb] at h; exact h
  have m2 : Ev (fun k => codewrightref01_Mul.f k (rep q).2.1 (rep p).2.2) (lb (q.num.natAbs * p.den)) := by
    have h := rMul_f (U_lb q.num.natAbs) (U_lb p.den) (by omega)
    rw [valn_lb, valn_lb] at h; exact h
  have m3 : Ev (fun k => codewrightref01_Mul.f k (rep p).2.2 (rep q).2.2) (lb (p.den * q.den)) := by
    have h := rMul_f (U_lb p.den) (U_lb q.den) (by omega)
    rw [valn_lb, valn_lb] at h; exact h
  have bx : p.num.natAbs * q.den < pw (m + m) := mul_pw' hp.1 hq.2
  have by' : q.num.natAbs * p.den < pw (m + m) := mul_pw' hq.1 hp.2
  have lx := lb_len_le bx
  have ly := lb_len_le by'
  have ld := lb_len_le (mul_pw' hp.2 hq.2)
  have e1 : (rep p).1 = decide (p.num < 0) := rfl
  have e2 : (rep q).1 = decide (q.num < 0) := rfl
  have hsame : decide (p.num < 0) = decide (q.num < 0) → rv (decide (p.num < 0)) (lb (p.num.natAbs * q.den + q.num.natAbs * p.den)) (lb (p.den * q.den)) = p + q := sum_same
  have hless := @sum_less p q
  have hmore := @sum_more p q
  refine Ev.bind m1 (Ev.bind m2 (Ev.bind m3 ?_))
  clear m1 m2 m3
  rw [e1, e2]
  generalize p.num.natAbs * q.den = x at *
  generalize q.num.natAbs * p.den = y at *
  generalize p.den * q.den = d at *
  generalize decide (p.num < 0) = a at *
  generalize decide (q.num < 0) = b at *
  generalize p + q = r at *
  have C : ∀ (g : Bool) (n : Nat), (lb n).length ≤ 1000000 → rv g (lb n) (lb d) = r → Ev (fun k => codewrightref02_Make.f k g (lb n) (lb d)) (rep r) := by
    intro g n hn he
    rw [← he]; exact Make_f (U_lb _) (U_lb _) hn (by omega)
  by_cases c : a = b
  · refine Ev_pos (by rw [c]; exact beq_self_eq_true b) ?_
    have ha := rAdd_f (U_lb x) (U_lb y) (by omega) (by omega)
    rw [valn_lb, valn_lb] at ha
    have hxy : (lb (x + y)).length ≤ 1000000 := Nat.le_trans (lb_len_le (m := m + m + 1) (by rw [pw_succ]; omega)) (by omega)
    exact Ev.bind ha (Ev.bind (C a (x + y) hxy (hsame c)) (Ev.now _))
  · refine Ev_neg (fun h => c (beq_iff_eq.mp h)) ?_
    have hc := rCmp_f (U_lb x) (U_lb y) (by omega) (by omega)
    rw [valn_lb, valn_lb] at hc
    refine Ev.bind hc ?_
    by_cases hlt : x < y
    · have hs := rSub_f (U_lb y) (U_lb x) (by omega) (by rw [valn_lb, valn_lb]; omega)
      rw [valn_lb, valn_lb] at hs
      have hn : (lb (y - x)).length ≤ 1000000 := Nat.le_trans (lb_len_le (m := m + m) (by omega)) (by omega)
      exact Ev_neg (by unfold cmpn; rw [if_pos hlt]; decide) (Ev.bind hs (Ev.bind (C b (y - x) hn (hless c (by omega))) (Ev.now _)))
    · have hs := rSub_f (U_lb x) (U_lb y) (by omega) (by rw [valn_lb, valn_lb]; omega)
      rw [valn_lb, valn_lb] at hs
      have hn : (lb (x - y)).length ≤ 1000000 := Nat.le_trans (lb_len_le (m := m + m) (by omega)) (by omega)
      exact Ev_pos (by unfold cmpn; rw [if_neg hlt]; split <;> decide) (Ev.bind hs (Ev.bind (C a (x - y) hn (hmore c (by omega))) (Ev.now _)))
theorem rMul02_f {a b : S67} {m : Nat} (ha : U a.f1 ∧ U a.f2 ∧ a.f1.length ≤ m ∧ a.f2.length ≤ m) (hb : U b.f1 ∧ U b.f2 ∧ b.f1.length ≤ m ∧ b.f2.length ≤ m) (hm : 1 ≤ m) (hs : m ≤ 200000) :
    Ev (fun k => codewrightref02_Mul.f k a.f0 a.f1 a.f2 b.f0 b.f1 b.f2) (rep (v67 a * v67 b)) := by
  have hp : Sz m (v67 a) := Sz_rv ha.1 ha.2.1 ha.2.2.1 ha.2.2.2 hm
  have hq : Sz m (v67 b) := Sz_rv hb.1 hb.2.1 hb.2.2.1 hb.2.2.2 hm
  have t1 : Ev (fun k => codewrightref02_Trim.f k a.f0 a.f1 a.f2) (rep (v67 a)) := rTrim02_f ha.1 ha.2.1 (by omega) (by omega)
  have t2 : Ev (fun k => codewrightref02_Trim.f k b.f0 b.f1 b.f2) (rep (v67 b)) := rTrim02_f hb.1 hb.2.1 (by omega) (by omega)
  refine Ev.bind t1 (Ev.bind t2 ?_)
  clear t1 t2
  generalize v67 a = p at *
  generalize v67 b = q at *
  have lp := lb_sz hp
  have lq := lb_sz hq
  have m1 : Ev (fun k => codewrightref01_Mul.f k (rep p).2.1 (rep q).2.1) (lb (p.num.natAbs * q.num.natAbs)) := by
    have h := rMul_f (U_lb p.num.natAbs) (U_lb q.num.natAbs) (by omega)
    rw [valn_lb, valn_lb] at h; exact h
  have m3 : Ev (fun k => codewrightref01_Mul.f k (rep p).2.2 (rep q).2.2) (lb (p.den * q.den)) := by
    have h := rMul_f (U_lb p.den) (U_lb q.den) (by omega)
    rw [valn_lb, valn_lb] at h; exact h
  have b1 : (lb (p.num.natAbs * q.num.natAbs)).length ≤ 1000000 := Nat.le_trans (lb_len_le (mul_pw' hp.1 hq.1)) (by omega)
  have b2 : (lb (p.den * q.den)).length ≤ 1000000 := Nat.le_trans (lb_len_le (mul_pw' hp.2 hq.2)) (by omega)
  have hc := Make_f (neg := (rep p).1 != (rep q).1) (U_lb (p.num.natAbs * q.num.natAbs)) (U_lb (p.den * q.den)) b1 b2
  rw [mul_rv] at hc
  exact Ev.bind m1 (Ev.bind m3 (Ev.bind hc (Ev.now _)))
theorem rInt_f {x : Int} (h : I64 x) : Ev (fun k => codewrightref02_Int.f k x) (rep (divq x 1)) := Ev.bind (rOf02_f h ⟨by decide, by decide⟩) (Ev.now _)
theorem divq_zero : divq 0 1 = 0 := by rfl
theorem divq_one : divq 1 1 = 1 := by rfl
end Go.Proofs.Ytecfdemglbfnoaa.Num
end
section
namespace Go.Proofs.Ytecfdemglbfnoaa.Num
open Go.RowKit Go.Proofs.Ytecfdemglbfnoaa.PT Go.Proofs.YtecfdemglbfnoaaW.PrintWords Go.Proofs.YtecfdemglbfnoaaW.PrintLast Go.Proofs.YtecfdemglbfnoaaW.PrintMore
theorem Ok67_of {l : List S67} (hu : ∀ x ∈ l, U x.f1 ∧ U x.f2) {m : Nat} (h : (l.any fun x => decide (m < x.f1.length + x.f2.length)) = false) : Ok67 m l := by
  intro x hx
  have h1 := List.any_eq_false.mp h x hx
  rw [decide_eq_true_eq] at h1
  exact ⟨(hu x hx).1, (hu x hx).2, by omega, by omega⟩
theorem rAdd_q {p q : Rat} {s : Nat} (hp : Sz s p) (hq : Sz s q) (h1 : 1 ≤ s) (hs : s ≤ 200000) : Ev (fun k => codewrightref02_Add.f k (rep p).1 (rep p).2.1 (rep p).2.2 (rep q).1 (rep q).2.1 (rep q).2.2) (rep (p + q)) := by
  have h := rAdd02_f (a := ⟨(rep p).1, (rep p).2.1, (rep p).2.2⟩) (b := ⟨(rep q).1, (rep q).2.1, (rep q).2.2⟩) (ok_rep hp) (ok_rep hq) h1 hs
  rw [v67_rep, v67_rep] at h; exact h
theorem rMul_q {p q : Rat} {s : Nat} (hp : Sz s p) (hq : Sz s q) (h1 : 1 ≤ s) (hs : s ≤ 200000) : Ev (fun k => codewrightref02_Mul.f k (rep p).1 (rep p).2.1 (rep p).2.2 (rep q).1 (rep q).2.1 (rep q).2.2) (rep (p * q)) := by
  have h := rMul02_f (a := ⟨(rep p).1, (rep p).2.1, (rep p).2.2⟩) (b := ⟨(rep q).1, (rep q).2.1, (rep q).2.2⟩) (ok_rep hp) (ok_rep hq) h1 hs
  rw [v67_rep, v67_rep] at h; exact h
theorem lists_j1 {a b : List S67} (oa : Ok67 4 a) (ob : Ok67 4 b) (hn : a.length + b.length ≤ 16) : Ev (fun k => codewrightlaw02_RationalLists.j1 k a b (a ++ b) false) true := by
  have oab : Ok67 4 (a ++ b) := by
    intro x hx
    rcases List.mem_append.mp hx with h | h
    · exact oa x h
    · exact ob x h
  have la : (a ++ b).length = a.length + b.length := List.length_append
  have a1 := Add02_f oab (by omega) (by omega)
  have a2 := Add02_f oa (by omega) (by omega)
  have a3 := Add02_f ob (by omega) (by omega)
  have m1 := Mul02_f oab (by omega) (by omega)
  have m2 := Mul02_f oa (by omega) (by omega)
  have m3 := Mul02_f ob (by omega) (by omega)
  have sa : Sz 200 (sumq a) := Sz_mono (Sz_sumq oa (by omega)) (by omega)
  have sb : Sz 200 (sumq b) := Sz_mono (Sz_sumq ob (by omega)) (by omega)
  have pa : Sz 200 (prodq a) := Sz_mono (Sz_prodq oa (by omega)) (by omega)
  have pb : Sz 200 (prodq b) := Sz_mono (Sz_prodq ob (by omega)) (by omega)
  have r1 := rAdd_q sa sb (by omega) (by omega)
  have r2 := rMul_q pa pb (by omega) (by omega)
  rw [sumq_append] at a1
  rw [prodq_append] at m1
  have e1 := same_self (Sz_add sa sb (by omega)) (by omega)
  have e2 := same_self (Sz_mul pa pb (by omega)) (by omega)
  refine Ev_succ ?_
  simp only [codewrightlaw02_RationalLists.j1]
  exact Ev_neg (by decide) (Ev.bind a1 (Ev.bind a2 (Ev.bind a3 (Ev.bind r1 (Ev.bind e1 (Ev_pos rfl (Ev.bind m1 (Ev.bind m2 (Ev.bind m3 (Ev.bind r2 (Ev.bind e2 (Ev.now _))))))))))))
theorem lists_j0 {a b : List S67} (la : a.length < 2305843009213693952) (lb' : b.length < 2305843009213693952) (c : Bool) (h : c = true ∨ (Ok67 4 a ∧ Ok67 4 b)) : Ev (fun k => codewrightlaw02_RationalLists.j0 k a b c) true := by
  refine Ev_succ ?_
  simp only [codewrightlaw02_RationalLists.j0]
  cases c with
  | true => exact Ev_pos rfl (Ev.now _)
  | false =>
    obtain ⟨oa, ob⟩ := h.resolve_left (by decide)
    refine Ev_neg (by decide) ?_
    have w : wrap64 ((a.length : Int) + (b.length : Int)) = ((a.length + b.length : Nat) : Int) := by rw [w64 (by omega) (by omega)]; rfl
    rw [w]
    clear w
    by_cases hn : a.length + b.length > 16
    · exact Ev_pos (by omega) (Ev.now _)
    · have c1 : ([] : List S67).length + a.length < 2513169434916 := by rw [List.length_nil]; omega
      have c2 : ([] ++ a).length + b.length < 2513169434916 := by rw [List.nil_append]; omega
      have hj := lists_j1 oa ob (by omega)
      have z1 := Add02_f (l := []) (m := 1) (fun x hx => by cases hx) (by omega) (by simp)
      have z2 := Mul02_f (l := []) (m := 1) (fun x hx => by cases hx) (by omega) (by simp)
      rw [sumq] at z1
      rw [prodq] at z2
      have i1 := rInt_f (x := 0) ⟨by decide, by decide⟩
      have i2 := rInt_f (x := 1) ⟨by decide, by decide⟩
      rw [divq_zero] at i1
      rw [divq_one] at i2
      have e1 := same_self (q := 0) (m := 1) (Sz_zero (by omega)) (by omega)
      have e2 := same_self (q := 1) (m := 1) Sz_one (by omega)
      exact Ev_neg (by omega) (Ev.bind (Ev.now _) (Ev_pos c1 (Ev.bind (Ev.now _) (Ev_pos c2 (Ev.bind (Ev.now _) (Ev.bind z1 (Ev.bind i1 (Ev.bind e1 (Ev_pos rfl (Ev.bind z2 (Ev.bind i2 (Ev.bind e2 hj))))))))))))
theorem lists_f {a b : List S67} (la : a.length < 2305843009213693952) (lb' : b.length < 2305843009213693952) (ua : ∀ x ∈ a, U x.f1 ∧ U x.f2) (ub : ∀ x ∈ b, U x.f1 ∧ U x.f2)
    (ha : ∀ x ∈ a, x.f1.length < 2305843009213693952 ∧ x.f2.length < 2305843009213693952) (hb : ∀ x ∈ b, x.f1.length < 2305843009213693952 ∧ x.f2.length < 2305843009213693952) : Ev (fun k => codewrightlaw02_RationalLists.f k a b) true := by
  have g1 := long02_f 4 a (by omega) ha
  have g2 := long02_f 4 b (by omega) hb
  refine Ev.bind g1 ?_
  by_cases c : (a.any fun x => decide (4 < x.f1.length + x.f2.length)) = true
  · exact Ev_pos c (lists_j0 la lb' true (.inl rfl))
  · refine Ev_neg c (Ev.bind g2 (lists_j0 la lb' _ ?_))
    by_cases d : (b.any fun x => decide (4 < x.f1.length + x.f2.length)) = true
    · exact .inl d
    · exact .inr ⟨Ok67_of ua (Bool.eq_false_iff.mpr c), Ok67_of ub (Bool.eq_false_iff.mpr d)⟩
end Go.Proofs.Ytecfdemglbfnoaa.Num
namespace Go.Proofs.Ytecfdemglbfnoaa.Pure
open Go.RowKit Go.Proofs.Ytecfdemglbfnoaa.PT Go.Proofs.Ytecfdemglbfnoaa.Num
theorem u32_U {l : List Int} (h : ∀ x ∈ l, IntKind.u32.min ≤ x ∧ x ≤ IntKind.u32.max) : U l := by
  intro x hx
  have h1 := h x hx
  have e1 : IntKind.u32.min = 0 := rfl
  have e2 : IntKind.u32.max = 4294967295 := rfl
  omega
abbrev QL67 (l : List S67) : Prop := l.length * 56 ≤ reachBytes ∧ ∀ x ∈ l, (True ∧ (x.f1.length * 4 ≤ reachBytes ∧ ∀ y ∈ x.f1, IntKind.u32.min ≤ y ∧ y ≤ IntKind.u32.max) ∧ (x.f2.length * 4 ≤ reachBytes ∧ ∀ y ∈ x.f2, IntKind.u32.min ≤ y ∧ y ≤ IntKind.u32.max))
theorem QL67_U {l : List S67} (h : QL67 l) : ∀ x ∈ l, U x.f1 ∧ U x.f2 := fun x hx => ⟨u32_U (h.2 x hx).2.1.2, u32_U (h.2 x hx).2.2.2⟩
theorem QL67_len {l : List S67} (h : QL67 l) : l.length < 2305843009213693952 ∧ ∀ x ∈ l, x.f1.length < 2305843009213693952 ∧ x.f2.length < 2305843009213693952 := by
  have hR : reachBytes = 140737488351232 := rfl
  exact ⟨by have := h.1; omega, fun x hx => ⟨by have := (h.2 x hx).2.1.1; omega, by have := (h.2 x hx).2.2.1; omega⟩⟩
theorem RationalLists (l : List S67) (h : QL67 l) (m : List S67) (h' : QL67 m) : ∃ k, codewrightlaw02_RationalLists.f k l m = some true :=
  (lists_f (QL67_len h).1 (QL67_len h').1 (QL67_U h) (QL67_U h') (QL67_len h).2 (QL67_len h').2).rounds
end Go.Proofs.Ytecfdemglbfnoaa.Pure
end
section
namespace Go.Proofs.Ytecfdemglbfnoaa.Open
open Go.ChangeShapes Go.WideShapes Go.Deep Go.Proofs.YtecfdemglbfnoaaW.PrintWords
section
variable {H : Type} (enc : TypeId × Value → H) (P : Program) (W : World)
def Op {α : Type} (d : Kd α) (Q : α → Prop) (t : TypeId) : Prop :=
  ∀ (fuel : Nat) (cs : List Value) (x : DataW H × List MemPlace), DataW.trod enc P W 0 (fun _ => true) true fuel t cs = some x → (∀ n ∈ x.1.weights P t, n ≤ reachBytes) → ∃ y, d.K W y cs ∧ Q y
end
section
variable {H : Type} {enc : TypeId × Value → H} {P : Program} {W : World}
theorem op_int {t : TypeId} {k : IntKind} (ht : P.underlying t = some (.int k)) : Op enc P W (Kd.int k) (fun n => k.min ≤ n ∧ n ≤ k.max) t := by
  intro fuel cs x h _
  obtain ⟨n, rfl, _, hw⟩ := DataW.trod_int ht h
  exact ⟨n, rfl, by simpa [Lit.wf] using hw⟩
theorem op_bool {t : TypeId} (ht : P.underlying t = some .bool) : Op enc P W Kd.bool (fun _ => True) t := by
  intro fuel cs x h _
  obtain ⟨n, rfl, _⟩ := DataW.trod_bool ht h
  exact ⟨n, rfl, trivial⟩
theorem mem_weightsAll {e : TypeId} {D : DataW H} : ∀ {l : List (DataW H)}, D ∈ l → ∀ n ∈ D.weights P e, n ∈ DataW.weightsAll P e l
  | d :: r, h, n, hn => by
    simp only [DataW.weightsAll, List.mem_append]
    rcases List.mem_cons.1 h with rfl | h
    · exact .inl hn
    · exact .inr (mem_weightsAll h n hn)
theorem op_slice {α : Type} {d : Kd α} {Q : α → Prop} {t e B : Nat} (ht : P.underlying t = some (.slice e)) (he : Op enc P W d Q e) (hc : P.cellsOf e = d.sz) (hB : P.bytesOf e = B) :
    Op enc P W (Kd.slice e d) (fun l => l.length * B ≤ reachBytes ∧ ∀ x ∈ l, Q x) t := by
  intro fuel cs x h hw
  rcases open_slice ht h with ⟨rfl, _⟩ | ⟨a, len, cap, m, n, D, Pl, rfl, _, hl, hm, hmm, rfl, hi⟩
  · exact ⟨[], ⟨none, 0, rfl, Nat.le_refl _, Kd.C_nil d W⟩, by simp, by simp⟩
  · simp only [if_true] at hmm
    subst hmm
    have hwl : ((DataW.slice ((List.range len).map D) ((List.range (m - len)).map fun j => D (len + j))).weights P t) = ((List.range len).map D).length.add ((List.range (m - len)).map fun j => D (len + j)).length * P.bytesOf e :: (DataW.weightsAll P e ((List.range len).map D) ++ DataW.weightsAll P e ((List.range (m - len)).map fun j => D (len + j))) := by
      simp only [DataW.weights, ht]; rfl
    rw [hwl] at hw
    have each : ∀ i, i < len → ∃ y : α, (∃ cs', W.cells? 0 (a.add (i * P.cellsOf e)) (P.cellsOf e) = some cs' ∧ d.K W y cs') ∧ Q y := by
      intro i hlt
      obtain ⟨cs', h1, h2⟩ := hi i (by omega)
      obtain ⟨y, hK, hq⟩ := he _ _ _ h2 (fun n hn => hw n (List.mem_cons_of_mem _ (List.mem_append.2 (.inl (mem_weightsAll (List.mem_map.2 ⟨i, List.mem_range.2 hlt, rfl⟩) n hn)))))
      exact ⟨y, ⟨cs', h1, hK⟩, hq⟩
    have hf : ∃ f : Nat → Option α, ∀ i, i < len → ∃ y, f i = some y ∧ (∃ cs', W.cells? 0 (a.add (i * P.cellsOf e)) (P.cellsOf e) = some cs' ∧ d.K W y cs') ∧ Q y := by
      refine ⟨fun i => if h : i < len then some (Classical.choose (each i h)) else none, fun i hlt => ⟨_, dif_pos hlt, Classical.choose_spec (each i hlt)⟩⟩
    obtain ⟨f, hf⟩ := hf
    have hl1 : ((List.range len).filterMap f).length = len ∧ ∀ i, i < len → ((List.range len).filterMap f)[i]? = f i := by
      clear hw hwl each hi h hl hm
      induction len with
      | zero => simp
      | succ k ih =>
        obtain ⟨h1, h2⟩ := ih (fun i hi => hf i (by omega))
        obtain ⟨y, hy, _⟩ := hf k (by omega)
        rw [List.range_succ, List.filterMap_append]
        have e : List.filterMap f [k] = [y] := by simp [List.filterMap, hy]
        rw [e]
        refine ⟨by simp [h1], fun i hi => ?_⟩
        by_cases hk : i < k
        · rw [List.getElem?_append_left (by omega), h2 i hk]
        · obtain rfl : i = k := by omega
          rw [List.getElem?_append_right (by omega), h1]; simp [hy]
    refine ⟨(List.range len).filterMap f, ⟨some a, m, by rw [hl1.1], by rw [hl1.1]; exact hl, rfl, ?_, fun hp => ⟨a, rfl, fun j p hj => ?_⟩⟩, ?_, fun y hy => ?_⟩
    · rw [hl1.1]; unfold maxLen at hm; omega
    · have hjl : j < len := by have := (List.getElem?_eq_some_iff.1 hj).1; rw [hl1.1] at this; exact this
      obtain ⟨y, hy, ⟨cs', hc1, hK⟩, _⟩ := hf j hjl
      rw [hl1.2 j hjl, hy] at hj
      obtain rfl := Option.some.inj hj
      obtain ⟨_, hcl, hat⟩ := World.cells?_some hc1
      refine ⟨cs', d.K_len hK, hK, fun i u hu => ?_⟩
      have hil : i < P.cellsOf e := by have := (List.getElem?_eq_some_iff.1 hu).1; omega
      rw [← hc, ← Go.Deep.add_add]
      rw [hat i hil, hu]
    · have := hw _ (List.mem_cons_self ..)
      rw [hl1.1]
      have h3 : ((List.range len).map D).length.add ((List.range (m - len)).map fun j => D (len + j)).length = m := by simp; omega
      rw [h3, hB] at this
      exact Nat.le_trans (Nat.mul_le_mul_right _ hl) this
    · obtain ⟨i, hi1, hi2⟩ := List.mem_filterMap.1 hy
      obtain ⟨y', hy', _, hq⟩ := hf i (List.mem_range.1 hi1)
      rw [hy'] at hi2
      obtain rfl := Option.some.inj hi2
      exact hq
theorem op_iso {α β : Type} {d : Kd α} {Q : α → Prop} {t : TypeId} (f : β → α) (g : α → β) (hfg : ∀ x, f (g x) = x) (h : Op enc P W d Q t) : Op enc P W (Kd.iso d f) (fun y => Q (f y)) t := by
  intro fuel cs x hx hw
  obtain ⟨y, hK, hq⟩ := h fuel cs x hx hw
  exact ⟨g y, by show d.K W (f (g y)) cs; rw [hfg]; exact hK, by show Q (f (g y)); rw [hfg]; exact hq⟩
theorem take_split {cs : List Value} {a b : Nat} (h : cs.length = a + b) : cs = (cs.drop 0).take a ++ (cs.drop a).take b := by
  rw [List.drop_zero, List.take_of_length_le (l := cs.drop a) (by rw [List.length_drop]; omega), List.take_append_drop]
theorem op_triple {α β γ : Type} {a : Kd α} {b : Kd β} {c : Kd γ} {Qa : α → Prop} {Qb : β → Prop} {Qc : γ → Prop} {t : TypeId} {f0 f1 f2 : Field} (ht : P.underlying t = some (.struct #[f0, f1, f2])) (h0 : Op enc P W a Qa f0.type) (h1 : Op enc P W b Qb f1.type) (h2 : Op enc P W c Qc f2.type)
    (o0 : f0.offset = 0) (s0 : P.cellsOf f0.type = a.sz) (o1 : f1.offset = a.sz) (s1 : P.cellsOf f1.type = b.sz) (o2 : f2.offset = a.sz + b.sz) (s2 : P.cellsOf f2.type = c.sz) (st : P.cellsOf t = a.sz + (b.sz + c.sz)) :
    Op enc P W (Kd.pair a (Kd.pair b c)) (fun y => Qa y.1 ∧ Qb y.2.1 ∧ Qc y.2.2) t := by
  intro fuel cs x hx hw
  obtain ⟨xs, n, _, rfl, hcl, hlen, hf⟩ := DataW.trod_struct ht hx
  have hwl : ((DataW.agg (xs.map (·.1)) : DataW H).weights P t) = DataW.weightsEach P [f0.type, f1.type, f2.type] (xs.map (·.1)) := by
    simp only [DataW.weights, ht]; rfl
  rw [hwl] at hw
  obtain ⟨y0, y1, y2, rfl⟩ : ∃ y0 y1 y2, xs = [y0, y1, y2] := by
    match xs, hlen with
    | [y0, y1, y2], _ => exact ⟨y0, y1, y2, rfl⟩
  · have e0 := hf 0 f0 rfl
    have e1 := hf 1 f1 rfl
    have e2 := hf 2 f2 rfl
    rw [o0, s0] at e0
    rw [o1, s1] at e1
    rw [o2, s2] at e2
    simp only [List.map_cons, List.map_nil, DataW.weightsEach, List.mem_append] at hw
    obtain ⟨z0, k0, q0⟩ := h0 _ _ _ e0 (fun n hn => hw n (.inl hn))
    obtain ⟨z1, k1, q1⟩ := h1 _ _ _ e1 (fun n hn => hw n (.inr (.inl hn)))
    obtain ⟨z2, k2, q2⟩ := h2 _ _ _ e2 (fun n hn => hw n (.inr (.inr (.inl hn))))
    refine ⟨(z0, z1, z2), ⟨_, _, take_split (a := a.sz) (b := b.sz + c.sz) (by rw [hcl, st]), k0, _, _, ?_, k1, k2⟩, q0, q1, q2⟩
    rw [List.take_of_length_le (l := cs.drop a.sz) (by rw [List.length_drop, hcl, st]; omega)]
    have h4 := take_split (cs := cs.drop a.sz) (a := b.sz) (b := c.sz) (by rw [List.length_drop, hcl, st]; omega)
    rw [List.drop_zero, List.drop_drop] at h4
    exact h4
end
end Go.Proofs.Ytecfdemglbfnoaa.Open
end
