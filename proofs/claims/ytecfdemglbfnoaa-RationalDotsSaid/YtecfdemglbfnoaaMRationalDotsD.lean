/- Walks and plain facts for the law RationalDots, several texts in one: each theorem says what it shows; no condition beyond those that it names. -/
import Derived.Test.YtecfdemglbfnoaaMRationalDotsC
section
namespace Go.Proofs.Ytecfdemglbfnoaa.PT
open Go.RowKit Go.Proofs.YtecfdemglbfnoaaW.PrintWords Go.Proofs.YtecfdemglbfnoaaW.PrintLast Go.Proofs.YtecfdemglbfnoaaW.PrintMore
attribute [local go_sem] max2_int min2_int max_two min_two max_three min_three max_four min_four
set_option linter.unusedVariables false
set_option linter.unusedSimpArgs false
set_option maxHeartbeats 8000000
set_option maxRecDepth 100000
def codewrightref02_Mul.f (k : Nat) (a0_0 : Bool) (l0_1 : List Int) (l0_2 : List Int) (a1_0 : Bool) (l1_1 : List Int) (l1_2 : List Int) : Option (Bool × List Int × List Int) := (codewrightref02_Trim.f k a0_0 l0_1 l0_2).bind fun bt1773 => ((codewrightref02_Trim.f k a1_0 l1_1 l1_2).bind fun bt1780 => ((codewrightref01_Mul.f k bt1773.2.1 bt1780.2.1).bind fun t1787 => ((codewrightref01_Mul.f k bt1773.2.2 bt1780.2.2).bind fun t1790 => ((codewrightref02_Make.f k (bt1773.1 != bt1780.1) t1787 t1790).bind fun bt1793 => (some (bt1793.1, bt1793.2.1, bt1793.2.2))))))
def codewrightref02_Mul.T3 : Bool × List (List Nat × List Nat) := (true, [([], []), ([0], [0]), ([], []), ([2], [2]), ([1, 3], [1, 3]), ([], []), ([5], [5]), ([], []), ([7], [7]), ([6, 8], [6, 8]), ([], []), ([10], [10]), ([], []), ([12], [12]), ([11, 13, 9], [11, 13]), ([4, 9, 14, 14], [4, 9, 14]), ([15, 15, 0, 1, 2, 3, 4, 5, 6, 7, 8, 9, 10, 11, 12, 13, 14, 15], [15])])
def codewrightref02_Mul.B3 : List Nat := [0, 1, 0, 4, 15, 0, 32, 0, 128, 480, 0, 1024, 0, 4096, 16352, 32767, 65535]
theorem codewrightref02_Mul.tab3 : rtab .any (opsOf Try.f101 3) = codewrightref02_Mul.T3 := by kernel_rfl
theorem codewrightref02_Mul.bits3 : waitsOk codewrightref02_Mul.T3.2 codewrightref02_Mul.B3 = true := by kernel_rfl
theorem codewrightref02_Mul.calls (k : Nat) (a0_0 : Bool) (P0_1_ : Nat → Prop) (A0_1 : Option Addr) (c0_1 : Nat) (l0_1 : List Int) (P0_2_ : Nat → Prop) (A0_2 : Option Addr) (c0_2 : Nat) (l0_2 : List Int) (a1_0 : Bool) (P1_1_ : Nat → Prop) (A1_1 : Option Addr) (c1_1 : Nat) (l1_1 : List Int) (P1_2_ : Nat → Prop) (A1_2 : Option Addr) (c1_2 : Nat) (l1_2 : List Int) (r1 : Bool) (r2 : List Int) (r3 : List Int) (w : World) (hs0_1 : Kd.V (Kd.int .u32) 48 w w.heap.size (fun k_ => P0_1_ k_) (.slice A0_1 l0_1.length c0_1) l0_1) (hs0_2 : Kd.V (Kd.int .u32) 48 w w.heap.size (fun k_ => P0_2_ k_) (.slice A0_2 l0_2.length c0_2) l0_2) (hs1_1 : Kd.V (Kd.int .u32) 48 w w.heap.size (fun k_ => P1_1_ k_) (.slice A1_1 l1_1.length c1_1) l1_1) (hs1_2 : Kd.V (Kd.int .u32) 48 w w.heap.size (fun k_ => P1_2_ k_) (.slice A1_2 l1_2.length c1_2) l1_2) (h : codewrightref02_Mul.f k a0_0 l0_1 l0_2 a1_0 l1_1 l1_2 = some (r1, r2, r3)) :
 Calls Try.prog 101 #[.agg #[.bool a0_0, .slice A0_1 l0_1.length c0_1, .slice A0_2 l0_2.length c0_2], .agg #[.bool a1_0, .slice A1_1 l1_1.length c1_1, .slice A1_2 l1_2.length c1_2]] w fun e w' => ∃ v1_ v2_ : Value, e = .returned (.agg #[.bool r1, v1_, v2_]) ∧ Kd.V (Kd.int .u32) 48 w' w.heap.size (fun k_ => ((P0_1_ k_ ∨ P0_2_ k_ ∨ P1_1_ k_ ∨ P1_2_ k_) ∨ w.heap.size ≤ k_)) v1_ r2 ∧ Kd.V (Kd.int .u32) 48 w' w.heap.size (fun k_ => ((P0_1_ k_ ∨ P0_2_ k_ ∨ P1_1_ k_ ∨ P1_2_ k_) ∨ w.heap.size ≤ k_)) v2_ r3 ∧ Below w.heap.size w w' := by
 have ck := Try.underlying67
 have al := am (show Kd.V (Kd.int .u32) 48 w w.heap.size (fun k_ => ((P0_1_ k_ ∨ P0_2_ k_ ∨ P1_1_ k_ ∨ P1_2_ k_) ∨ w.heap.size ≤ k_)) (.slice A0_1 l0_1.length c0_1) l0_1 from Kd.V_mono hs0_1 (fun k_ hk => .inl (.inl hk)))
 have an := am (show Kd.V (Kd.int .u32) 48 w w.heap.size (fun k_ => ((P0_1_ k_ ∨ P0_2_ k_ ∨ P1_1_ k_ ∨ P1_2_ k_) ∨ w.heap.size ≤ k_)) (.slice A0_2 l0_2.length c0_2) l0_2 from Kd.V_mono hs0_2 (fun k_ hk => .inl (.inr (.inl hk))))
 have ao := am (show Kd.V (Kd.int .u32) 48 w w.heap.size (fun k_ => ((P0_1_ k_ ∨ P0_2_ k_ ∨ P1_1_ k_ ∨ P1_2_ k_) ∨ w.heap.size ≤ k_)) (.slice A1_1 l1_1.length c1_1) l1_1 from Kd.V_mono hs1_1 (fun k_ hk => .inl (.inr (.inr (.inl hk)))))
 have ap := am (show Kd.V (Kd.int .u32) 48 w w.heap.size (fun k_ => ((P0_1_ k_ ∨ P0_2_ k_ ∨ P1_1_ k_ ∨ P1_2_ k_) ∨ w.heap.size ≤ k_)) (.slice A1_2 l1_2.length c1_2) l1_2 from Kd.V_mono hs1_2 (fun k_ hk => .inl (.inr (.inr (.inr hk)))))
 have HB := am (Below.refl w.heap.size w)
 have H : ((codewrightref02_Trim.f k a0_0 l0_1 l0_2).bind fun aQ => ((codewrightref02_Trim.f k a1_0 l1_1 l1_2).bind fun aR => ((codewrightref01_Mul.f k aQ.2.1 aR.2.1).bind fun aO => ((codewrightref01_Mul.f k aQ.2.2 aR.2.2).bind fun aP => ((codewrightref02_Make.f k (aQ.1 != aR.1) aO aP).bind fun aS => (some (aS.1, aS.2.1, aS.2.2))))))) = some (r1, r2, r3) := h
 clear h
 obtain ⟨⟨aL, aF, aG⟩, A3, H⟩ := bs H
 (try dsimp -simprocs only at H)
 obtain ⟨⟨az, aw, aA⟩, A4, H⟩ := bs H
 (try dsimp -simprocs only at H)
 obtain ⟨aO, A5, H⟩ := bs H
 (try dsimp -simprocs only at H)
 obtain ⟨aP, A6, H⟩ := bs H
 (try dsimp -simprocs only at H)
 obtain ⟨⟨a1, a2, a3⟩, A7, H⟩ := bs H
 (try dsimp -simprocs only at H)
 simp only [Option.some.injEq, Prod.mk.injEq] at H
 obtain ⟨rfl, rfl, rfl⟩ := H
 go_enter Try.func101, Try.ntmps101
 try go_wp2_with (first | ((with_reducible refine gate_dst (N := 2) rfl ?_); refine box_event ?hg (N := 2) ?hd (cs := #[.bool a0_0, .slice A0_1 l0_1.length c0_1, .slice A0_2 l0_2.length c0_2]) (t := 67) ?hr ?_; (case hd => rfl); (case hg => rfl); (case hr => first | (go_simp; done) | (go_simp; rfl)); intro ae hg w8 hbox hb; replace al := ke al hg hb; replace an := ke an hg hb; replace ao := ke ao hg hb; replace ap := ke ap hg hb; have ac := am (hbox); have bQ := ng hg (bu HB.out); have ai := ng hg (bu HB.out); replace HB := be HB hb; clear hb hbox hg) | ((with_reducible refine gate_dst (N := 3) rfl ?_); refine box_event ?hg (N := 3) ?hd (cs := #[.bool a1_0, .slice A1_1 l1_1.length c1_1, .slice A1_2 l1_2.length c1_2]) (t := 67) ?hr ?_; (case hd => rfl); (case hg => rfl); (case hr => first | (go_simp; done) | (go_simp; rfl)); intro aa hg w9 hbox hb; replace al := ke al hg hb; replace an := ke an hg hb; replace ao := ke ao hg hb; replace ap := ke ap hg hb; have ad := am (hbox); have bR := ng hg (bu1 HB.out ai.out); have aq := ng hg (bu1 HB.out ai.out); replace HB := be1 HB ai hb; have aC := nl hg ac; have aK := nr hg ac; replace ac := kb ac hb; clear hb hbox hg) | ((with_reducible refine gate_dst (N := 4) rfl ?_); refine box_event ?hg (N := 4) ?hd (cs := #[.bool false, .slice none 0 0, .slice none 0 0]) (t := 67) ?hr ?_; (case hd => rfl); (case hg => rfl); (case hr => first | (go_simp; done) | (go_simp; rfl)); intro ab hg cn hbox hb; replace al := ke al hg hb; replace an := ke an hg hb; replace ao := ke ao hg hb; replace ap := ke ap hg hb; have af := am (hbox); have bS := ng hg (bu2 HB.out ai.out aq.out); have av := ng hg (bu2 HB.out ai.out aq.out); replace HB := be2 HB ai aq hb; have ag := nl hg ac; have aB := nr hg ac; replace ac := kb ac hb; have ah := nl hg ad; have au := nr hg ad; replace ad := kb ad hb; clear hb hbox hg; have b6 := aC.out; have b7 := aK.out; have b8 := ag.out; have b9 := aB.out; obtain ⟨bn, bo, bp, bq, br, bv⟩ := bz ac) | ((with_reducible refine gate_callee (f := 88) rfl ?_); refine goesL_ (some 6) rfl rfl Try.func88 (by kernel_rfl) rfl #[.agg #[.bool a0_0, .slice A0_1 l0_1.length c0_1, .slice A0_2 l0_2.length c0_2]] rfl lu ?_; (with_reducible refine (codewrightref02_Trim.calls k a0_0 (fun k_ => (((((P0_1_ k_ ∨ P0_2_ k_ ∨ P1_1_ k_ ∨ P1_2_ k_) ∨ w.heap.size ≤ k_) ∧ k_ ≠ ae) ∧ k_ ≠ aa) ∧ k_ ≠ ab)) _ _ l0_1 (fun k_ => (((((P0_1_ k_ ∨ P0_2_ k_ ∨ P1_1_ k_ ∨ P1_2_ k_) ∨ w.heap.size ≤ k_) ∧ k_ ≠ ae) ∧ k_ ≠ aa) ∧ k_ ≠ ab)) _ _ l0_2 aL aF aG _ ?side1 ?side2 A3.out).mono ?_); (case side1 => exact vz al.out); (case side2 => exact vz an.out); rintro e cl ⟨ca, cb, rfl, aN, a4, hb⟩; refine ⟨_, rfl, ?_⟩; replace al := kv al hb; replace an := kv an hb; replace ao := kv ao hb; replace ap := kv ap hb; have aj := ar w.heap.size (ok' := fun k_ => ((P0_1_ k_ ∨ P0_2_ k_ ∨ P1_1_ k_ ∨ P1_2_ k_) ∨ w.heap.size ≤ k_) ∧ k_ ≠ ae ∧ k_ ≠ aa ∧ k_ ≠ ab) aN (fa (fz3 HB ai aq av) (fa (fb ac) (fa (fb ad) (fb af)))); have ak := ar w.heap.size (ok' := fun k_ => ((P0_1_ k_ ∨ P0_2_ k_ ∨ P1_1_ k_ ∨ P1_2_ k_) ∨ w.heap.size ≤ k_) ∧ k_ ≠ ae ∧ k_ ≠ aa ∧ k_ ≠ ab) a4 (fa (fz3 HB ai aq av) (fa (fb ac) (fa (fb ad) (fb af)))); replace ac := kb ac hb; replace ad := kb ad hb; replace af := kb af hb; replace HB := be3 HB ai aq av hb; (try clear hb); (try clear aN); (try clear a4); obtain ⟨bw, bx, bA, bB, bC, bD⟩ := bz ac; obtain ⟨aT, aU, bT⟩ := Kd.V_slice aj.out; subst bT; obtain ⟨aV, aW, bU⟩ := Kd.V_slice ak.out; subst bU) | ((with_reducible refine gate_store (t := 67) (p := 2) rfl ?_); refine store_event (t := 67) (p := 2) (v := ?vo_w18) (w1 := (((cl.setCell ⟨ae, 0, none⟩ (.bool aL)).setCell ⟨ae, 1, none⟩ (.slice aT aF.length aU)).setCell ⟨ae, 2, none⟩ (.slice aV aG.length aW))) ?hg ?ho ?hn ?hr ?_; (case ho => rfl); (case hg => rfl); (case hn => rfl); (case hr => first | (go_simp; done) | (go_simp; rfl)); intro a0 hw; have a7 : Aside0 (Kd.V (Kd.int .u32) 48 a0 w.heap.size (fun k_ => ((P0_1_ k_ ∨ P0_2_ k_ ∨ P1_1_ k_ ∨ P1_2_ k_) ∨ w.heap.size ≤ k_) ∧ k_ ≠ ae ∧ k_ ≠ aa ∧ k_ ≠ ab) (.slice A0_1 l0_1.length c0_1) l0_1) := ⟨(by rw [hw]; exact vf al.out)⟩; have a8 : Aside0 (Kd.V (Kd.int .u32) 48 a0 w.heap.size (fun k_ => ((P0_1_ k_ ∨ P0_2_ k_ ∨ P1_1_ k_ ∨ P1_2_ k_) ∨ w.heap.size ≤ k_) ∧ k_ ≠ ae ∧ k_ ≠ aa ∧ k_ ≠ ab) (.slice A0_2 l0_2.length c0_2) l0_2) := ⟨(by rw [hw]; exact vf an.out)⟩; have a9 : Aside0 (Kd.V (Kd.int .u32) 48 a0 w.heap.size (fun k_ => ((P0_1_ k_ ∨ P0_2_ k_ ∨ P1_1_ k_ ∨ P1_2_ k_) ∨ w.heap.size ≤ k_) ∧ k_ ≠ ae ∧ k_ ≠ aa ∧ k_ ≠ ab) (.slice A1_1 l1_1.length c1_1) l1_1) := ⟨(by rw [hw]; exact vf ao.out)⟩; have ba : Aside0 (Kd.V (Kd.int .u32) 48 a0 w.heap.size (fun k_ => ((P0_1_ k_ ∨ P0_2_ k_ ∨ P1_1_ k_ ∨ P1_2_ k_) ∨ w.heap.size ≤ k_) ∧ k_ ≠ ae ∧ k_ ≠ aa ∧ k_ ≠ ab) (.slice A1_2 l1_2.length c1_2) l1_2) := ⟨(by rw [hw]; exact vf ap.out)⟩; have bb : Aside0 (Kd.V (Kd.int .u32) 48 a0 w.heap.size (fun k_ => ((P0_1_ k_ ∨ P0_2_ k_ ∨ P1_1_ k_ ∨ P1_2_ k_) ∨ w.heap.size ≤ k_) ∧ k_ ≠ ae ∧ k_ ≠ aa ∧ k_ ≠ ab) (.slice aT aF.length aU) aF) := ⟨(by rw [hw]; exact vf aj.out)⟩; have bd : Aside0 (Kd.V (Kd.int .u32) 48 a0 w.heap.size (fun k_ => ((P0_1_ k_ ∨ P0_2_ k_ ∨ P1_1_ k_ ∨ P1_2_ k_) ∨ w.heap.size ≤ k_) ∧ k_ ≠ ae ∧ k_ ≠ aa ∧ k_ ≠ ab) (.slice aV aG.length aW) aG) := ⟨(by rw [hw]; exact vf ak.out)⟩; have bf : Aside0 (a0.heap[ae]? = some (.cells #[.bool aL, .slice aT aF.length aU, .slice aV aG.length aW] 67 (0, 0))) := ⟨(by rw [hw]; exact (kp ac.out))⟩; have bg : Aside0 (a0.heap[aa]? = some (.cells #[.bool a1_0, .slice A1_1 l1_1.length c1_1, .slice A1_2 l1_2.length c1_2] 67 (0, 0))) := ⟨(by rw [hw]; exact (kf aK.out ad.out))⟩; have bh : Aside0 (a0.heap[ab]? = some (.cells #[.bool false, .slice none 0 0, .slice none 0 0] 67 (0, 0))) := ⟨(by rw [hw]; exact (kf aB.out af.out))⟩; have bi : Aside0 (Below w.heap.size w a0) := ⟨(by rw [hw]; exact (bu3 HB.out ai.out aq.out av.out))⟩; clear hw al an ao ap aj ak ac ad af HB; have al := a7; have an := a8; have ao := a9; have ap := ba; have aj := bb; have ak := bd; have ac := bf; have ad := bg; have af := bh; have HB := bi; clear a7 a8 a9 ba bb bd bf bg bh bi; have cc := ah.out; have cd := au.out; obtain ⟨bE, bF, bG, bH, bI, bJ⟩ := bz ad) | ((with_reducible refine gate_callee (f := 88) rfl ?_); refine goesL_ (some 8) rfl rfl Try.func88 (by kernel_rfl) rfl #[.agg #[.bool a1_0, .slice A1_1 l1_1.length c1_1, .slice A1_2 l1_2.length c1_2]] rfl lu ?_; (with_reducible refine (codewrightref02_Trim.calls k a1_0 (fun k_ => (((P0_1_ k_ ∨ P0_2_ k_ ∨ P1_1_ k_ ∨ P1_2_ k_) ∨ w.heap.size ≤ k_) ∧ (k_ ≠ ae ∧ (k_ ≠ aa ∧ k_ ≠ ab)))) _ _ l1_1 (fun k_ => (((P0_1_ k_ ∨ P0_2_ k_ ∨ P1_1_ k_ ∨ P1_2_ k_) ∨ w.heap.size ≤ k_) ∧ (k_ ≠ ae ∧ (k_ ≠ aa ∧ k_ ≠ ab)))) _ _ l1_2 az aw aA _ ?side1 ?side2 A4.out).mono ?_); (case side1 => exact vz ao.out); (case side2 => exact vz ap.out); rintro e aX ⟨ce, cf, rfl, aN, a4, hb⟩; refine ⟨_, rfl, ?_⟩; replace al := kv al hb; replace an := kv an hb; replace ao := kv ao hb; replace ap := kv ap hb; replace aj := kv aj hb; replace ak := kv ak hb; have ax := ar w.heap.size (ok' := fun k_ => ((P0_1_ k_ ∨ P0_2_ k_ ∨ P1_1_ k_ ∨ P1_2_ k_) ∨ w.heap.size ≤ k_) ∧ k_ ≠ ae ∧ k_ ≠ aa ∧ k_ ≠ ab) aN (fa (fz3 HB ai aq av) (fa (fb ac) (fa (fb ad) (fb af)))); have ay := ar w.heap.size (ok' := fun k_ => ((P0_1_ k_ ∨ P0_2_ k_ ∨ P1_1_ k_ ∨ P1_2_ k_) ∨ w.heap.size ≤ k_) ∧ k_ ≠ ae ∧ k_ ≠ aa ∧ k_ ≠ ab) a4 (fa (fz3 HB ai aq av) (fa (fb ac) (fa (fb ad) (fb af)))); replace ac := kb ac hb; replace ad := kb ad hb; replace af := kb af hb; replace HB := be3 HB ai aq av hb; (try clear hb); (try clear aN); (try clear a4); obtain ⟨bK, bL, bM, bN, bO, bP⟩ := bz ad; obtain ⟨aD, aE, bV⟩ := Kd.V_slice ax.out; subst bV; obtain ⟨aH, aI, bW⟩ := Kd.V_slice ay.out; subst bW))
 have a7 : Aside0 (Kd.V (Kd.int .u32) 48 (((aX.setCell ⟨aa, 0, none⟩ (.bool az)).setCell ⟨aa, 1, none⟩ (.slice aD aw.length aE)).setCell ⟨aa, 2, none⟩ (.slice aH aA.length aI)) w.heap.size (fun k_ => ((P0_1_ k_ ∨ P0_2_ k_ ∨ P1_1_ k_ ∨ P1_2_ k_) ∨ w.heap.size ≤ k_) ∧ k_ ≠ ae ∧ k_ ≠ aa ∧ k_ ≠ ab) (.slice A0_1 l0_1.length c0_1) l0_1) := ⟨by exact vf al.out⟩
 have a8 : Aside0 (Kd.V (Kd.int .u32) 48 (((aX.setCell ⟨aa, 0, none⟩ (.bool az)).setCell ⟨aa, 1, none⟩ (.slice aD aw.length aE)).setCell ⟨aa, 2, none⟩ (.slice aH aA.length aI)) w.heap.size (fun k_ => ((P0_1_ k_ ∨ P0_2_ k_ ∨ P1_1_ k_ ∨ P1_2_ k_) ∨ w.heap.size ≤ k_) ∧ k_ ≠ ae ∧ k_ ≠ aa ∧ k_ ≠ ab) (.slice A0_2 l0_2.length c0_2) l0_2) := ⟨by exact vf an.out⟩
 have a9 : Aside0 (Kd.V (Kd.int .u32) 48 (((aX.setCell ⟨aa, 0, none⟩ (.bool az)).setCell ⟨aa, 1, none⟩ (.slice aD aw.length aE)).setCell ⟨aa, 2, none⟩ (.slice aH aA.length aI)) w.heap.size (fun k_ => ((P0_1_ k_ ∨ P0_2_ k_ ∨ P1_1_ k_ ∨ P1_2_ k_) ∨ w.heap.size ≤ k_) ∧ k_ ≠ ae ∧ k_ ≠ aa ∧ k_ ≠ ab) (.slice A1_1 l1_1.length c1_1) l1_1) := ⟨by exact vf ao.out⟩
 have ba : Aside0 (Kd.V (Kd.int .u32) 48 (((aX.setCell ⟨aa, 0, none⟩ (.bool az)).setCell ⟨aa, 1, none⟩ (.slice aD aw.length aE)).setCell ⟨aa, 2, none⟩ (.slice aH aA.length aI)) w.heap.size (fun k_ => ((P0_1_ k_ ∨ P0_2_ k_ ∨ P1_1_ k_ ∨ P1_2_ k_) ∨ w.heap.size ≤ k_) ∧ k_ ≠ ae ∧ k_ ≠ aa ∧ k_ ≠ ab) (.slice A1_2 l1_2.length c1_2) l1_2) := ⟨by exact vf ap.out⟩
 have bb : Aside0 (Kd.V (Kd.int .u32) 48 (((aX.setCell ⟨aa, 0, none⟩ (.bool az)).setCell ⟨aa, 1, none⟩ (.slice aD aw.length aE)).setCell ⟨aa, 2, none⟩ (.slice aH aA.length aI)) w.heap.size (fun k_ => ((P0_1_ k_ ∨ P0_2_ k_ ∨ P1_1_ k_ ∨ P1_2_ k_) ∨ w.heap.size ≤ k_) ∧ k_ ≠ ae ∧ k_ ≠ aa ∧ k_ ≠ ab) (.slice aT aF.length aU) aF) := ⟨by exact vf aj.out⟩
 have bd : Aside0 (Kd.V (Kd.int .u32) 48 (((aX.setCell ⟨aa, 0, none⟩ (.bool az)).setCell ⟨aa, 1, none⟩ (.slice aD aw.length aE)).setCell ⟨aa, 2, none⟩ (.slice aH aA.length aI)) w.heap.size (fun k_ => ((P0_1_ k_ ∨ P0_2_ k_ ∨ P1_1_ k_ ∨ P1_2_ k_) ∨ w.heap.size ≤ k_) ∧ k_ ≠ ae ∧ k_ ≠ aa ∧ k_ ≠ ab) (.slice aV aG.length aW) aG) := ⟨by exact vf ak.out⟩
 have bf : Aside0 (Kd.V (Kd.int .u32) 48 (((aX.setCell ⟨aa, 0, none⟩ (.bool az)).setCell ⟨aa, 1, none⟩ (.slice aD aw.length aE)).setCell ⟨aa, 2, none⟩ (.slice aH aA.length aI)) w.heap.size (fun k_ => ((P0_1_ k_ ∨ P0_2_ k_ ∨ P1_1_ k_ ∨ P1_2_ k_) ∨ w.heap.size ≤ k_) ∧ k_ ≠ ae ∧ k_ ≠ aa ∧ k_ ≠ ab) (.slice aD aw.length aE) aw) := ⟨by exact vf ax.out⟩
 have bg : Aside0 (Kd.V (Kd.int .u32) 48 (((aX.setCell ⟨aa, 0, none⟩ (.bool az)).setCell ⟨aa, 1, none⟩ (.slice aD aw.length aE)).setCell ⟨aa, 2, none⟩ (.slice aH aA.length aI)) w.heap.size (fun k_ => ((P0_1_ k_ ∨ P0_2_ k_ ∨ P1_1_ k_ ∨ P1_2_ k_) ∨ w.heap.size ≤ k_) ∧ k_ ≠ ae ∧ k_ ≠ aa ∧ k_ ≠ ab) (.slice aH aA.length aI) aA) := ⟨by exact vf ay.out⟩
 have bh : Aside0 ((((aX.setCell ⟨aa, 0, none⟩ (.bool az)).setCell ⟨aa, 1, none⟩ (.slice aD aw.length aE)).setCell ⟨aa, 2, none⟩ (.slice aH aA.length aI)).heap[ae]? = some (.cells #[.bool aL, .slice aT aF.length aU, .slice aV aG.length aW] 67 (0, 0))) := ⟨by (with_reducible repeat (first | refine blk_drewN ?_ _ | refine blk_drew ?_ | refine blk_alloc ?_ _)); refine blk_far ?_ aC.out _; (with_reducible repeat (first | refine blk_drewN ?_ _ | refine blk_drew ?_ | refine blk_alloc ?_ _)); refine blk_far ?_ aC.out _; (with_reducible repeat (first | refine blk_drewN ?_ _ | refine blk_drew ?_ | refine blk_alloc ?_ _)); refine blk_far ?_ aC.out _; (with_reducible repeat (first | refine blk_drewN ?_ _ | refine blk_drew ?_ | refine blk_alloc ?_ _)); exact ac.out⟩
 have bi : Aside0 ((((aX.setCell ⟨aa, 0, none⟩ (.bool az)).setCell ⟨aa, 1, none⟩ (.slice aD aw.length aE)).setCell ⟨aa, 2, none⟩ (.slice aH aA.length aI)).heap[aa]? = some (.cells #[.bool az, .slice aD aw.length aE, .slice aH aA.length aI] 67 (0, 0))) := ⟨by (with_reducible repeat (first | refine blk_drewN ?_ _ | refine blk_drew ?_ | refine blk_alloc ?_ _)); refine blk_put (cs := #[.bool az, .slice aD aw.length aE, .slice A1_2 l1_2.length c1_2]) ?_ 2 _ rfl; (with_reducible repeat (first | refine blk_drewN ?_ _ | refine blk_drew ?_ | refine blk_alloc ?_ _)); refine blk_put (cs := #[.bool az, .slice A1_1 l1_1.length c1_1, .slice A1_2 l1_2.length c1_2]) ?_ 1 _ rfl; (with_reducible repeat (first | refine blk_drewN ?_ _ | refine blk_drew ?_ | refine blk_alloc ?_ _)); refine blk_put (cs := #[.bool a1_0, .slice A1_1 l1_1.length c1_1, .slice A1_2 l1_2.length c1_2]) ?_ 0 _ rfl; (with_reducible repeat (first | refine blk_drewN ?_ _ | refine blk_drew ?_ | refine blk_alloc ?_ _)); exact ad.out⟩
 have a5 : Aside0 ((((aX.setCell ⟨aa, 0, none⟩ (.bool az)).setCell ⟨aa, 1, none⟩ (.slice aD aw.length aE)).setCell ⟨aa, 2, none⟩ (.slice aH aA.length aI)).heap[ab]? = some (.cells #[.bool false, .slice none 0 0, .slice none 0 0] 67 (0, 0))) := ⟨by (with_reducible repeat (first | refine blk_drewN ?_ _ | refine blk_drew ?_ | refine blk_alloc ?_ _)); refine blk_far ?_ au.out _; (with_reducible repeat (first | refine blk_drewN ?_ _ | refine blk_drew ?_ | refine blk_alloc ?_ _)); refine blk_far ?_ au.out _; (with_reducible repeat (first | refine blk_drewN ?_ _ | refine blk_drew ?_ | refine blk_alloc ?_ _)); refine blk_far ?_ au.out _; (with_reducible repeat (first | refine blk_drewN ?_ _ | refine blk_drew ?_ | refine blk_alloc ?_ _)); exact af.out⟩
 have a6 : Aside0 (Below w.heap.size w (((aX.setCell ⟨aa, 0, none⟩ (.bool az)).setCell ⟨aa, 1, none⟩ (.slice aD aw.length aE)).setCell ⟨aa, 2, none⟩ (.slice aH aA.length aI))) := ⟨by repeat (first | (with_reducible first | exact HB.out | apply below_alloc | apply pw_below_drewN | apply below_drew1 | refine below_set ?_ ai.out | refine below_set ?_ aq.out | refine below_set ?_ av.out) | exact HB.out)⟩
 (try clear al)
 (try clear an)
 (try clear ao)
 (try clear ap)
 (try clear aj)
 (try clear ak)
 (try clear ax)
 (try clear ay)
 (try clear ac)
 (try clear ad)
 (try clear af)
 (try clear HB)
 generalize (((aX.setCell ⟨aa, 0, none⟩ (.bool az)).setCell ⟨aa, 1, none⟩ (.slice aD aw.length aE)).setCell ⟨aa, 2, none⟩ (.slice aH aA.length aI)) = cm at a7 a8 a9 ba bb bd bf bg bh bi a5 a6 ⊢
 have al := a7
 have an := a8
 have ao := a9
 have ap := ba
 have aj := bb
 have ak := bd
 have ax := bf
 have ay := bg
 have ac := bh
 have ad := bi
 have af := a5
 have HB := a6
 clear a7 a8 a9 ba bb bd bf bg bh bi a5 a6
 replace al := am (Kd.V_drew al.out)
 replace an := am (Kd.V_drew an.out)
 replace ao := am (Kd.V_drew ao.out)
 replace ap := am (Kd.V_drew ap.out)
 replace aj := am (Kd.V_drew aj.out)
 replace ak := am (Kd.V_drew ak.out)
 replace ax := am (Kd.V_drew ax.out)
 replace ay := am (Kd.V_drew ay.out)
 replace ac := am (blk_drew ac.out)
 replace ad := am (blk_drew ad.out)
 replace af := am (blk_drew af.out)
 replace HB := am (below_drew1 HB.out)
 refine start_ (n := 17) (S := fun w' => w'.cell? ⟨ae, 0, none⟩ = some (.bool aL) ∧ w'.cell? ⟨ae, 1, none⟩ = some (.slice aT aF.length aU) ∧ w'.cell? ⟨ae, 2, none⟩ = some (.slice aV aG.length aW) ∧ w'.cell? ⟨aa, 0, none⟩ = some (.bool az) ∧ w'.cell? ⟨aa, 1, none⟩ = some (.slice aD aw.length aE) ∧ w'.cell? ⟨aa, 2, none⟩ = some (.slice aH aA.length aI)) (ds := []) #[false, false, false, false, false, false, false, false, false, false, false, false, false, false, false, false, false] (by kernel_rfl) rfl rfl ⟨bc ac 0, bc ac 1, bc ac 2, bc ad 0, bc ad 1, bc ad 2⟩ (fun hHeld => ?_); refine with_tabW codewrightref02_Mul.tab3 codewrightref02_Mul.bits3 (fun HT_ HW_ => ?_)
 generalize cm.drew = co at al an ao ap aj ak ax ay ac ad af HB hHeld ⊢
 refine pq 0 (some 9) #[true, false, false, false, false, false, false, false, false, false, false, false, false, false, false, false, false] HT_ ?_
 refine pq 2 (some 11) #[true, false, true, false, false, false, false, false, false, false, false, false, false, false, false, false, false] HT_ ?_
 refine pq 5 (some 14) #[true, false, true, false, false, true, false, false, false, false, false, false, false, false, false, false, false] HT_ ?_
 refine pq 7 (some 16) #[true, false, true, false, false, true, false, true, false, false, false, false, false, false, false, false, false] HT_ ?_
 refine pq 10 (some 19) #[true, false, true, false, false, true, false, true, false, false, true, false, false, false, false, false, false] HT_ ?_
 refine pq 12 (some 21) #[true, false, true, false, false, true, false, true, false, false, true, false, true, false, false, false, false] HT_ ?_
 refine tq 1 (some 10) #[true, true, true, false, false, true, false, true, false, false, true, false, true, false, false, false, false] HT_ HW_ hHeld ?_
 refine tq 3 (some 12) #[true, true, true, true, false, true, false, true, false, false, true, false, true, false, false, false, false] HT_ HW_ hHeld ?_
 refine pq 4 (some 13) #[true, true, true, true, true, true, false, true, false, false, true, false, true, false, false, false, false] HT_ ?_
 refine tq 6 (some 15) #[true, true, true, true, true, true, true, true, false, false, true, false, true, false, false, false, false] HT_ HW_ hHeld ?_
 refine tq 8 (some 17) #[true, true, true, true, true, true, true, true, true, false, true, false, true, false, false, false, false] HT_ HW_ hHeld ?_
 refine tq 11 (some 20) #[true, true, true, true, true, true, true, true, true, false, true, true, true, false, false, false, false] HT_ HW_ hHeld ?_
 refine tq 13 (some 22) #[true, true, true, true, true, true, true, true, true, false, true, true, true, true, false, false, false] HT_ HW_ hHeld ?_
 refine one_ (i := 9) (N := some 18) #[true, true, true, true, true, true, true, true, true, true, true, true, true, true, false, false, false] rfl rfl (one_of HT_.out (by kernel_rfl)) (by decide) (fun K hK => ?_)
 refine goes_ Try.func57 (by kernel_rfl) rfl #[.slice aT aF.length aU, .slice aD aw.length aE] (by rfl) rfl rfl lu ?_
 with_reducible refine (codewrightref01_Mul.calls k _ _ aF _ _ aw aO _ ?side1 ?side2 ?side3 ?side4 A5.out).mono ?_
 (case side1 => exact cu (Kd.V_reads' aj.out).2.2)
 (case side2 => exact (Kd.V_reads' aj.out).2.1)
 (case side3 => exact cu (Kd.V_reads' ax.out).2.2)
 (case side4 => exact (Kd.V_reads' ax.out).2.1)
 rintro e cp ⟨cg, rfl, aN, hb⟩
 refine ⟨_, rfl, ?_⟩
 replace aN := R_V_base rfl aN
 replace al := kv al hb
 replace an := kv an hb
 replace ao := kv ao hb
 replace ap := kv ap hb
 replace aj := kv aj hb
 replace ak := kv ak hb
 replace ax := kv ax hb
 replace ay := kv ay hb
 have aJ := ar0 w.heap.size (ok' := fun k_ => ((P0_1_ k_ ∨ P0_2_ k_ ∨ P1_1_ k_ ∨ P1_2_ k_) ∨ w.heap.size ≤ k_) ∧ k_ ≠ ae ∧ k_ ≠ aa ∧ k_ ≠ ab) aN (fa (fz3 HB ai aq av) (fa (fb ac) (fa (fb ad) (fb af))))
 replace ac := kb ac hb
 replace ad := kb ad hb
 replace af := kb af hb
 replace HB := be3 HB ai aq av hb
 (try clear hb)
 (try clear hb2)
 (try clear hk)
 (try clear hi)
 (try clear aN)
 refine hK.out _ _ ⟨bc ac 0, bc ac 1, bc ac 2, bc ad 0, bc ad 1, bc ad 2⟩ (fun hHeld => ?_)
 clear hK K
 refine nq 18 ?_
 refine one_ (i := 14) (N := some 23) #[true, true, true, true, true, true, true, true, true, true, true, true, true, true, true, false, false] rfl rfl (one_of HT_.out (by kernel_rfl)) (by decide) (fun K hK => ?_)
 refine goes_ Try.func57 (by kernel_rfl) rfl #[.slice aV aG.length aW, .slice aH aA.length aI] (by rfl) rfl rfl lu ?_
 with_reducible refine (codewrightref01_Mul.calls k _ _ aG _ _ aA aP _ ?side1 ?side2 ?side3 ?side4 A6.out).mono ?_
 (case side1 => exact cu (Kd.V_reads' ak.out).2.2)
 (case side2 => exact (Kd.V_reads' ak.out).2.1)
 (case side3 => exact cu (Kd.V_reads' ay.out).2.2)
 (case side4 => exact (Kd.V_reads' ay.out).2.1)
 rintro e cq ⟨ch, rfl, aN, hb⟩
 refine ⟨_, rfl, ?_⟩
 replace aN := R_V_base rfl aN
 replace al := kv al hb
 replace an := kv an hb
 replace ao := kv ao hb
 replace ap := kv ap hb
 replace aj := kv aj hb
 replace ak := kv ak hb
 replace ax := kv ax hb
 replace ay := kv ay hb
 replace aJ := kv aJ hb
 have aM := ar0 w.heap.size (ok' := fun k_ => ((P0_1_ k_ ∨ P0_2_ k_ ∨ P1_1_ k_ ∨ P1_2_ k_) ∨ w.heap.size ≤ k_) ∧ k_ ≠ ae ∧ k_ ≠ aa ∧ k_ ≠ ab) aN (fa (fz3 HB ai aq av) (fa (fb ac) (fa (fb ad) (fb af))))
 replace ac := kb ac hb
 replace ad := kb ad hb
 replace af := kb af hb
 replace HB := be3 HB ai aq av hb
 (try clear hb)
 (try clear hb2)
 (try clear hk)
 (try clear hi)
 (try clear aN)
 obtain ⟨bX, bY, bj⟩ := Kd.V_slice aJ.out
 (first | subst bj | (injection bj with f1_ f2_ f3_; have f4_ := f1_.symm; have f5_ := f3_.symm; clear f1_ f2_ f3_; subst f4_; subst f5_))
 obtain ⟨bZ, b0, bk⟩ := Kd.V_slice aM.out
 (first | subst bk | (injection bk with f1_ f2_ f3_; have f4_ := f1_.symm; have f5_ := f3_.symm; clear f1_ f2_ f3_; subst f4_; subst f5_))
 refine hK.out _ _ ⟨bc ac 0, bc ac 1, bc ac 2, bc ad 0, bc ad 1, bc ad 2⟩ (fun hHeld => ?_)
 clear hK K
 refine nq 23 ?_
 refine one_ (i := 15) (N := some 24) #[true, true, true, true, true, true, true, true, true, true, true, true, true, true, true, true, false] rfl rfl (one_of HT_.out (by kernel_rfl)) (by decide) (fun K hK => ?_)
 refine goes_ Try.func80 (by kernel_rfl) rfl #[.bool (aL != az), .slice bX aO.length bY, .slice bZ aP.length b0] (by rfl) rfl rfl lu ?_
 with_reducible refine (codewrightref02_Make.calls k (aL != az) (fun k_ => (((P0_1_ k_ ∨ P0_2_ k_ ∨ P1_1_ k_ ∨ P1_2_ k_) ∨ w.heap.size ≤ k_) ∧ (k_ ≠ ae ∧ (k_ ≠ aa ∧ k_ ≠ ab)))) _ _ aO (fun k_ => (((P0_1_ k_ ∨ P0_2_ k_ ∨ P1_1_ k_ ∨ P1_2_ k_) ∨ w.heap.size ≤ k_) ∧ (k_ ≠ ae ∧ (k_ ≠ aa ∧ k_ ≠ ab)))) _ _ aP a1 a2 a3 _ ?side1 ?side2 A7.out).mono ?_
 (case side1 => exact vz aJ.out)
 (case side2 => exact vz aM.out)
 rintro e b1 ⟨ci, cj, rfl, aN, a4, hb⟩
 refine ⟨_, rfl, ?_⟩
 replace al := kv al hb
 replace an := kv an hb
 replace ao := kv ao hb
 replace ap := kv ap hb
 replace aj := kv aj hb
 replace ak := kv ak hb
 replace ax := kv ax hb
 replace ay := kv ay hb
 replace aJ := kv aJ hb
 replace aM := kv aM hb
 have aY := ar w.heap.size (ok' := fun k_ => ((P0_1_ k_ ∨ P0_2_ k_ ∨ P1_1_ k_ ∨ P1_2_ k_) ∨ w.heap.size ≤ k_) ∧ k_ ≠ ae ∧ k_ ≠ aa ∧ k_ ≠ ab) aN (fa (fz3 HB ai aq av) (fa (fb ac) (fa (fb ad) (fb af))))
 have aZ := ar w.heap.size (ok' := fun k_ => ((P0_1_ k_ ∨ P0_2_ k_ ∨ P1_1_ k_ ∨ P1_2_ k_) ∨ w.heap.size ≤ k_) ∧ k_ ≠ ae ∧ k_ ≠ aa ∧ k_ ≠ ab) a4 (fa (fz3 HB ai aq av) (fa (fb ac) (fa (fb ad) (fb af))))
 replace ac := kb ac hb
 replace ad := kb ad hb
 replace af := kb af hb
 replace HB := be3 HB ai aq av hb
 (try clear hb)
 (try clear hb2)
 (try clear hk)
 (try clear hi)
 (try clear aN)
 (try clear a4)
 obtain ⟨b2, b3, bl⟩ := Kd.V_slice aY.out
 (first | subst bl | (injection bl with f1_ f2_ f3_; have f4_ := f1_.symm; have f5_ := f3_.symm; clear f1_ f2_ f3_; subst f4_; subst f5_))
 obtain ⟨b4, b5, bm⟩ := Kd.V_slice aZ.out
 (first | subst bm | (injection bm with f1_ f2_ f3_; have f4_ := f1_.symm; have f5_ := f3_.symm; clear f1_ f2_ f3_; subst f4_; subst f5_))
 refine hK.out _ _ ⟨bc ac 0, bc ac 1, bc ac 2, bc ad 0, bc ad 1, bc ad 2⟩ (fun hHeld => ?_)
 clear hK K
 refine nq 24 ?_
 refine one_ (i := 16) (N := none) #[true, true, true, true, true, true, true, true, true, true, true, true, true, true, true, true, true] rfl rfl (one_of HT_.out (by kernel_rfl)) (by decide) (fun K hK => ?_)
 have hs32 : b1.cell? ⟨ab, 0, none⟩ = some (.bool false) := bc af 0
 have hfs32 := blk_frozen af.out 0
 have hns32_0 := ag.out
 have hns32_1 := ah.out
 have hms32_0 := aB.out
 have hms32_1 := au.out
 have hs34 : b1.cell? ⟨ab, 1, none⟩ = some (.slice none 0 0) := bc af 1
 have hfs34 := blk_frozen af.out 1
 have hns34_0 := ag.out
 have hns34_1 := ah.out
 have hms34_0 := aB.out
 have hms34_1 := au.out
 have hs36 : b1.cell? ⟨ab, 2, none⟩ = some (.slice none 0 0) := bc af 2
 have hfs36 := blk_frozen af.out 2
 have hns36_0 := ag.out
 have hns36_1 := ah.out
 have hms36_0 := aB.out
 have hms36_1 := au.out
 refine skip_ (w1 := ?_) (by rfl) rfl ?_ ?_
 rotate_left
 ·
  go_simp
  rfl
 refine hK.out _ _ ⟨((cell_far (p := ⟨ab, _, none⟩) ag.out _).trans (((cell_far (p := ⟨ab, _, none⟩) ag.out _).trans (((cell_far (p := ⟨ab, _, none⟩) ag.out _).trans (hHeld.1)))))), ((cell_far (p := ⟨ab, _, none⟩) ag.out _).trans (((cell_far (p := ⟨ab, _, none⟩) ag.out _).trans (((cell_far (p := ⟨ab, _, none⟩) ag.out _).trans (hHeld.2.1)))))), ((cell_far (p := ⟨ab, _, none⟩) ag.out _).trans (((cell_far (p := ⟨ab, _, none⟩) ag.out _).trans (((cell_far (p := ⟨ab, _, none⟩) ag.out _).trans (hHeld.2.2.1)))))), ((cell_far (p := ⟨ab, _, none⟩) ah.out _).trans (((cell_far (p := ⟨ab, _, none⟩) ah.out _).trans (((cell_far (p := ⟨ab, _, none⟩) ah.out _).trans (hHeld.2.2.2.1)))))), ((cell_far (p := ⟨ab, _, none⟩) ah.out _).trans (((cell_far (p := ⟨ab, _, none⟩) ah.out _).trans (((cell_far (p := ⟨ab, _, none⟩) ah.out _).trans (hHeld.2.2.2.2.1)))))), ((cell_far (p := ⟨ab, _, none⟩) ah.out _).trans (((cell_far (p := ⟨ab, _, none⟩) ah.out _).trans (((cell_far (p := ⟨ab, _, none⟩) ah.out _).trans (hHeld.2.2.2.2.2))))))⟩ (fun hHeld => ?_)
 clear hK K
 refine done_ (done_of HT_.out (by kernel_rfl)) ?_
 try go_wp2
 refine bodyPost_ret (results_cell_row rfl _ _ ab 67 #[.bool a1, .slice b2 a2.length b3, .slice b4 a3.length b5] (0, 0) _ rfl (kp af.out) Try.underlying67 rfl (by kernel_rfl)) rfl ?_
 exact ⟨_, _, by first | rfl | (simp [errW_none, errW_some] <;> rfl) | (simp [*, errW_none, errW_some] <;> rfl), by exact vf aY.out, by exact vf aZ.out, by repeat (first | (with_reducible first | exact HB.out | apply below_alloc | apply pw_below_drewN | apply below_drew1 | refine below_set ?_ ai.out | refine below_set ?_ aq.out | refine below_set ?_ av.out) | exact HB.out)⟩
mutual
def codewrightref02_Dot.l0 : Nat → List (S67) → List (S67) → Int → Bool → List Int → List Int → Option (Bool × List Int × List Int)
 | 0, _, _, _, _, _, _ => none
 | k + 1, x0, x1, x6, x1932000, x1932001, x1932002 => if x6 < (x0.length : Int) then (codewrightref02_Dot.j1 k x0 x1 x6 (decide (x6 < (x1.length : Int))) x1932000 x1932001 x1932002) else (codewrightref02_Dot.j1 k x0 x1 x6 false x1932000 x1932001 x1932002)
def codewrightref02_Dot.j1 : Nat → List (S67) → List (S67) → Int → Bool → Bool → List Int → List Int → Option (Bool × List Int × List Int)
 | 0, _, _, _, _, _, _, _ => none
 | k + 1, x0, x1, x6, x17, x1932000, x1932001, x1932002 => if x17 = true then (if 0 ≤ x6 then (if x6 < (x0.length : Int) then (if x6 < (x1.length : Int) then ((codewrightref02_Mul.f k ((rd_T67 x0 x6).f0) ((rd_T67 x0 x6).f1) ((rd_T67 x0 x6).f2) ((rd_T67 x1 x6).f0) ((rd_T67 x1 x6).f1) ((rd_T67 x1 x6).f2)).bind fun bt1934 => ((codewrightref02_Add.f k x1932000 x1932001 x1932002 bt1934.1 bt1934.2.1 bt1934.2.2).bind fun bt1941 => (codewrightref02_Dot.l0 k x0 x1 (wrap64 (x6 + 1)) bt1941.1 bt1941.2.1 bt1941.2.2))) else (none)) else (none)) else (none)) else (some (x1932000, x1932001, x1932002))
end
def codewrightref02_Dot.f (k : Nat) (l0 : List (S67)) (l1 : List (S67)) : Option (Bool × List Int × List Int) := (codewrightref02_Int.f k 0).bind fun bt1924 => (codewrightref02_Dot.l0 k l0 l1 0 bt1924.1 bt1924.2.1 bt1924.2.2)
def codewrightref02_Dot.T5 : Bool × List (List Nat × List Nat) := (true, [([], []), ([], []), ([], []), ([1, 2], [1, 2]), ([3], [3]), ([], []), ([], []), ([5, 6], [5, 6]), ([7], [7]), ([4, 8], [4, 8]), ([0, 9, 9], [0, 9]), ([10, 10, 0, 1, 2, 3, 4, 5, 6, 7, 8, 9, 10], [10])])
def codewrightref02_Dot.B5 : List Nat := [0, 0, 0, 6, 14, 0, 0, 96, 224, 510, 1023, 2047]
theorem codewrightref02_Dot.tab5 : rtab .any (opsOf Try.f103 5) = codewrightref02_Dot.T5 := by kernel_rfl
theorem codewrightref02_Dot.bits5 : waitsOk codewrightref02_Dot.T5.2 codewrightref02_Dot.B5 = true := by kernel_rfl
theorem codewrightref02_Dot.calls (k : Nat) (P0_ : Nat → Prop) (A0 : Option Addr) (c0 : Nat) (l0 : List (S67)) (P1_ : Nat → Prop) (A1 : Option Addr) (c1 : Nat) (l1 : List (S67)) (r1 : Bool) (r2 : List Int) (r3 : List Int) (w : World) (hs0 : Kd.V k67 67 w w.heap.size (fun k_ => P0_ k_) (.slice A0 l0.length c0) l0) (hs1 : Kd.V k67 67 w w.heap.size (fun k_ => P1_ k_) (.slice A1 l1.length c1) l1) (h : codewrightref02_Dot.f k l0 l1 = some (r1, r2, r3)) :
 Calls Try.prog 103 #[.slice A0 l0.length c0, .slice A1 l1.length c1] w fun e w' => ∃ v1_ v2_ : Value, e = .returned (.agg #[.bool r1, v1_, v2_]) ∧ Kd.V (Kd.int .u32) 48 w' w.heap.size (fun k_ => ((P0_ k_ ∨ P1_ k_) ∨ w.heap.size ≤ k_)) v1_ r2 ∧ Kd.V (Kd.int .u32) 48 w' w.heap.size (fun k_ => ((P0_ k_ ∨ P1_ k_) ∨ w.heap.size ≤ k_)) v2_ r3 ∧ Below w.heap.size w w' := by
 have cw := Try.underlying67
 have bo := am (show Kd.V k67 67 w w.heap.size (fun k_ => ((P0_ k_ ∨ P1_ k_) ∨ w.heap.size ≤ k_)) (.slice A0 l0.length c0) l0 from Kd.V_mono hs0 (fun k_ hk => .inl (.inl hk)))
 have bp := am (show Kd.V k67 67 w w.heap.size (fun k_ => ((P0_ k_ ∨ P1_ k_) ∨ w.heap.size ≤ k_)) (.slice A1 l1.length c1) l1 from Kd.V_mono hs1 (fun k_ hk => .inl (.inr hk)))
 have HB := am (Below.refl w.heap.size w)
 have H : ((codewrightref02_Int.f k 0).bind fun aO => (codewrightref02_Dot.l0 k l0 l1 0 aO.1 aO.2.1 aO.2.2)) = some (r1, r2, r3) := h
 clear h
 obtain ⟨⟨aR, aS, a3⟩, A3, H⟩ := bs H
 (try dsimp -simprocs only at H)
 have H' := am H
 clear H
 go_enter Try.func103, Try.ntmps103
 go_wp2_with (first | ((with_reducible refine gate_dst (N := 4) rfl ?_); (try (refine gate_guard (by rfl) ?_; dsimp only)); refine box_event ?hg (N := 4) ?hd (cs := #[.bool false, .slice none 0 0, .slice none 0 0]) (t := 67) ?hr ?_; (case hd => rfl); (case hg => rfl); (case hr => first | (go_simp; done) | (go_simp; rfl)); intro ak hg w4 hbox hb; replace bo := ke bo hg hb; replace bp := ke bp hg hb; have ag := am (hbox); have bZ := ng hg (bu HB.out); have al := ng hg (bu HB.out); replace HB := be HB hb; clear hb hbox hg) | ((with_reducible refine gate_callee (f := 99) rfl ?_); refine goesL_ (some 7) rfl rfl Try.func99 (by kernel_rfl) rfl #[.int .i64 0] rfl lu ?_; (with_reducible refine (codewrightref02_Int.calls k 0 aR aS a3 _ A3.out).mono ?_); rintro e w5 ⟨ch, ci, rfl, bm, bn, hb⟩; refine ⟨_, rfl, ?_⟩; replace bo := kv bo hb; replace bp := kv bp hb; have aH := ar0 w.heap.size (ok' := fun k_ => ((P0_ k_ ∨ P1_ k_) ∨ w.heap.size ≤ k_) ∧ k_ ≠ ak) bm (fa (fz1 HB al) (fb ag)); have aI := ar0 w.heap.size (ok' := fun k_ => ((P0_ k_ ∨ P1_ k_) ∨ w.heap.size ≤ k_) ∧ k_ ≠ ak) bn (fa (fz1 HB al) (fb ag)); replace ag := kb ag hb; replace HB := be1 HB al hb; (try clear hb); (try clear bm); (try clear bn)) | ((with_reducible refine gate_dst (N := 5) rfl ?_); (try (refine gate_guard (by rfl) ?_; dsimp only)); refine box_event ?hg (N := 5) ?hd (cs := #[.bool false, .slice none 0 0, .slice none 0 0]) (t := 67) ?hr ?_; (case hd => rfl); (case hg => rfl); (case hr => first | (go_simp; done) | (go_simp; rfl)); intro af hg w6 hbox hb; replace bo := ke bo hg hb; replace bp := ke bp hg hb; replace aH := ke aH hg hb; replace aI := ke aI hg hb; have aa := am (hbox); have b0 := ng hg (bu1 HB.out al.out); have ao := ng hg (bu1 HB.out al.out); replace HB := be1 HB al hb; have aj := nl hg ag; have an := nr hg ag; replace ag := kb ag hb; clear hb hbox hg; have cx := an.out; have cy := aj.out; obtain ⟨a4, a5, a6, a7, a8, a9⟩ := bz aa; obtain ⟨cj, ck, cz⟩ := Kd.V_slice aH.out; subst cz; obtain ⟨b1, b2, b3⟩ := Kd.V_slice aI.out; subst b3))
 go_loopg [6] k (fun kq v6 w' => ∃ (ab : Int) (ah : Bool) (ai : List Int) (ac : List Int) (u1932001 : Value) (u1932002 : Value), v6 = .int .i64 ab ∧ Aside0 (codewrightref02_Dot.l0 kq l0 l1 ab ah ai ac = some (r1, r2, r3)) ∧ Aside0 (kq ≤ k) ∧ Aside0 (Kd.V k67 67 w' w.heap.size (fun k_ => ((P0_ k_ ∨ P1_ k_) ∨ w.heap.size ≤ k_) ∧ k_ ≠ ak ∧ k_ ≠ af) (.slice A0 l0.length c0) l0) ∧ Aside0 (Kd.V k67 67 w' w.heap.size (fun k_ => ((P0_ k_ ∨ P1_ k_) ∨ w.heap.size ≤ k_) ∧ k_ ≠ ak ∧ k_ ≠ af) (.slice A1 l1.length c1) l1) ∧ Aside0 (Kd.V (Kd.int .u32) 48 w' w.heap.size (fun k_ => ((P0_ k_ ∨ P1_ k_) ∨ w.heap.size ≤ k_) ∧ k_ ≠ ak ∧ k_ ≠ af) u1932001 ai) ∧ Aside0 (Kd.V (Kd.int .u32) 48 w' w.heap.size (fun k_ => ((P0_ k_ ∨ P1_ k_) ∨ w.heap.size ≤ k_) ∧ k_ ≠ ak ∧ k_ ≠ af) u1932002 ac) ∧ Aside0 (w'.heap[ak]? = some (.cells #[.bool false, (.slice none 0 0), (.slice none 0 0)] 67 (0, 0))) ∧ Aside0 (w'.heap[af]? = some (.cells #[.bool ah, u1932001, u1932002] 67 (0, 0))) ∧ Aside0 (Below w.heap.size w w'))
 case atStart => exact ⟨(0), (aR), (aS), (a3), (.slice cj aS.length ck), (.slice b1 a3.length b2), (by first | rfl | (simp; done) | (simp [*]; done)), H', ⟨Nat.le_refl _⟩, ⟨by exact vf bo.out⟩, ⟨by exact vf bp.out⟩, ⟨by exact vf aH.out⟩, ⟨by exact vf aI.out⟩, ⟨by (with_reducible repeat (first | refine blk_drewN ?_ _ | refine blk_drew ?_ | refine blk_alloc ?_ _)); refine blk_far ?_ aj.out _; (with_reducible repeat (first | refine blk_drewN ?_ _ | refine blk_drew ?_ | refine blk_alloc ?_ _)); refine blk_far ?_ aj.out _; (with_reducible repeat (first | refine blk_drewN ?_ _ | refine blk_drew ?_ | refine blk_alloc ?_ _)); refine blk_far ?_ aj.out _; (with_reducible repeat (first | refine blk_drewN ?_ _ | refine blk_drew ?_ | refine blk_alloc ?_ _)); exact ag.out⟩, ⟨by (with_reducible repeat (first | refine blk_drewN ?_ _ | refine blk_drew ?_ | refine blk_alloc ?_ _)); refine blk_put (cs := #[.bool aR, .slice cj aS.length ck, .slice none 0 0]) ?_ 2 _ rfl; (with_reducible repeat (first | refine blk_drewN ?_ _ | refine blk_drew ?_ | refine blk_alloc ?_ _)); refine blk_put (cs := #[.bool aR, .slice none 0 0, .slice none 0 0]) ?_ 1 _ rfl; (with_reducible repeat (first | refine blk_drewN ?_ _ | refine blk_drew ?_ | refine blk_alloc ?_ _)); refine blk_put (cs := #[.bool false, .slice none 0 0, .slice none 0 0]) ?_ 0 _ rfl; (with_reducible repeat (first | refine blk_drewN ?_ _ | refine blk_drew ?_ | refine blk_alloc ?_ _)); exact aa.out⟩, ⟨by repeat (first | (with_reducible first | exact HB.out | apply below_alloc | apply pw_below_drewN | apply below_drew1 | refine below_set ?_ al.out | refine below_set ?_ ao.out) | exact HB.out)⟩⟩
 case round =>
  clear H'
  try clear c1
  try clear p2
  try clear c7
  try clear c9
  try clear c10
  try clear a4
  try clear a5
  try clear a6
  try clear a7
  try clear a8
  try clear a9
  obtain ⟨ab, ah, ai, ac, u1932001, u1932002, rfl, HA, HK1, aA, aB, ad, ae, ag, aa, HB⟩ := hrel
  cases gk with
  | zero => exact absurd HA.out (by simp [codewrightref02_Dot.l0])
  | succ k1 =>
   have H := HA.out
   clear HA
   simp only [codewrightref02_Dot.l0] at H
   have bq := am H
   clear H
   go_upto_region 3 with (fail)
   go_cut [17] (fun cA wc => ∃ (kq : Nat) (aJ : Bool), cA = .bool aJ ∧ Aside0 (codewrightref02_Dot.j1 kq l0 l1 ab aJ ah ai ac = some (r1, r2, r3)) ∧ Aside0 (kq ≤ k1) ∧ Aside0 (Kd.V k67 67 wc w.heap.size (fun k_ => ((P0_ k_ ∨ P1_ k_) ∨ w.heap.size ≤ k_) ∧ k_ ≠ ak ∧ k_ ≠ af) (.slice A0 l0.length c0) l0) ∧ Aside0 (Kd.V k67 67 wc w.heap.size (fun k_ => ((P0_ k_ ∨ P1_ k_) ∨ w.heap.size ≤ k_) ∧ k_ ≠ ak ∧ k_ ≠ af) (.slice A1 l1.length c1) l1) ∧ Aside0 (Kd.V (Kd.int .u32) 48 wc w.heap.size (fun k_ => ((P0_ k_ ∨ P1_ k_) ∨ w.heap.size ≤ k_) ∧ k_ ≠ ak ∧ k_ ≠ af) u1932001 ai) ∧ Aside0 (Kd.V (Kd.int .u32) 48 wc w.heap.size (fun k_ => ((P0_ k_ ∨ P1_ k_) ∨ w.heap.size ≤ k_) ∧ k_ ≠ ak ∧ k_ ≠ af) u1932002 ac) ∧ Aside0 (wc.heap[ak]? = some (.cells #[.bool false, (.slice none 0 0), (.slice none 0 0)] 67 (0, 0))) ∧ Aside0 (wc.heap[af]? = some (.cells #[.bool ah, u1932001, u1932002] 67 (0, 0))) ∧ Aside0 (Below w.heap.size w wc))
   case first =>
    have H := bq.out
    clear bq
    by_cases br : ab < (l0.length : Int)
    ·
     rw [if_pos br] at H
     have aG : decide (ab < (l0.length : Int)) = true := decide_eq_true br
     clear br
     (first | rw [aG] | rw [c12b1] | (simp only [i64_w, i32_w]; rw [aG]) | skip)
     have H' := am H
     clear H
     go_wp2
     go_meet
     case rel => exact ⟨_, (decide (ab < (l1.length : Int))), (by first | rfl | (simp; done) | (simp [*]; done)), H', ⟨by have := HK1.out; first | omega | exact Nat.le_refl _⟩, ⟨by (with_reducible repeat (first | apply Kd.V_alloc | apply Kd.V_drewN | apply Kd.V_drew)); exact aA.out⟩, ⟨by (with_reducible repeat (first | apply Kd.V_alloc | apply Kd.V_drewN | apply Kd.V_drew)); exact aB.out⟩, ⟨by (with_reducible repeat (first | apply Kd.V_alloc | apply Kd.V_drewN | apply Kd.V_drew)); exact ad.out⟩, ⟨by (with_reducible repeat (first | apply Kd.V_alloc | apply Kd.V_drewN | apply Kd.V_drew)); exact ae.out⟩, ⟨by (with_reducible repeat (first | refine blk_drewN ?_ _ | refine blk_drew ?_ | refine blk_alloc ?_ _)); exact ag.out⟩, ⟨by (with_reducible repeat (first | refine blk_drewN ?_ _ | refine blk_drew ?_ | refine blk_alloc ?_ _)); exact aa.out⟩, ⟨by repeat (first | (with_reducible first | exact HB.out | apply below_alloc | apply pw_below_drewN | apply below_drew1 | refine below_set ?_ al.out | refine below_set ?_ ao.out) | exact HB.out)⟩⟩
    ·
     rw [if_neg br] at H
     have aG : decide (ab < (l0.length : Int)) = false := decide_eq_false br
     clear br
     (first | rw [aG] | rw [c12b1] | (simp only [i64_w, i32_w]; rw [aG]) | skip)
     have H' := am H
     clear H
     go_wp2
     go_meet
     case rel => exact ⟨_, (false), (by first | rfl | (simp; done) | (simp [*]; done)), H', ⟨by have := HK1.out; first | omega | exact Nat.le_refl _⟩, ⟨by (with_reducible repeat (first | apply Kd.V_alloc | apply Kd.V_drewN | apply Kd.V_drew)); exact aA.out⟩, ⟨by (with_reducible repeat (first | apply Kd.V_alloc | apply Kd.V_drewN | apply Kd.V_drew)); exact aB.out⟩, ⟨by (with_reducible repeat (first | apply Kd.V_alloc | apply Kd.V_drewN | apply Kd.V_drew)); exact ad.out⟩, ⟨by (with_reducible repeat (first | apply Kd.V_alloc | apply Kd.V_drewN | apply Kd.V_drew)); exact ae.out⟩, ⟨by (with_reducible repeat (first | refine blk_drewN ?_ _ | refine blk_drew ?_ | refine blk_alloc ?_ _)); exact ag.out⟩, ⟨by (with_reducible repeat (first | refine blk_drewN ?_ _ | refine blk_drew ?_ | refine blk_alloc ?_ _)); exact aa.out⟩, ⟨by repeat (first | (with_reducible first | exact HB.out | apply below_alloc | apply pw_below_drewN | apply below_drew1 | refine below_set ?_ al.out | refine below_set ?_ ao.out) | exact HB.out)⟩⟩
   case rest =>
    clear bq
    try clear c1
    try clear p2
    try clear c7
    try clear c9
    try clear c10
    try clear br
    try clear aG
    try clear c12b1
    try clear a4
    try clear a5
    try clear a6
    try clear a7
    try clear a8
    try clear a9
    try clear p2
    obtain ⟨kq, aJ, rfl, HA, HJ10, aA, aB, ad, ae, ag, aa, HB⟩ := hcut
    cases kq with
    | zero => exact absurd HA.out (by simp [codewrightref02_Dot.j1])
    | succ kj10 =>
     have H := HA.out
     clear HA
     simp only [codewrightref02_Dot.j1] at H
     by_cases bJ : aJ = true
     ·
      subst bJ
      have H1 : (if 0 ≤ ab then (if ab < (l0.length : Int) then (if ab < (l1.length : Int) then ((codewrightref02_Mul.f kj10 ((rd_T67 l0 ab).f0) ((rd_T67 l0 ab).f1) ((rd_T67 l0 ab).f2) ((rd_T67 l1 ab).f0) ((rd_T67 l1 ab).f1) ((rd_T67 l1 ab).f2)).bind fun aP => ((codewrightref02_Add.f kj10 ah ai ac aP.1 aP.2.1 aP.2.2).bind fun aQ => (codewrightref02_Dot.l0 kj10 l0 l1 (wrap64 (ab + 1)) aQ.1 aQ.2.1 aQ.2.2))) else (none)) else (none)) else (none)) = some (r1, r2, r3) := by rw [if_pos rfl] at H; exact H
      clear H
      have H := H1
      clear H1
      by_cases bK : 0 ≤ ab
      ·
       rw [if_pos bK] at H
       have cl : decide (0 ≤ ab) = true := decide_eq_true bK
       clear bK
       by_cases bL : ab < (l0.length : Int)
       ·
        rw [if_pos bL] at H
        have cm : decide (ab < (l0.length : Int)) = true := decide_eq_true bL
        clear bL
        by_cases bM : ab < (l1.length : Int)
        ·
         rw [if_pos bM] at H
         have cn : decide (ab < (l1.length : Int)) = true := decide_eq_true bM
         clear bM
         obtain ⟨⟨ba, bb, bd⟩, cB, H⟩ := bs H
         (try dsimp -simprocs only at H)
         obtain ⟨⟨aT, aU, bf⟩, cC, H⟩ := bs H
         (try dsimp -simprocs only at H)
         have H' := am H
         clear H
         try go_wp2
         replace aA := am (Kd.V_drew aA.out)
         replace aB := am (Kd.V_drew aB.out)
         replace ad := am (Kd.V_drew ad.out)
         replace ae := am (Kd.V_drew ae.out)
         replace ag := am (blk_drew ag.out)
         replace aa := am (blk_drew aa.out)
         replace HB := am (below_drew1 HB.out)
         have p1932 : 0 ≤ (ab : Int) := of_decide_eq_true (by first | (with_reducible assumption) | assumption)
         have q1932 : ab < (l0.length : Int) := of_decide_eq_true (by first | (with_reducible assumption) | assumption)
         obtain ⟨ad1932, aV, aW, aX, aY, e1932, aM, aC, aD, hl1932_1, hi1932_1, hl1932_2, hi1932_2⟩ := at_T67 (Kd.V_reads' aA.out).2.2 ab p1932 q1932
         cases e1932
         obtain ⟨ce1932, hce1932, hMe1932, hcc1932⟩ := Kd.V_get aA.out z67 ab p1932 (by first | exact q1932 | exact of_decide_eq_true (by first | (with_reducible assumption) | assumption) | (have e_ := (Kd.V_reads' aA.out).1; omega))
         obtain ⟨ua1932_1, uc1932_1, ua1932_2, uc1932_2, rfl, ul1932_1, ge1932_1, ul1932_2, ge1932_2⟩ := k67_openF hMe1932
         have hv1932_1 := hcc1932 1 _ rfl
         rw [add_field _ _ 1 (by omega)] at hv1932_1
         replace hv1932_1 := Option.some.inj (hv1932_1.symm.trans aC)
         injection hv1932_1 with hva_ hvn_ hvc_
         rw [hva_] at ge1932_1
         rw [hvc_] at ul1932_1
         have ap := am (show Kd.V (Kd.int .u32) 48 _ w.heap.size _ _ ((rd_T67 l0 ab).f1) from Kd.V_mk ul1932_1 ge1932_1)
         clear hva_ hvn_ hvc_ ge1932_1 ul1932_1
         have hv1932_2 := hcc1932 2 _ rfl
         rw [add_field _ _ 2 (by omega)] at hv1932_2
         replace hv1932_2 := Option.some.inj (hv1932_2.symm.trans aD)
         injection hv1932_2 with hva_ hvn_ hvc_
         rw [hva_] at ge1932_2
         rw [hvc_] at ul1932_2
         have aq := am (show Kd.V (Kd.int .u32) 48 _ w.heap.size _ _ ((rd_T67 l0 ab).f2) from Kd.V_mk ul1932_2 ge1932_2)
         clear hva_ hvn_ hvc_ ge1932_2 ul1932_2
         clear hcc1932 hce1932
         have au := am hi1932_1
         have bv := am hl1932_1
         clear hi1932_1 hl1932_1
         have av := am hi1932_2
         have bw := am hl1932_2
         clear hi1932_2 hl1932_2
         replace p1932 := eq_true p1932
         replace q1932 := eq_true q1932
         have p1933 : 0 ≤ (ab : Int) := of_decide_eq_true (by first | (with_reducible assumption) | assumption)
         have q1933 : ab < (l1.length : Int) := of_decide_eq_true (by first | (with_reducible assumption) | assumption)
         obtain ⟨ad1933, aZ, a0, a1, a2, e1933, aN, aE, aF, hl1933_1, hi1933_1, hl1933_2, hi1933_2⟩ := at_T67 (Kd.V_reads' aB.out).2.2 ab p1933 q1933
         cases e1933
         obtain ⟨ce1933, hce1933, hMe1933, hcc1933⟩ := Kd.V_get aB.out z67 ab p1933 (by first | exact q1933 | exact of_decide_eq_true (by first | (with_reducible assumption) | assumption) | (have e_ := (Kd.V_reads' aB.out).1; omega))
         obtain ⟨ua1933_1, uc1933_1, ua1933_2, uc1933_2, rfl, ul1933_1, ge1933_1, ul1933_2, ge1933_2⟩ := k67_openF hMe1933
         have hv1933_1 := hcc1933 1 _ rfl
         rw [add_field _ _ 1 (by omega)] at hv1933_1
         replace hv1933_1 := Option.some.inj (hv1933_1.symm.trans aE)
         injection hv1933_1 with hva_ hvn_ hvc_
         rw [hva_] at ge1933_1
         rw [hvc_] at ul1933_1
         have aw := am (show Kd.V (Kd.int .u32) 48 _ w.heap.size _ _ ((rd_T67 l1 ab).f1) from Kd.V_mk ul1933_1 ge1933_1)
         clear hva_ hvn_ hvc_ ge1933_1 ul1933_1
         have hv1933_2 := hcc1933 2 _ rfl
         rw [add_field _ _ 2 (by omega)] at hv1933_2
         replace hv1933_2 := Option.some.inj (hv1933_2.symm.trans aF)
         injection hv1933_2 with hva_ hvn_ hvc_
         rw [hva_] at ge1933_2
         rw [hvc_] at ul1933_2
         have ax := am (show Kd.V (Kd.int .u32) 48 _ w.heap.size _ _ ((rd_T67 l1 ab).f2) from Kd.V_mk ul1933_2 ge1933_2)
         clear hva_ hvn_ hvc_ ge1933_2 ul1933_2
         clear hcc1933 hce1933
         have ay := am hi1933_1
         have bx := am hl1933_1
         clear hi1933_1 hl1933_1
         have az := am hi1933_2
         have bA := am hl1933_2
         clear hi1933_2 hl1933_2
         replace p1933 := eq_true p1933
         replace q1933 := eq_true q1933
         refine start_ (n := 12) (S := fun w' => w'.cell? ⟨af, 0, none⟩ = some (.bool ah) ∧ w'.cell? ⟨af, 1, none⟩ = some (u1932001) ∧ w'.cell? ⟨af, 2, none⟩ = some (u1932002) ∧ w'.cell? (ad1932.add ((ab).toNat * 3)) = some (.bool ((rd_T67 l0 ab).f0)) ∧ w'.cell? ⟨(ad1932.add ((ab).toNat * 3)).block, (ad1932.add ((ab).toNat * 3)).off + 1, none⟩ = some (.slice aV ((rd_T67 l0 ab).f1).length aW) ∧ w'.cell? ⟨(ad1932.add ((ab).toNat * 3)).block, (ad1932.add ((ab).toNat * 3)).off + 2, none⟩ = some (.slice aX ((rd_T67 l0 ab).f2).length aY) ∧ w'.cell? (ad1933.add ((ab).toNat * 3)) = some (.bool ((rd_T67 l1 ab).f0)) ∧ w'.cell? ⟨(ad1933.add ((ab).toNat * 3)).block, (ad1933.add ((ab).toNat * 3)).off + 1, none⟩ = some (.slice aZ ((rd_T67 l1 ab).f1).length a0) ∧ w'.cell? ⟨(ad1933.add ((ab).toNat * 3)).block, (ad1933.add ((ab).toNat * 3)).off + 2, none⟩ = some (.slice a1 ((rd_T67 l1 ab).f2).length a2)) (ds := [11]) #[false, false, false, false, false, false, false, false, false, false, false, false] (by kernel_rfl) rfl rfl ⟨bc aa 0, bc aa 1, bc aa 2, aM, aC, aD, aN, aE, aF⟩ (fun hHeld => ?_); refine with_tabW codewrightref02_Dot.tab5 codewrightref02_Dot.bits5 (fun HT_ HW_ => ?_)
         generalize wc.drew = cD at aA aB ad ae ag aa HB ap aq aw ax au av ay az aM aC aD aN aE aF hHeld ⊢
         refine pq 1 (some 21) #[false, true, false, false, false, false, false, false, false, false, false, false] HT_ ?_
         refine pq 2 (some 22) #[false, true, true, false, false, false, false, false, false, false, false, false] HT_ ?_
         refine pq 3 (some 23) #[false, true, true, true, false, false, false, false, false, false, false, false] HT_ ?_
         refine pq 5 (some 25) #[false, true, true, true, false, true, false, false, false, false, false, false] HT_ ?_
         refine pq 6 (some 26) #[false, true, true, true, false, true, true, false, false, false, false, false] HT_ ?_
         refine pq 7 (some 27) #[false, true, true, true, false, true, true, true, false, false, false, false] HT_ ?_
         refine tq 0 (some 20) #[true, true, true, true, false, true, true, true, false, false, false, false] HT_ HW_ hHeld ?_
         refine tq 4 (some 24) #[true, true, true, true, true, true, true, true, false, false, false, false] HT_ HW_ hHeld ?_
         refine tq 8 (some 28) #[true, true, true, true, true, true, true, true, true, false, false, false] HT_ HW_ hHeld ?_
         refine one_ (i := 9) (N := some 29) #[true, true, true, true, true, true, true, true, true, true, false, false] rfl rfl (one_of HT_.out (by kernel_rfl)) (by decide) (fun K hK => ?_)
         refine goes_ Try.func101 (by kernel_rfl) rfl #[.agg #[.bool ((rd_T67 l0 ab).f0), .slice aV ((rd_T67 l0 ab).f1).length aW, .slice aX ((rd_T67 l0 ab).f2).length aY], .agg #[.bool ((rd_T67 l1 ab).f0), .slice aZ ((rd_T67 l1 ab).f1).length a0, .slice a1 ((rd_T67 l1 ab).f2).length a2]] (by rfl) rfl rfl lu ?_
         with_reducible refine (codewrightref02_Mul.calls kj10 ((rd_T67 l0 ab).f0) (fun k_ => (((P0_ k_ ∨ P1_ k_) ∨ w.heap.size ≤ k_) ∧ (k_ ≠ ak ∧ k_ ≠ af))) _ _ ((rd_T67 l0 ab).f1) (fun k_ => (((P0_ k_ ∨ P1_ k_) ∨ w.heap.size ≤ k_) ∧ (k_ ≠ ak ∧ k_ ≠ af))) _ _ ((rd_T67 l0 ab).f2) ((rd_T67 l1 ab).f0) (fun k_ => (((P0_ k_ ∨ P1_ k_) ∨ w.heap.size ≤ k_) ∧ (k_ ≠ ak ∧ k_ ≠ af))) _ _ ((rd_T67 l1 ab).f1) (fun k_ => (((P0_ k_ ∨ P1_ k_) ∨ w.heap.size ≤ k_) ∧ (k_ ≠ ak ∧ k_ ≠ af))) _ _ ((rd_T67 l1 ab).f2) ba bb bd _ ?side1 ?side2 ?side3 ?side4 cB.out).mono ?_
         (case side1 => first | exact ap.out | exact vz ap.out)
         (case side2 => first | exact aq.out | exact vz aq.out)
         (case side3 => first | exact aw.out | exact vz aw.out)
         (case side4 => first | exact ax.out | exact vz ax.out)
         rintro e cE ⟨co, cp, rfl, bm, bn, hb⟩
         have HS3_ := (hb.cell (World.block_lt_of_cell? _ _ (hHeld.2.2.2.1))).trans (hHeld.2.2.2.1)
         have HS4_ := (hb.cell (World.block_lt_of_cell? _ _ (hHeld.2.2.2.2.1))).trans (hHeld.2.2.2.2.1)
         have HS5_ := (hb.cell (World.block_lt_of_cell? _ _ (hHeld.2.2.2.2.2.1))).trans (hHeld.2.2.2.2.2.1)
         have HS6_ := (hb.cell (World.block_lt_of_cell? _ _ (hHeld.2.2.2.2.2.2.1))).trans (hHeld.2.2.2.2.2.2.1)
         have HS7_ := (hb.cell (World.block_lt_of_cell? _ _ (hHeld.2.2.2.2.2.2.2.1))).trans (hHeld.2.2.2.2.2.2.2.1)
         have HS8_ := (hb.cell (World.block_lt_of_cell? _ _ (hHeld.2.2.2.2.2.2.2.2))).trans (hHeld.2.2.2.2.2.2.2.2)
         refine ⟨_, rfl, ?_⟩
         replace aA := kv aA hb
         replace aB := kv aB hb
         replace ad := kv ad hb
         replace ae := kv ae hb
         replace ap := kv ap hb
         replace aq := kv aq hb
         replace aw := kv aw hb
         replace ax := kv ax hb
         have aK := ar w.heap.size (ok' := fun k_ => ((P0_ k_ ∨ P1_ k_) ∨ w.heap.size ≤ k_) ∧ k_ ≠ ak ∧ k_ ≠ af) bm (fa (fz2 HB al ao) (fa (fb ag) (fb aa)))
         have aL := ar w.heap.size (ok' := fun k_ => ((P0_ k_ ∨ P1_ k_) ∨ w.heap.size ≤ k_) ∧ k_ ≠ ak ∧ k_ ≠ af) bn (fa (fz2 HB al ao) (fa (fb ag) (fb aa)))
         replace ag := kb ag hb
         replace aa := kb aa hb
         replace au := am (Kd.C_below (by repeat (first | (with_reducible exact au.out) | (with_reducible refine Kd.C_alloc ?_ _) | (with_reducible refine Kd.C_drewN ?_ _) | (with_reducible refine Kd.C_drew ?_) | exact au.out)) hb)
         replace av := am (Kd.C_below (by repeat (first | (with_reducible exact av.out) | (with_reducible refine Kd.C_alloc ?_ _) | (with_reducible refine Kd.C_drewN ?_ _) | (with_reducible refine Kd.C_drew ?_) | exact av.out)) hb)
         replace ay := am (Kd.C_below (by repeat (first | (with_reducible exact ay.out) | (with_reducible refine Kd.C_alloc ?_ _) | (with_reducible refine Kd.C_drewN ?_ _) | (with_reducible refine Kd.C_drew ?_) | exact ay.out)) hb)
         replace az := am (Kd.C_below (by repeat (first | (with_reducible exact az.out) | (with_reducible refine Kd.C_alloc ?_ _) | (with_reducible refine Kd.C_drewN ?_ _) | (with_reducible refine Kd.C_drew ?_) | exact az.out)) hb)
         replace HB := be2 HB al ao hb
         (try clear hb)
         (try clear hb2)
         (try clear hk)
         (try clear hi)
         (try clear bm)
         (try clear bn)
         obtain ⟨bk, bl, bB⟩ := Kd.V_slice ad.out
         (first | subst bB | (injection bB with f1_ f2_ f3_; have f4_ := f1_.symm; have f5_ := f3_.symm; clear f1_ f2_ f3_; subst f4_; subst f5_))
         obtain ⟨bg, bh, bC⟩ := Kd.V_slice ae.out
         (first | subst bC | (injection bC with f1_ f2_ f3_; have f4_ := f1_.symm; have f5_ := f3_.symm; clear f1_ f2_ f3_; subst f4_; subst f5_))
         obtain ⟨b4, b5, bD⟩ := Kd.V_slice aK.out
         (first | subst bD | (injection bD with f1_ f2_ f3_; have f4_ := f1_.symm; have f5_ := f3_.symm; clear f1_ f2_ f3_; subst f4_; subst f5_))
         obtain ⟨b6, b7, bE⟩ := Kd.V_slice aL.out
         (first | subst bE | (injection bE with f1_ f2_ f3_; have f4_ := f1_.symm; have f5_ := f3_.symm; clear f1_ f2_ f3_; subst f4_; subst f5_))
         refine hK.out _ _ ⟨bc aa 0, bc aa 1, bc aa 2, HS3_, HS4_, HS5_, HS6_, HS7_, HS8_⟩ (fun hHeld => ?_)
         clear hK K
         refine nq 29 ?_
         refine one_ (i := 10) (N := some 30) #[true, true, true, true, true, true, true, true, true, true, true, false] rfl rfl (one_of HT_.out (by kernel_rfl)) (by decide) (fun K hK => ?_)
         refine goes_ Try.func100 (by kernel_rfl) rfl #[.agg #[.bool ah, .slice bk ai.length bl, .slice bg ac.length bh], .agg #[.bool ba, .slice b4 bb.length b5, .slice b6 bd.length b7]] (by rfl) rfl rfl lu ?_
         with_reducible refine (codewrightref02_Add.calls kj10 ah (fun k_ => (((P0_ k_ ∨ P1_ k_) ∨ w.heap.size ≤ k_) ∧ (k_ ≠ ak ∧ k_ ≠ af))) _ _ ai (fun k_ => (((P0_ k_ ∨ P1_ k_) ∨ w.heap.size ≤ k_) ∧ (k_ ≠ ak ∧ k_ ≠ af))) _ _ ac ba (fun k_ => (((P0_ k_ ∨ P1_ k_) ∨ w.heap.size ≤ k_) ∧ (k_ ≠ ak ∧ k_ ≠ af))) _ _ bb (fun k_ => (((P0_ k_ ∨ P1_ k_) ∨ w.heap.size ≤ k_) ∧ (k_ ≠ ak ∧ k_ ≠ af))) _ _ bd aT aU bf _ ?side1 ?side2 ?side3 ?side4 cC.out).mono ?_
         (case side1 => exact vz ad.out)
         (case side2 => exact vz ae.out)
         (case side3 => exact vz aK.out)
         (case side4 => exact vz aL.out)
         rintro e b8 ⟨cq, cr, rfl, bm, bn, hb⟩
         have HS3_ := (hb.cell (World.block_lt_of_cell? _ _ (hHeld.2.2.2.1))).trans (hHeld.2.2.2.1)
         have HS4_ := (hb.cell (World.block_lt_of_cell? _ _ (hHeld.2.2.2.2.1))).trans (hHeld.2.2.2.2.1)
         have HS5_ := (hb.cell (World.block_lt_of_cell? _ _ (hHeld.2.2.2.2.2.1))).trans (hHeld.2.2.2.2.2.1)
         have HS6_ := (hb.cell (World.block_lt_of_cell? _ _ (hHeld.2.2.2.2.2.2.1))).trans (hHeld.2.2.2.2.2.2.1)
         have HS7_ := (hb.cell (World.block_lt_of_cell? _ _ (hHeld.2.2.2.2.2.2.2.1))).trans (hHeld.2.2.2.2.2.2.2.1)
         have HS8_ := (hb.cell (World.block_lt_of_cell? _ _ (hHeld.2.2.2.2.2.2.2.2))).trans (hHeld.2.2.2.2.2.2.2.2)
         refine ⟨_, rfl, ?_⟩
         replace aA := kv aA hb
         replace aB := kv aB hb
         replace ad := kv ad hb
         replace ae := kv ae hb
         replace ap := kv ap hb
         replace aq := kv aq hb
         replace aw := kv aw hb
         replace ax := kv ax hb
         replace aK := kv aK hb
         replace aL := kv aL hb
         have bi := ar w.heap.size (ok' := fun k_ => ((P0_ k_ ∨ P1_ k_) ∨ w.heap.size ≤ k_) ∧ k_ ≠ ak ∧ k_ ≠ af) bm (fa (fz2 HB al ao) (fa (fb ag) (fb aa)))
         have bj := ar w.heap.size (ok' := fun k_ => ((P0_ k_ ∨ P1_ k_) ∨ w.heap.size ≤ k_) ∧ k_ ≠ ak ∧ k_ ≠ af) bn (fa (fz2 HB al ao) (fa (fb ag) (fb aa)))
         replace ag := kb ag hb
         replace aa := kb aa hb
         replace au := am (Kd.C_below (by repeat (first | (with_reducible exact au.out) | (with_reducible refine Kd.C_alloc ?_ _) | (with_reducible refine Kd.C_drewN ?_ _) | (with_reducible refine Kd.C_drew ?_) | exact au.out)) hb)
         replace av := am (Kd.C_below (by repeat (first | (with_reducible exact av.out) | (with_reducible refine Kd.C_alloc ?_ _) | (with_reducible refine Kd.C_drewN ?_ _) | (with_reducible refine Kd.C_drew ?_) | exact av.out)) hb)
         replace ay := am (Kd.C_below (by repeat (first | (with_reducible exact ay.out) | (with_reducible refine Kd.C_alloc ?_ _) | (with_reducible refine Kd.C_drewN ?_ _) | (with_reducible refine Kd.C_drew ?_) | exact ay.out)) hb)
         replace az := am (Kd.C_below (by repeat (first | (with_reducible exact az.out) | (with_reducible refine Kd.C_alloc ?_ _) | (with_reducible refine Kd.C_drewN ?_ _) | (with_reducible refine Kd.C_drew ?_) | exact az.out)) hb)
         replace HB := be2 HB al ao hb
         (try clear hb)
         (try clear hb2)
         (try clear hk)
         (try clear hi)
         (try clear bm)
         (try clear bn)
         obtain ⟨bF, bG, bH⟩ := Kd.V_slice bi.out
         (first | subst bH | (injection bH with f1_ f2_ f3_; have f4_ := f1_.symm; have f5_ := f3_.symm; clear f1_ f2_ f3_; subst f4_; subst f5_))
         obtain ⟨b9, ca, bI⟩ := Kd.V_slice bj.out
         (first | subst bI | (injection bI with f1_ f2_ f3_; have f4_ := f1_.symm; have f5_ := f3_.symm; clear f1_ f2_ f3_; subst f4_; subst f5_))
         refine hK.out _ _ ⟨bc aa 0, bc aa 1, bc aa 2, HS3_, HS4_, HS5_, HS6_, HS7_, HS8_⟩ (fun hHeld => ?_)
         clear hK K
         refine nq 30 ?_
         refine last_ (i := 11) (N := none) #[true, true, true, true, true, true, true, true, true, true, true, true] rfl rfl (one_of HT_.out (by kernel_rfl)) (by decide) (fun K hK => ?_)
         have hs26 : b8.cell? ⟨af, 0, none⟩ = some (.bool ah) := bc aa 0
         have hfs26 := blk_frozen aa.out 0
         have hns26_0 := aj.out
         have hms26_0 := an.out
         have hs28 : b8.cell? ⟨af, 1, none⟩ = some (.slice bk ai.length bl) := bc aa 1
         have hfs28 := blk_frozen aa.out 1
         have hns28_0 := aj.out
         have hms28_0 := an.out
         have hs30 : b8.cell? ⟨af, 2, none⟩ = some (.slice bg ac.length bh) := bc aa 2
         have hfs30 := blk_frozen aa.out 2
         have hns30_0 := aj.out
         have hms30_0 := an.out
         refine skip_ (w1 := ?_) (by rfl) rfl ?_ ?_
         rotate_left
         ·
          go_simp
          rfl
         refine hK.out _ _ ?_
         clear hK K
         refine done_ (done_of HT_.out (by kernel_rfl)) ?_
         try go_wp2
         go_roundg kj10
         case measure => have := HK1.out; have := HJ10.out; omega
         case rel => exact ⟨(wrap64 (ab + 1)), (aT), (aU), (bf), (.slice bF aU.length bG), (.slice b9 bf.length ca), (by first | rfl | (simp; done) | (simp [*]; done)), H', ⟨by have := HK1.out; have := HJ10.out; omega⟩, ⟨by exact vf aA.out⟩, ⟨by exact vf aB.out⟩, ⟨by exact vf bi.out⟩, ⟨by exact vf bj.out⟩, ⟨by (with_reducible repeat (first | refine blk_drewN ?_ _ | refine blk_drew ?_ | refine blk_alloc ?_ _)); refine blk_far ?_ aj.out _; (with_reducible repeat (first | refine blk_drewN ?_ _ | refine blk_drew ?_ | refine blk_alloc ?_ _)); refine blk_far ?_ aj.out _; (with_reducible repeat (first | refine blk_drewN ?_ _ | refine blk_drew ?_ | refine blk_alloc ?_ _)); refine blk_far ?_ aj.out _; (with_reducible repeat (first | refine blk_drewN ?_ _ | refine blk_drew ?_ | refine blk_alloc ?_ _)); exact ag.out⟩, ⟨by (with_reducible repeat (first | refine blk_drewN ?_ _ | refine blk_drew ?_ | refine blk_alloc ?_ _)); refine blk_put (cs := #[.bool aT, .slice bF aU.length bG, .slice bg ac.length bh]) ?_ 2 _ rfl; (with_reducible repeat (first | refine blk_drewN ?_ _ | refine blk_drew ?_ | refine blk_alloc ?_ _)); refine blk_put (cs := #[.bool aT, .slice bk ai.length bl, .slice bg ac.length bh]) ?_ 1 _ rfl; (with_reducible repeat (first | refine blk_drewN ?_ _ | refine blk_drew ?_ | refine blk_alloc ?_ _)); refine blk_put (cs := #[.bool ah, .slice bk ai.length bl, .slice bg ac.length bh]) ?_ 0 _ rfl; (with_reducible repeat (first | refine blk_drewN ?_ _ | refine blk_drew ?_ | refine blk_alloc ?_ _)); exact aa.out⟩, ⟨by repeat (first | (with_reducible first | exact HB.out | apply below_alloc | apply pw_below_drewN | apply below_drew1 | refine below_set ?_ al.out | refine below_set ?_ ao.out) | exact HB.out)⟩⟩
        ·
         rw [if_neg bM] at H
         exact absurd H (by simp)
       ·
        rw [if_neg bL] at H
        exact absurd H (by simp)
      ·
       rw [if_neg bK] at H
       exact absurd H (by simp)
     ·
      replace bJ := Bool.eq_false_iff.mpr bJ
      subst bJ
      have H1 : (some (ah, ai, ac)) = some (r1, r2, r3) := by rw [if_neg (show ¬ (false = true) by decide)] at H; exact H
      clear H
      have H := H1
      clear H1
      simp only [Option.some.injEq, Prod.mk.injEq] at H
      obtain ⟨rfl, rfl, rfl⟩ := H
      have ct := an.out
      have cv := aj.out
      obtain ⟨bN, bO, bP, bQ, bR, bS⟩ := bz aa
      obtain ⟨bT, bU, bV, bW, bX, bY⟩ := bz ag
      obtain ⟨cb, cc, cd⟩ := Kd.V_slice ad.out
      subst cd
      obtain ⟨ce, cf, cg⟩ := Kd.V_slice ae.out
      subst cg
      go_wp2
      refine bodyPost_ret (results_cell_row rfl _ _ ak 67 #[.bool ah, .slice cb ai.length cc, .slice ce ac.length cf] (0, 0) _ rfl (kp ag.out) Try.underlying67 rfl (by kernel_rfl)) rfl ?_
      exact ⟨_, _, by first | rfl | (simp [errW_none, errW_some] <;> rfl) | (simp [*, errW_none, errW_some] <;> rfl), by exact vf ad.out, by exact vf ae.out, by repeat (first | (with_reducible first | exact HB.out | apply below_alloc | apply pw_below_drewN | apply below_drew1 | refine below_set ?_ al.out | refine below_set ?_ ao.out) | exact HB.out)⟩
end Go.Proofs.Ytecfdemglbfnoaa.PT
end
section
namespace Go.Proofs.Ytecfdemglbfnoaa.PT
open Go.RowKit Go.Proofs.YtecfdemglbfnoaaW.PrintWords Go.Proofs.YtecfdemglbfnoaaW.PrintLast Go.Proofs.YtecfdemglbfnoaaW.PrintMore
def sp (zs : List Int) (o : Nat) (xs : List Int) : List Int := zs.take o ++ xs ++ zs.drop (o + xs.length)
theorem sp_len {zs xs : List Int} {o : Nat} (h : o + xs.length ≤ zs.length) : (sp zs o xs).length = zs.length := by
  simp only [sp, List.length_append, List.length_take, List.length_drop]; omega
theorem sp_get {zs xs : List Int} {o i : Nat} (h : o + xs.length ≤ zs.length) (hi : i < xs.length) : (sp zs o xs)[o + i]? = xs[i]? := by
  have ht : (zs.take o).length = o := by rw [List.length_take]; omega
  rw [sp, List.append_assoc, List.getElem?_append_right (by omega), ht, Nat.add_sub_cancel_left, List.getElem?_append_left hi]
theorem sp_rd {zs xs : List Int} {o i : Nat} (h : o + xs.length ≤ zs.length) (hi : i < xs.length) : rd (sp zs o xs) ((o + i : Nat) : Int) = rd xs (i : Int) := by
  unfold rd
  rw [List.getD_eq_getElem?_getD, List.getD_eq_getElem?_getD, Int.toNat_natCast, Int.toNat_natCast, sp_get h hi]
theorem sp_set {zs xs : List Int} {o i : Nat} (h : o + xs.length ≤ zs.length) (hi : i < xs.length) (v : Int) : (sp zs o xs).set (o + i) v = sp zs o (xs.set i v) := by
  have ht : (zs.take o).length = o := by rw [List.length_take]; omega
  rw [sp, sp, List.length_set, List.append_assoc, List.append_assoc, List.set_append_right _ _ (by omega), ht, Nat.add_sub_cancel_left, List.set_append_left _ _ hi]
theorem add_off (g o j : Nat) : (⟨g, o, none⟩ : Addr).add j = ⟨g, o + j, none⟩ := by unfold Addr.add; split <;> simp_all
section
variable {w : World} {base g N cap o : Nat} {ok : Nat → Prop} {zs xs : List Int}
theorem win_cell (h : Kd.R (Kd.int .u32) 48 w base ok (.slice (some ⟨g, 0, none⟩) N cap) (sp zs o xs)) (hl : o + xs.length ≤ zs.length) (i : Int) (h0 : 0 ≤ i) (h1 : i < (xs.length : Int)) :
    w.cell? ⟨g, o + i.toNat, none⟩ = some (.int .u32 (rd xs i)) ∧ w.frozen? ⟨g, o + i.toNat, none⟩ = false := by
  obtain ⟨j, rfl⟩ := Int.eq_ofNat_of_zero_le h0
  obtain ⟨hn, _⟩ := Kd.R_reads' h
  have := Kd.R_celln (0 : Int) h ((o + j : Nat) : Int) (by omega) (by rw [hn, sp_len hl]; omega)
  have e : rdOf (0 : Int) (sp zs o xs) ((o + j : Nat) : Int) = rd xs (j : Int) := sp_rd hl (by omega)
  rw [e] at this
  exact this
theorem win_put (h : Kd.R (Kd.int .u32) 48 w base ok (.slice (some ⟨g, 0, none⟩) N cap) (sp zs o xs)) (hl : o + xs.length ≤ zs.length) (i : Int) (h0 : 0 ≤ i) (h1 : i < (xs.length : Int)) (x : Int) :
    Kd.R (Kd.int .u32) 48 (w.setCell ⟨g, o + i.toNat, none⟩ (.int .u32 x)) base ok (.slice (some ⟨g, 0, none⟩) N cap) (sp zs o (xs.set i.toNat x)) ∧ w.grownBy (w.setCell ⟨g, o + i.toNat, none⟩ (.int .u32 x)) (some g) := by
  obtain ⟨j, rfl⟩ := Int.eq_ofNat_of_zero_le h0
  have := Kd.R_putg h ((o + j : Nat) : Int) x
  rw [Int.toNat_natCast, sp_set hl (by omega)] at this
  exact this
end
def Wn (g o N cap n : Nat) (zs : List Int) (w : World) (base : Nat) (ok : Nat → Prop) (xs : List Int) : Prop :=
  xs.length = n ∧ o + n ≤ zs.length ∧ Kd.R (Kd.int .u32) 48 w base ok (.slice (some ⟨g, 0, none⟩) N cap) (sp zs o xs)
section
variable {w w' w1 : World} {base g N cap o n m : Nat} {ok ok' : Nat → Prop} {zs xs : List Int}
theorem Wn_alloc (h : Wn g o N cap n zs w base ok xs) (x : Obj) : Wn g o N cap n zs (w.alloc x) base ok xs := ⟨h.1, h.2.1, Kd.R_alloc h.2.2 x⟩
theorem Wn_drew (h : Wn g o N cap n zs w base ok xs) : Wn g o N cap n zs w.drew base ok xs := ⟨h.1, h.2.1, Kd.R_drew h.2.2⟩
theorem Wn_drewN (h : Wn g o N cap n zs w base ok xs) (m : Nat) : Wn g o N cap n zs (w.drewN m) base ok xs := ⟨h.1, h.2.1, Kd.R_drewN h.2.2 m⟩
theorem Wn_at (hq : w.drewN m = w') (h : Wn g o N cap n zs w base ok xs) : Wn g o N cap n zs w' base ok xs := by subst hq; exact Wn_drewN h m
theorem Wn_mono (h : Wn g o N cap n zs w base ok xs) (hm : ∀ k, ok k → ok' k) : Wn g o N cap n zs w base ok' xs := ⟨h.1, h.2.1, Kd.R_mono h.2.2 hm⟩
theorem Wn_cell (h : Wn g o N cap n zs w base ok xs) (i : Int) (h0 : 0 ≤ i) (h1 : i < (n : Int)) : w.cell? ⟨g, o + i.toNat, none⟩ = some (.int .u32 (rd xs i)) ∧ w.frozen? ⟨g, o + i.toNat, none⟩ = false :=
  win_cell h.2.2 (by rw [h.1]; exact h.2.1) i h0 (by rw [h.1]; exact h1)
theorem Wn_put (h : Wn g o N cap n zs w base ok xs) (i : Int) (h0 : 0 ≤ i) (h1 : i < (n : Int)) (x : Int) :
    Wn g o N cap n zs (w.setCell ⟨g, o + i.toNat, none⟩ (.int .u32 x)) base ok (xs.set i.toNat x) ∧ w.grownBy (w.setCell ⟨g, o + i.toNat, none⟩ (.int .u32 x)) (some g) := by
  have := win_put h.2.2 (by rw [h.1]; exact h.2.1) i h0 (by rw [h.1]; exact h1) x
  exact ⟨⟨by rw [List.length_set]; exact h.1, h.2.1, this.1⟩, this.2⟩
theorem Wn_ok (h : Wn g o N cap n zs w base ok xs) : ∀ k, some g = some k → ok k := fun k hk => h.2.2.1 k (by simpa [Value.ownBlock] using hk)
theorem Wn_base (h : Wn g o N cap n zs w base ok xs) : base ≤ g := Kd.R_base h.2.2 g rfl
end
end Go.Proofs.Ytecfdemglbfnoaa.PT
end
section
namespace Go.Proofs.Ytecfdemglbfnoaa.Num
theorem guess_down {u v q r top v1 v2 u2 p ul vl : Nat} (hu : u = (top * 4294967296 + u2) * p + ul) (hul : ul < p) (hv : v = (v1 * 4294967296 + v2) * p + vl)
    (ht : q * v1 + r = top) (h : r * 4294967296 + u2 < q * v2) : u < q * v := by
  have h1 : top * 4294967296 + u2 + 1 ≤ q * (v1 * 4294967296 + v2) := by
    rw [← ht, Nat.add_mul, Nat.mul_add, Nat.mul_assoc]; omega
  have h2 : (top * 4294967296 + u2 + 1) * p ≤ q * (v1 * 4294967296 + v2) * p := Nat.mul_le_mul_right p h1
  have h3 : q * v = q * (v1 * 4294967296 + v2) * p + q * vl := by rw [hv, Nat.mul_add, Nat.mul_assoc]
  rw [Nat.add_mul] at h2
  omega
theorem guess_up {u v q r top v1 v2 u2 p ul vl : Nat} (hu : u = (top * 4294967296 + u2) * p + ul) (hv : v = (v1 * 4294967296 + v2) * p + vl) (hvl : vl < p)
    (ht : q * v1 + r = top) (h : q * v2 ≤ r * 4294967296 + u2) (hq : q ≤ 4294967295) (hv1 : 1 ≤ v1) : q * v < u + v := by
  have h1 : q * (v1 * 4294967296 + v2) ≤ top * 4294967296 + u2 := by
    rw [← ht, Nat.add_mul, Nat.mul_add, Nat.mul_assoc]; omega
  have h2 : q * (v1 * 4294967296 + v2) * p ≤ (top * 4294967296 + u2) * p := Nat.mul_le_mul_right p h1
  have h3 : q * v = q * (v1 * 4294967296 + v2) * p + q * vl := by rw [hv, Nat.mul_add, Nat.mul_assoc]
  have h4 : q * vl ≤ 4294967295 * p := Nat.mul_le_mul hq (Nat.le_of_lt hvl)
  have h5 : 1 * p ≤ v1 * p := Nat.mul_le_mul_right p hv1
  have h6 : v = v1 * p * 4294967296 + v2 * p + vl := by rw [hv, Nat.add_mul, Nat.mul_right_comm]
  have h7 : 0 < p := by omega
  omega
theorem quo_of {u v q : Nat} (h1 : q * v ≤ u) (h2 : u < q * v + v) : u / v = q ∧ u % v = u - q * v := by
  have hv : 0 < v := by omega
  have e : u / v = q := by
    rw [Nat.div_eq_iff hv]
    constructor
    · exact h1
    · omega
  refine ⟨e, ?_⟩
  have := Nat.div_add_mod u v
  rw [e, Nat.mul_comm] at this
  omega
end Go.Proofs.Ytecfdemglbfnoaa.Num
end
section
namespace Go.Proofs.Ytecfdemglbfnoaa.Num
open Go.RowKit Go.Proofs.Ytecfdemglbfnoaa.PT Go.Proofs.YtecfdemglbfnoaaW.PrintWords Go.Proofs.YtecfdemglbfnoaaW.PrintLast Go.Proofs.YtecfdemglbfnoaaW.PrintMore
theorem w64 {x : Int} (h : -9223372036854775808 ≤ x) (h' : x ≤ 9223372036854775807) : wrap64 x = x := by unfold wrap64; omega
theorem u64 {x : Int} (h : 0 ≤ x) (h' : x < 18446744073709551616) : IntKind.u64.wrap x = x := by
  have e : IntKind.u64.wrap x = x % 18446744073709551616 := by simp [IntKind.wrap, IntKind.bits, IntKind.signed]
  rw [e]; omega
theorem up (i : Nat) (h : i < 9223372036854775807) : wrap64 ((i : Int) + 1) = ((i + 1 : Nat) : Int) := by rw [w64 (by omega) (by omega)]; rfl
theorem dn (n : Nat) (h : n < 9223372036854775807) : wrap64 (((n + 1 : Nat) : Int) - 1) = (n : Int) := by rw [w64 (by omega) (by omega)]; omega
theorem cut_lb {l : List Int} (h : U l) (n : Nat) (hn : n ≤ l.length) (hz : valn (l.drop n) = 0) (hl : n = 0 ∨ rd l ((n - 1 : Nat) : Int) ≠ 0) : l.take n = lb (valn l) := by
  rw [← valn_take_of_zero l n hn hz]
  refine (lb_valn (U_take h n) ?_).symm
  rcases hl with rfl | hl
  · left; simp
  · by_cases h0 : n = 0
    · left; subst h0; simp
    · right
      have e : n - 1 + 1 = n := by omega
      rw [← e, take_rd l (n - 1) (by omega), List.getLast?_append]
      simpa using hl
theorem short_l0 {l : List Int} (h : U l) (hs : l.length ≤ 9223372036854775807) : ∀ n : Nat, n ≤ l.length → valn (l.drop n) = 0 → Ev (fun k => nat_short.l0 k l (n : Int)) (lb (valn l)) := by
  intro n
  induction n with
  | zero =>
    intro hn hz
    rw [← cut_lb h 0 hn hz (.inl rfl)]
    refine Ev.step (f := fun _ => some (l.take 0)) (fun k => ?_) (Ev.now _)
    simp only [nat_short.l0]
    rw [if_neg (by omega), if_pos (by omega), if_pos (by omega)]; rfl
  | succ n ih =>
    intro hn hz
    by_cases e : rd l (n : Int) = 0
    · refine Ev.step (f := fun k => nat_short.l0 k l (n : Int)) (fun k => ?_) (ih (by omega) (by rw [valn_drop_rd, e, hz]; rfl))
      simp only [nat_short.l0]
      rw [if_pos (by omega), dn n (by omega), if_pos (by omega), if_pos (by omega), if_pos e]
    · rw [← cut_lb h (n + 1) hn hz (.inr (by simpa using e))]
      refine Ev.step (f := fun _ => some (l.take (n + 1))) (fun k => ?_) (Ev.now _)
      simp only [nat_short.l0]
      rw [if_pos (by omega), dn n (by omega), if_pos (by omega), if_pos (by omega), if_neg e, if_pos (by omega), if_pos (by omega)]; rfl
theorem short_f {l : List Int} (h : U l) (hs : l.length ≤ 9223372036854775807) : Ev (fun k => nat_short.f k l) (lb (valn l)) :=
  short_l0 h hs l.length (Nat.le_refl _) (by simp [valn_nil])
theorem Trim_f {l : List Int} (h : U l) (hs : l.length < 35184372088832) : Ev (fun k => nat_Trim.f k l) (lb (valn l)) := by
  unfold nat_Trim.f
  refine Ev.bind (short_f h (by omega)) ?_
  have := lb_len h
  refine Ev.congr (f := fun _ => some (lb (valn l))) (fun k => ?_) (Ev.now _)
  rw [if_pos (by simpa using Nat.lt_of_le_of_lt this hs)]; rfl
theorem rTrim_l0 {l : List Int} (h : U l) (hs : l.length < 35184372088832) : ∀ n : Nat, n ≤ l.length → valn (l.drop n) = 0 → Ev (fun k => codewrightref01_Trim.l0 k l (n : Int)) (lb (valn l)) := by
  intro n
  induction n with
  | zero =>
    intro hn hz
    rw [← cut_lb h 0 hn hz (.inl rfl)]
    refine Ev.step (f := fun _ => some (l.take 0)) (fun k => ?_) (Ev.now _)
    simp only [codewrightref01_Trim.l0]
    rw [if_neg (by omega), Option.bind_some, if_pos (by omega), if_pos (by omega), if_pos (by simp)]; rfl
  | succ n ih =>
    intro hn hz
    by_cases e : rd l (n : Int) = 0
    · refine Ev.step (f := fun k => codewrightref01_Trim.l0 k l (n : Int)) (fun k => ?_) (ih (by omega) (by rw [valn_drop_rd, e, hz]; rfl))
      simp only [codewrightref01_Trim.l0]
      rw [if_pos (by omega), dn n (by omega), if_pos (by omega), if_pos (by omega), if_pos e]
    · rw [← cut_lb h (n + 1) hn hz (.inr (by simpa using e))]
      refine Ev.step (f := fun _ => some (l.take (n + 1))) (fun k => ?_) (Ev.now _)
      simp only [codewrightref01_Trim.l0]
      have et : (((n + 1 : Nat) : Int)).toNat = n + 1 := rfl
      rw [if_pos (by omega), dn n (by omega), if_pos (by omega), if_pos (by omega), if_neg e, Option.bind_some, if_pos (by omega), if_pos (by omega), et, if_pos (by rw [List.length_take]; simp; omega)]; rfl
theorem rTrim_f {l : List Int} (h : U l) (hs : l.length < 35184372088832) : Ev (fun k => codewrightref01_Trim.f k l) (lb (valn l)) :=
  rTrim_l0 h hs l.length (Nat.le_refl _) (by simp [valn_nil])
theorem valn_two (n : Nat) (h : n < 18446744073709551616) : valn [((n : Int)) % 4294967296, ((n : Int) / 4294967296) % 4294967296] = n := by
  simp only [valn_cons, valn_nil]; omega
theorem Of_f (n : Nat) (h : n < 18446744073709551616) : Ev (fun k => nat_Of.f k (n : Int)) (lb n) := by
  unfold nat_Of.f
  have := Trim_f (l := [((n : Int)) % 4294967296, ((n : Int) / 4294967296) % 4294967296]) (U_cons (by omega) (U_cons (by omega) U_nil)) (by simp)
  rw [valn_two n h] at this
  exact Ev.bind this (Ev.now _)
theorem step_val {p T S1 S2 a b c d c' : Nat} (h : T + p * c = S1 + S2) (e : a + b + c = d + 4294967296 * c') : (T + p * d) + p * 4294967296 * c' = (S1 + p * a) + (S2 + p * b) := by
  have h1 : p * (a + b + c) = p * (d + 4294967296 * c') := by rw [e]
  simp only [Nat.mul_add] at h1
  have h2 : p * (4294967296 * c') = p * 4294967296 * c' := by rw [Nat.mul_assoc]
  omega
theorem plus_l0 {a b : List Int} (ha : U a) (hb : U b) (hl : b.length ≤ a.length) (hs : a.length < 35184372088832) (d : Nat) : ∀ (i : Nat) (z : List Int) (c : Nat), i + d = a.length → z.length = a.length + 1 → U z → c ≤ 1 →
    valn (z.take i) + pw i * c = valn (a.take i) + valn (b.take i) →
    Ev (fun k => nat_plus.l0 k a b z (c : Int) (a.length : Int) (i : Int)) (lb (valn a + valn b)) := by
  induction d with
  | zero =>
    intro i z c hi hz uz hc hv
    obtain rfl : i = a.length := by omega
    have u1 : U (z.set a.length (c : Int)) := U_set uz (by omega) _
    have key : valn (z.set a.length (c : Int)) = valn a + valn b := by
      have h1 := valn_set_take z a.length (c : Int) (by omega)
      rw [List.take_of_length_le (by rw [List.length_set]; omega), Int.toNat_natCast, hv, List.take_of_length_le (Nat.le_refl _), List.take_of_length_le hl] at h1
      exact h1
    have h2 := short_f u1 (by rw [List.length_set]; omega)
    rw [key] at h2
    refine Ev.step (f := fun k => (nat_short.f k (z.set a.length (c : Int))).bind some) (fun k => ?_) (Ev.bind h2 (Ev.now _))
    simp only [nat_plus.l0]
    have e : ((c : Int)) % 4294967296 = c := by omega
    rw [if_neg (by omega), if_pos (by omega), if_pos (by omega), e]; rfl
  | succ d ih =>
    intro i z c hi hz uz hc hv
    have h0 := U_rd ha (i : Int)
    have h1 := U_rd hb (i : Int)
    obtain ⟨s, hs1⟩ : ∃ s : Nat, rd a (i : Int) + (c : Int) + rd b (i : Int) = (s : Int) := ⟨(rd a (i : Int) + (c : Int) + rd b (i : Int)).toNat, by omega⟩
    have em : ((s : Nat) : Int) % 4294967296 = ((s % 4294967296 : Nat) : Int) := by omega
    have ed : ((s : Nat) : Int) / 4294967296 = ((s / 4294967296 : Nat) : Int) := by omega
    have step := ih (i + 1) (z.set i ((s % 4294967296 : Nat) : Int)) (s / 4294967296) (by omega) (by rw [List.length_set]; exact hz) (U_set uz (by omega) _) (by omega) (by
      rw [valn_set_take z i _ (by omega), valn_take_succ a, valn_take_succ b, pw_succ, Int.toNat_natCast]
      exact step_val hv (by omega))
    refine Ev.step (f := fun k => nat_plus.l0 k a b (z.set i ((s % 4294967296 : Nat) : Int)) ((s / 4294967296 : Nat) : Int) (a.length : Int) ((i + 1 : Nat) : Int)) (fun k => ?_) step
    simp only [nat_plus.l0]
    rw [if_pos (by omega), if_pos (by omega), if_pos (by omega)]
    by_cases hib : i < b.length
    · rw [if_pos (by omega), if_pos (by omega), u64 (x := rd a (i : Int)) (by omega) (by omega), u64 (x := rd a (i : Int) + (c : Int)) (by omega) (by omega), u64 (x := rd b (i : Int)) (by omega) (by omega), u64 (x := rd a (i : Int) + (c : Int) + rd b (i : Int)) (by omega) (by omega), hs1, up i (by omega), em, ed, Int.toNat_natCast]
    · have hb0 : rd b (i : Int) = 0 := rd_ge b i (by omega)
      rw [if_neg (by omega), if_pos (by omega), u64 (x := rd a (i : Int)) (by omega) (by omega), u64 (x := rd a (i : Int) + (c : Int)) (by omega) (by omega), up i (by omega)]
      have hs2 : rd a (i : Int) + (c : Int) = (s : Int) := by omega
      rw [hs2, em, ed, Int.toNat_natCast]
theorem plus_f {a b : List Int} (ha : U a) (hb : U b) (hsa : a.length < 35184372088832) (hsb : b.length < 35184372088832) : Ev (fun k => nat_plus.f k a b) (lb (valn a + valn b)) := by
  have go : ∀ {a b : List Int}, U a → U b → b.length ≤ a.length → a.length < 35184372088832 → Ev (fun k => nat_plus.j0 k a b) (lb (valn a + valn b)) := by
    intro a b ha hb hl hs
    have h := plus_l0 ha hb hl hs a.length 0 (List.replicate (a.length + 1) 0) 0 (by omega) (by simp) (U_replicate _) (by omega) (by simp [valn_nil])
    refine Ev.step (fun k => ?_) h
    simp only [nat_plus.j0]
    rw [up a.length (by omega), if_pos (by omega), Int.toNat_natCast, if_pos (by omega)]; rfl
  unfold nat_plus.f
  by_cases h : a.length < b.length
  · have := go hb ha (by omega) hsb
    rw [Nat.add_comm] at this
    exact Ev.congr (fun k => if_pos (by omega)) this
  · exact Ev.congr (fun k => if_neg (by omega)) (go ha hb (by omega) hsa)
def sumv (ls : List (List Int)) : Nat := (ls.map valn).sum
theorem rdL4_at (ls : List (List Int)) (i : Nat) (h : i < ls.length) : ls.drop i = rd_L4 ls (i : Int) :: ls.drop (i + 1) := by
  simp [rd_L4, h]
theorem rdL4_mem (ls : List (List Int)) (i : Nat) (h : i < ls.length) : rd_L4 ls (i : Int) ∈ ls := by simp [rd_L4, h]
theorem Add_l0 {ls : List (List Int)} (hU : ∀ l ∈ ls, U l) (m : Nat) (hm : ∀ l ∈ ls, l.length ≤ m) (hs : m + ls.length < 35184372088832) (d : Nat) : ∀ (i : Nat) (s : Nat), i + d = ls.length → s < pw (m + i) →
    Ev (fun k => nat_Add.l0 k (lb s) ls (ls.length : Int) (i : Int)) (lb (s + sumv (ls.drop i))) := by
  induction d with
  | zero =>
    intro i s hi hlt
    obtain rfl : i = ls.length := by omega
    have hlen := lb_len_le hlt
    have h := Trim_f (U_lb s) (by omega)
    rw [valn_lb] at h
    have e : s + sumv (ls.drop ls.length) = s := by simp [sumv]
    rw [e]
    refine Ev.step (f := fun k => (nat_Trim.f k (lb s)).bind some) (fun k => ?_) (Ev.bind h (Ev.now _))
    simp only [nat_Add.l0]
    rw [if_neg (by omega)]
  | succ d ih =>
    intro i s hi hlt
    have hmem := rdL4_mem ls i (by omega)
    have hlen := lb_len_le hlt
    have hlx := hm _ hmem
    have h1 := short_f (hU _ hmem) (by omega)
    have h2 := plus_f (U_lb s) (U_lb (valn (rd_L4 ls (i : Int)))) (by omega) (by have := lb_len (hU _ hmem); omega)
    rw [valn_lb, valn_lb] at h2
    have hlt2 : s + valn (rd_L4 ls (i : Int)) < pw (m + (i + 1)) := by
      have a1 := valn_lt (hU _ hmem)
      have a2 : pw (rd_L4 ls (i : Int)).length ≤ pw (m + i) := pw_mono (by omega)
      rw [← Nat.add_assoc, pw_succ]; omega
    have h3 := ih (i + 1) _ (by omega) hlt2
    have e : s + sumv (ls.drop i) = s + valn (rd_L4 ls (i : Int)) + sumv (ls.drop (i + 1)) := by
      rw [rdL4_at ls i (by omega)]; simp only [sumv, List.map_cons, List.sum_cons]; omega
    rw [e]
    refine Ev.step (f := fun k => (nat_short.f k (rd_L4 ls (i : Int))).bind fun t => (nat_plus.f k (lb s) t).bind fun t' => nat_Add.l0 k t' ls (ls.length : Int) ((i + 1 : Nat) : Int)) (fun k => ?_) (Ev.bind h1 (Ev.bind h2 h3))
    simp only [nat_Add.l0]
    rw [if_pos (by omega), if_pos (by omega), if_pos (by omega), up i (by omega)]
theorem Add_f {ls : List (List Int)} (hU : ∀ l ∈ ls, U l) (m : Nat) (hm : ∀ l ∈ ls, l.length ≤ m) (hs : m + ls.length < 35184372088832) : Ev (fun k => nat_Add.f k ls) (lb (sumv ls)) := by
  have h := Add_l0 hU m hm hs ls.length 0 0 (by omega) (pw_pos _)
  rw [lb_zero] at h
  simpa [nat_Add.f] using h
theorem Add_two {a b : List Int} (ha : U a) (hb : U b) (hsa : a.length < 30000000000000) (hsb : b.length < 30000000000000) : Ev (fun k => nat_Add.f k [a, b]) (lb (valn a + valn b)) := by
  have h := Add_f (ls := [a, b]) (by intro l hl; simp at hl; rcases hl with rfl | rfl <;> assumption) 30000000000000 (by intro l hl; simp at hl; rcases hl with rfl | rfl <;> omega) (by simp)
  simpa [sumv] using h
theorem or64 (i x y : Nat) (hx : x % 2 ^ i = 0) (hx1 : x < 18446744073709551616) (hy : y < 2 ^ i) (hi : i ≤ 63) : Go.bits .or .u64 (x : Int) (y : Int) = ((x + y : Nat) : Int) := by
  have hp : 2 ^ i ≤ 2 ^ 63 := Nat.pow_le_pow_right (by decide) hi
  have h := bits_join .u64 64 (Nat.le_refl _) (fun n h0 h1 => u64 h0 h1) i (x : Int) (y : Int) (by omega) (by exact_mod_cast hx) (by omega) (by omega) (by exact_mod_cast hy) (by omega)
  rw [h]; rfl
theorem shl64 (x n : Nat) (hx : x < 4294967296) (hn : n ≤ 31) : shl .u64 (x : Int) (n : Int) = ((x * 2 ^ n : Nat) : Int) := by
  have hp : 2 ^ n ≤ 2 ^ 31 := Nat.pow_le_pow_right (by decide) hn
  have h1 : x * 2 ^ n ≤ 4294967295 * 2 ^ 31 := Nat.mul_le_mul (by omega) hp
  have hm : min ((n : Int)).toNat IntKind.u64.bits = n := by
    have : IntKind.u64.bits = 64 := rfl
    rw [Int.toNat_natCast, this]; omega
  unfold shl
  rw [hm]
  have e : (x : Int) * 2 ^ n = ((x * 2 ^ n : Nat) : Int) := by simp
  rw [e, u64 (by omega) (by omega)]
theorem shift_l0 {l : List Int} (h : U l) (n : Nat) (hn : n ≤ 31) (hs : l.length < 35184372088832) (d : Nat) : ∀ (i : Nat) (z : List Int) (c : Nat), i + d = l.length → z.length = l.length + 1 → U z → c < 2 ^ n →
    valn (z.take i) + pw i * c = valn (l.take i) * 2 ^ n →
    Ev (fun k => nat_shift.l0 k l (n : Int) z (c : Int) l (l.length : Int) (i : Int)) (padn (l.length + 1) (valn l * 2 ^ n)) := by
  have hp : 2 ^ n ≤ 2 ^ 31 := Nat.pow_le_pow_right (by decide) hn
  induction d with
  | zero =>
    intro i z c hi hz uz hc hv
    obtain rfl : i = l.length := by omega
    have u1 : U (z.set l.length (c : Int)) := U_set uz (by omega) _
    have key : valn (z.set l.length (c : Int)) = valn l * 2 ^ n := by
      have h1 := valn_set_take z l.length (c : Int) (by omega)
      rw [List.take_of_length_le (by rw [List.length_set]; omega), Int.toNat_natCast, hv, List.take_of_length_le (Nat.le_refl _)] at h1
      exact h1
    have h2 := padn_valn u1
    rw [key, List.length_set, hz] at h2
    rw [h2]
    refine Ev.step (f := fun _ => some (z.set l.length (c : Int))) (fun k => ?_) (Ev.now _)
    simp only [nat_shift.l0]
    have e : ((c : Int)) % 4294967296 = c := by omega
    rw [if_neg (by omega), if_pos (by omega), if_pos (by omega), e]; rfl
  | succ d ih =>
    intro i z c hi hz uz hc hv
    have h0 := U_rd h (i : Int)
    obtain ⟨x, hx⟩ : ∃ x : Nat, rd l (i : Int) = (x : Int) := ⟨(rd l (i : Int)).toNat, by omega⟩
    have hx4 : x < 4294967296 := by omega
    have hxp : x * 2 ^ n + 2 ^ n ≤ 4294967296 * 2 ^ n := by
      have : (x + 1) * 2 ^ n ≤ 4294967296 * 2 ^ n := Nat.mul_le_mul_right _ (by omega)
      rwa [Nat.add_mul, Nat.one_mul] at this
    have et : Go.bits .or .u64 (shl .u64 (IntKind.u64.wrap (rd l (i : Int))) (n : Int)) (c : Int) = ((x * 2 ^ n + c : Nat) : Int) := by
      rw [hx, u64 (by omega) (by omega), shl64 x n hx4 hn, or64 n _ _ (by simp) (by omega) hc (by omega)]
    have hdiv : (x * 2 ^ n + c) / 4294967296 < 2 ^ n := by omega
    have step := ih (i + 1) (z.set i (((x * 2 ^ n + c) % 4294967296 : Nat) : Int)) ((x * 2 ^ n + c) / 4294967296) (by omega) (by rw [List.length_set]; exact hz) (U_set uz (by omega) _) hdiv (by
      rw [valn_set_take z i _ (by omega), valn_take_succ l, pw_succ, Int.toNat_natCast, hx, Int.toNat_natCast, Nat.add_mul, ← hv]
      have e2 : pw i * x * 2 ^ n = pw i * (x * 2 ^ n) := Nat.mul_assoc ..
      have e3 : pw i * (x * 2 ^ n + c) = pw i * ((x * 2 ^ n + c) % 4294967296 + 4294967296 * ((x * 2 ^ n + c) / 4294967296)) := by rw [Nat.mod_add_div]
      rw [Nat.mul_add, Nat.mul_add, ← Nat.mul_assoc (pw i) 4294967296] at e3
      omega)
    refine Ev.step (fun k => ?_) step
    simp only [nat_shift.l0]
    rw [if_pos (by omega), if_pos (by omega), if_pos (by omega), if_pos (by omega), if_pos (by omega), et, up i (by omega), Int.toNat_natCast]
    have em : (((x * 2 ^ n + c : Nat) : Int)) % 4294967296 = (((x * 2 ^ n + c) % 4294967296 : Nat) : Int) := by omega
    have ed : (((x * 2 ^ n + c : Nat) : Int)) / 4294967296 = (((x * 2 ^ n + c) / 4294967296 : Nat) : Int) := by omega
    rw [em, ed]
theorem shift_f {l : List Int} (h : U l) (n : Nat) (hn : n ≤ 31) (hs : l.length < 35184372088832) : Ev (fun k => nat_shift.f k l (n : Int)) (padn (l.length + 1) (valn l * 2 ^ n)) := by
  have h := shift_l0 h n hn hs l.length 0 (List.replicate (l.length + 1) 0) 0 (by omega) (by simp) (U_replicate _) (Nat.two_pow_pos n) (by simp [valn_nil])
  refine Ev.congr (fun k => ?_) h
  unfold nat_shift.f
  rw [up l.length (by omega), if_pos (by omega), Int.toNat_natCast, if_pos (by omega)]; rfl
def sz (n : Nat) : Nat := if n = 0 then 0 else n.log2 + 1
theorem sz_zero : sz 0 = 0 := rfl
theorem sz_eq {n b : Nat} (h1 : 2 ^ b ≤ n) (h2 : n < 2 ^ (b + 1)) : sz n = b + 1 := by
  have h0 : n ≠ 0 := by have := Nat.two_pow_pos b; omega
  unfold sz; rw [if_neg h0, (Nat.log2_eq_iff h0).mpr ⟨h1, h2⟩]
theorem sz_pos {n : Nat} (h : n ≠ 0) : 1 ≤ sz n := by unfold sz; rw [if_neg h]; omega
theorem sz_spec {n : Nat} (h : n ≠ 0) : 2 ^ (sz n - 1) ≤ n ∧ n < 2 ^ sz n := by
  unfold sz; rw [if_neg h]; exact ⟨Nat.log2_self_le h, Nat.lt_log2_self⟩
theorem lt_sz (n : Nat) : n < 2 ^ sz n := by
  by_cases h : n = 0
  · subst h; decide
  · exact (sz_spec h).2
theorem sz_div {n k : Nat} (h : n / 2 ^ k ≠ 0) : sz n = k + sz (n / 2 ^ k) := by
  obtain ⟨h1, h2⟩ := sz_spec h
  have h3 := sz_pos h
  obtain ⟨L, hL⟩ : ∃ L, sz (n / 2 ^ k) = L + 1 := ⟨sz (n / 2 ^ k) - 1, by omega⟩
  rw [hL] at h1 h2 ⊢
  rw [Nat.add_sub_cancel] at h1
  rw [Nat.le_div_iff_mul_le (Nat.two_pow_pos k), ← Nat.pow_add] at h1
  rw [Nat.div_lt_iff_lt_mul (Nat.two_pow_pos k), ← Nat.pow_add] at h2
  rw [sz_eq (b := L + k) h1 (by rw [show L + k + 1 = L + 1 + k from by omega]; exact h2)]; omega
theorem sz_le {n b : Nat} (h : n < 2 ^ b) : sz n ≤ b := by
  by_cases h0 : n = 0
  · subst h0; rw [sz_zero]; omega
  · obtain ⟨h1, _⟩ := sz_spec h0
    have := sz_pos h0
    have : 2 ^ (sz n - 1) < 2 ^ b := by omega
    have := (Nat.pow_lt_pow_iff_right (by decide : 1 < 2)).mp this
    omega
def ltab : ByteArray := ⟨#[0, 1, 2, 2, 3, 3, 3, 3, 4, 4, 4, 4, 4, 4, 4, 4, 5, 5, 5, 5, 5, 5, 5, 5, 5, 5, 5, 5, 5, 5, 5, 5, 6, 6, 6, 6, 6, 6, 6, 6, 6, 6, 6, 6, 6, 6, 6, 6, 6, 6, 6, 6, 6, 6, 6, 6, 6, 6, 6, 6, 6, 6, 6, 6, 7, 7, 7, 7, 7, 7, 7, 7, 7, 7, 7, 7, 7, 7, 7, 7, 7, 7, 7, 7, 7, 7, 7, 7, 7, 7, 7, 7, 7, 7, 7, 7, 7, 7, 7, 7, 7, 7, 7, 7, 7, 7, 7, 7, 7, 7, 7, 7, 7, 7, 7, 7, 7, 7, 7, 7, 7, 7, 7, 7, 7, 7, 7, 7, 8, 8, 8, 8, 8, 8, 8, 8, 8, 8, 8, 8, 8, 8, 8, 8, 8, 8, 8, 8, 8, 8, 8, 8, 8, 8, 8, 8, 8, 8, 8, 8, 8, 8, 8, 8, 8, 8, 8, 8, 8, 8, 8, 8, 8, 8, 8, 8, 8, 8, 8, 8, 8, 8, 8, 8, 8, 8, 8, 8, 8, 8, 8, 8, 8, 8, 8, 8, 8, 8, 8, 8, 8, 8, 8, 8, 8, 8, 8, 8, 8, 8, 8, 8, 8, 8, 8, 8, 8, 8, 8, 8, 8, 8, 8, 8, 8, 8, 8, 8, 8, 8, 8, 8, 8, 8, 8, 8, 8, 8, 8, 8, 8, 8, 8, 8, 8, 8, 8, 8, 8, 8, 8, 8, 8, 8, 8, 8]⟩
theorem ltab_at : ∀ i : Fin 256, bt ltab (i.val : Int) = (sz i.val : Int) := by decide +kernel
theorem ltab_at' (i : Nat) (h : i < 256) : bt ltab (i : Int) = (sz i : Int) := ltab_at ⟨i, h⟩
theorem Len32_eq (a0 : Int) : bits_Len32.f a0 = (if a0 ≥ 65536 then (if (a0 / 65536) ≥ 256 then (if 0 ≤ (((a0 / 65536) / 256) % 256) then (if (((a0 / 65536) / 256) % 256) < 256 then (some (wrap64 ((16 + 8) + (wrap64 (bt ltab (((a0 / 65536) / 256) % 256)))))) else (none)) else (none)) else (if 0 ≤ ((a0 / 65536) % 256) then (if ((a0 / 65536) % 256) < 256 then (some (wrap64 (16 + (wrap64 (bt ltab ((a0 / 65536) % 256)))))) else (none)) else (none))) else (if a0 ≥ 256 then (if 0 ≤ ((a0 / 256) % 256) then (if ((a0 / 256) % 256) < 256 then (some (wrap64 ((0 + 8) + (wrap64 (bt ltab ((a0 / 256) % 256)))))) else (none)) else (none)) else (if 0 ≤ ((a0) % 256) then (if ((a0) % 256) < 256 then (some (wrap64 (0 + (wrap64 (bt ltab ((a0) % 256)))))) else (none)) else (none)))) := rfl
theorem Len32_f (n : Nat) (h : n < 4294967296) : bits_Len32.f (n : Int) = some ((sz n : Nat) : Int) := by
  rw [Len32_eq]
  have w : ∀ x : Nat, x ≤ 100 → wrap64 (x : Int) = (x : Int) := fun x hx => w64 (by omega) (by omega)
  have hb : sz n ≤ 32 := sz_le (b := 32) h
  by_cases c1 : (n : Int) ≥ 65536
  · rw [if_pos c1]
    have e1 : (n : Int) / 65536 = ((n / 65536 : Nat) : Int) := rfl
    have z1 : sz n = 16 + sz (n / 65536) := sz_div (k := 16) (by show n / 65536 ≠ 0; omega)
    rw [e1]
    by_cases c2 : ((n / 65536 : Nat) : Int) ≥ 256
    · have e2 : ((n / 65536 : Nat) : Int) / 256 % 256 = ((n / 65536 / 256 : Nat) : Int) := by omega
      have z2 : sz (n / 65536) = 8 + sz (n / 65536 / 256) := sz_div (k := 8) (by show n / 65536 / 256 ≠ 0; omega)
      have l2 : n / 65536 / 256 < 256 := by omega
      rw [if_pos c2, e2, if_pos (by omega), if_pos (by omega), ltab_at' _ l2, w _ (by omega)]
      rw [z1, z2, w64 (by omega) (by omega)]; congr 1 <;> omega
    · have e2 : ((n / 65536 : Nat) : Int) % 256 = ((n / 65536 : Nat) : Int) := by omega
      have l2 : n / 65536 < 256 := by omega
      rw [if_neg c2, e2, if_pos (by omega), if_pos (by omega), ltab_at' _ l2, w _ (by omega)]
      rw [z1, w64 (by omega) (by omega)]; congr 1 <;> omega
  · rw [if_neg c1]
    by_cases c2 : (n : Int) ≥ 256
    · have e2 : (n : Int) / 256 % 256 = ((n / 256 : Nat) : Int) := by omega
      have z2 : sz n = 8 + sz (n / 256) := sz_div (k := 8) (by show n / 256 ≠ 0; omega)
      have l2 : n / 256 < 256 := by omega
      rw [if_pos c2, e2, if_pos (by omega), if_pos (by omega), ltab_at' _ l2, w _ (by omega)]
      rw [z2, w64 (by omega) (by omega)]; congr 1 <;> omega
    · have e2 : (n : Int) % 256 = (n : Int) := by omega
      have l2 : n < 256 := by omega
      rw [if_neg c2, e2, if_pos (by omega), if_pos (by omega), ltab_at' _ l2, w _ (by omega)]
      rw [w64 (by omega) (by omega)]; congr 1 <;> omega
theorem LeadingZeros32_f (n : Nat) (h : n < 4294967296) : bits_LeadingZeros32.f (n : Int) = some ((32 - sz n : Nat) : Int) := by
  have hb : sz n ≤ 32 := sz_le (b := 32) h
  unfold bits_LeadingZeros32.f
  rw [Len32_f n h, Option.bind_some, w64 (by omega) (by omega)]; congr 1 <;> omega
theorem lz_shift {n : Nat} (h0 : n ≠ 0) (h : n < 4294967296) : 2147483648 ≤ n * 2 ^ (32 - sz n) ∧ n * 2 ^ (32 - sz n) < 4294967296 ∧ 32 - sz n ≤ 31 := by
  have hb : sz n ≤ 32 := sz_le (b := 32) h
  have h1 := sz_pos h0
  obtain ⟨h2, h3⟩ := sz_spec h0
  have e1 : (2147483648 : Nat) = 2 ^ (sz n - 1) * 2 ^ (32 - sz n) := by rw [← Nat.pow_add, show sz n - 1 + (32 - sz n) = 31 from by omega]
  have e2 : (4294967296 : Nat) = 2 ^ sz n * 2 ^ (32 - sz n) := by rw [← Nat.pow_add, show sz n + (32 - sz n) = 32 from by omega]
  refine ⟨?_, ?_, by omega⟩
  · rw [e1]; exact Nat.mul_le_mul_right _ h2
  · conv => rhs; rw [e2]
    exact Nat.mul_lt_mul_of_pos_right h3 (Nat.two_pow_pos _)
theorem mul_step {V V' Z0 p P q d bj zij c tm c' S : Nat} (h : V + p * c = Z0 + P * d * S) (hs : V' + p * zij = V + p * tm) (e : d * bj + zij + c = tm + 4294967296 * c') (hp : p = P * q) :
    V' + p * 4294967296 * c' = Z0 + P * d * (S + q * bj) := by
  have h1 : p * (d * bj + zij + c) = p * (tm + 4294967296 * c') := by rw [e]
  simp only [Nat.mul_add] at h1 ⊢
  have h2 : P * d * (q * bj) = p * (d * bj) := by rw [hp]; ac_rfl
  have h3 : p * 4294967296 * c' = p * (4294967296 * c') := by rw [Nat.mul_assoc]
  omega
def tv (d bj zij c : Nat) : Nat := d * bj + zij + c
theorem tv_lt {d bj zij c : Nat} (hd : d < 4294967296) (hb : bj < 4294967296) (hz : zij < 4294967296) (hc : c < 4294967296) : tv d bj zij c < 18446744073709551616 := by
  have := Nat.mul_le_mul (Nat.le_sub_one_of_lt hd) (Nat.le_sub_one_of_lt hb)
  unfold tv; omega
theorem inner {α : Type} {b : List Int} (hb : U b) (L i d : Nat) (hd : d < 4294967296) (hL : i + b.length < L) (F : Nat → List Int → Nat → Nat → Option α) (R : α) (v0 : Nat)
    (hstep : ∀ k z c j, j < b.length → z.length = L → U z → c < 4294967296 →
      F (k + 1) z c j = F k (z.set (i + j) ((tv d (rd b (j : Int)).toNat (rd z ((i + j : Nat) : Int)).toNat c % 4294967296 : Nat) : Int)) (tv d (rd b (j : Int)).toNat (rd z ((i + j : Nat) : Int)).toNat c / 4294967296) (j + 1))
    (hend : ∀ z c, z.length = L → U z → c < 4294967296 → valn z + pw (i + b.length) * c = v0 + pw i * d * valn b → valn (z.drop (i + b.length)) = 0 → Ev (fun k => F k z c b.length) R) (n : Nat) :
    ∀ (j : Nat) (z : List Int) (c : Nat), j + n = b.length → z.length = L → U z → c < 4294967296 → valn z + pw (i + j) * c = v0 + pw i * d * valn (b.take j) → valn (z.drop (i + b.length)) = 0 → Ev (fun k => F k z c j) R := by
  induction n with
  | zero =>
    intro j z c hj hz uz hc hv h0
    obtain rfl : j = b.length := by omega
    rw [List.take_of_length_le (Nat.le_refl _)] at hv
    exact hend z c hz uz hc hv h0
  | succ n ih =>
    intro j z c hj hz uz hc hv h0
    have b1 := U_rd hb (j : Int)
    have b2 := U_rd uz ((i + j : Nat) : Int)
    have ht := tv_lt (d := d) (bj := (rd b (j : Int)).toNat) (zij := (rd z ((i + j : Nat) : Int)).toNat) (c := c) hd (by omega) (by omega) hc
    refine Ev.step (fun k => hstep k z c j (by omega) hz uz hc) (ih (j + 1) _ _ (by omega) (by rw [List.length_set]; exact hz) (U_set uz (by omega) _) (by omega) ?_ ?_)
    · rw [valn_take_succ, ← Nat.add_assoc, pw_succ]
      have hs := valn_set z (i + j) ((tv d (rd b (j : Int)).toNat (rd z ((i + j : Nat) : Int)).toNat c % 4294967296 : Nat) : Int) (by omega)
      rw [Int.toNat_natCast] at hs
      exact mul_step hv hs (by have e : d * (rd b (j : Int)).toNat + (rd z ((i + j : Nat) : Int)).toNat + c = tv d (rd b (j : Int)).toNat (rd z ((i + j : Nat) : Int)).toNat c := rfl
                               rw [e]; omega) (pw_add i j)
    · rw [List.drop_set_of_lt (by omega)]; exact h0
theorem mulLoop {α : Type} {a b : List Int} (ha : U a) (hb : U b) (G : Nat → List Int → Nat → Option α) (F : Nat → Nat → List Int → Nat → Nat → Option α) (R : α)
    (h1 : ∀ k z i, i < a.length → z.length = a.length + b.length → G (k + 1) z i = F k i z 0 0)
    (h2 : ∀ k i z c j, i < a.length → j < b.length → z.length = a.length + b.length → U z → c < 4294967296 →
      F (k + 1) i z c j = F k i (z.set (i + j) ((tv (rd a (i : Int)).toNat (rd b (j : Int)).toNat (rd z ((i + j : Nat) : Int)).toNat c % 4294967296 : Nat) : Int)) (tv (rd a (i : Int)).toNat (rd b (j : Int)).toNat (rd z ((i + j : Nat) : Int)).toNat c / 4294967296) (j + 1))
    (h3 : ∀ k i z (c : Nat), i < a.length → z.length = a.length + b.length → c < 4294967296 → F (k + 1) i z c b.length = G k (z.set (i + b.length) (c : Int)) (i + 1))
    (h4 : ∀ z, U z → z.length = a.length + b.length → valn z = valn a * valn b → Ev (fun k => G k z a.length) R) : Ev (fun k => G k (List.replicate (a.length + b.length) 0) 0) R := by
  have go : ∀ (n i : Nat) (z : List Int), i + n = a.length → z.length = a.length + b.length → U z → valn z = valn (a.take i) * valn b → valn (z.drop (i + b.length)) = 0 → Ev (fun k => G k z i) R := by
    intro n
    induction n with
    | zero =>
      intro i z hi hz uz hv h0
      obtain rfl : i = a.length := by omega
      rw [List.take_of_length_le (Nat.le_refl _)] at hv
      exact h4 z uz hz hv
    | succ n ih =>
      intro i z hi hz uz hv h0
      have a1 := U_rd ha (i : Int)
      refine Ev.step (fun k => h1 k z i (by omega) hz) ?_
      refine inner hb (a.length + b.length) i (rd a (i : Int)).toNat (by omega) (by omega) (fun k z c j => F k i z c j) R (valn z) (fun k z c j hj hz uz hc => h2 k i z c j (by omega) hj hz uz hc) ?_ b.length 0 z 0 (by omega) hz uz (by omega) (by simp [valn_nil]) h0
      intro z' c hz' uz' hc hv' h0'
      refine Ev.step (fun k => h3 k i z' c (by omega) hz' hc) (ih (i + 1) _ (by omega) (by rw [List.length_set]; exact hz') (U_set uz' (by omega) _) ?_ ?_)
      · have hs := valn_set z' (i + b.length) (c : Int) (by omega)
        rw [Int.toNat_natCast] at hs
        have hr : (rd z' ((i + b.length : Nat) : Int)).toNat = 0 := by
          have := valn_drop_rd z' (i + b.length)
          omega
        rw [hr, Nat.mul_zero, Nat.add_zero] at hs
        rw [hs, hv', hv, valn_take_succ, Nat.add_mul]
      · rw [List.drop_set_of_lt (by omega)]
        have := valn_drop_rd z' (i + b.length)
        have e : i + 1 + b.length = i + b.length + 1 := by omega
        rw [e]; omega
  exact go a.length 0 _ (by omega) (by simp) (U_replicate _) (by simp [valn_replicate, valn_nil]) (by rw [List.drop_replicate]; exact valn_replicate _)
theorem times_f {a b : List Int} (ha : U a) (hb : U b) (hs : a.length + b.length < 35184372088832) : Ev (fun k => nat_times.f k a b) (lb (valn a * valn b)) := by
  have go := mulLoop ha hb (fun k z i => nat_times.l0 k b z a (a.length : Int) (i : Int)) (fun k i z c j => nat_times.l1 k b z (i : Int) (rd a (i : Int)) (c : Int) a (a.length : Int) (i : Int) b (b.length : Int) (j : Int)) (lb (valn a * valn b)) ?_ ?_ ?_ ?_
  · refine Ev.congr (fun k => ?_) go
    unfold nat_times.f
    have e : wrap64 ((a.length : Int) + (b.length : Int)) = ((a.length + b.length : Nat) : Int) := by rw [w64 (by omega) (by omega)]; rfl
    rw [e, if_pos (by omega), Int.toNat_natCast, if_pos (by omega)]; rfl
  · intro k z i hi hz
    simp only [nat_times.l0]
    rw [if_pos (by omega), if_pos (by omega), if_pos (by omega)]; rfl
  · intro k i z c j hi hj hz uz hc
    have a1 := U_rd ha (i : Int)
    have b1 := U_rd hb (j : Int)
    have b2 := U_rd uz ((i + j : Nat) : Int)
    have ht := tv_lt (d := (rd a (i : Int)).toNat) (bj := (rd b (j : Int)).toNat) (zij := (rd z ((i + j : Nat) : Int)).toNat) (c := c) (by omega) (by omega) (by omega) hc
    obtain ⟨A, hA⟩ : ∃ A : Nat, rd a (i : Int) = (A : Int) := ⟨(rd a (i : Int)).toNat, by omega⟩
    obtain ⟨B, hB⟩ : ∃ B : Nat, rd b (j : Int) = (B : Int) := ⟨(rd b (j : Int)).toNat, by omega⟩
    obtain ⟨Z, hZ⟩ : ∃ Z : Nat, rd z ((i + j : Nat) : Int) = (Z : Int) := ⟨(rd z ((i + j : Nat) : Int)).toNat, by omega⟩
    have eij : wrap64 ((i : Int) + (j : Int)) = ((i + j : Nat) : Int) := by rw [w64 (by omega) (by omega)]; rfl
    simp only [nat_times.l1]
    rw [if_pos (by omega), if_pos (by omega), if_pos (by omega), eij]
    clear eij
    rw [hA, hB, hZ] at ht ⊢
    simp only [Int.toNat_natCast] at ht ⊢
    have hp : A * B ≤ tv A B Z c := by unfold tv; omega
    have ht2 : A * B + Z + c < 18446744073709551616 := ht
    have e1 : IntKind.u64.wrap (A : Int) = (A : Int) := u64 (by omega) (by omega)
    have e2 : IntKind.u64.wrap (B : Int) = (B : Int) := u64 (by omega) (by omega)
    have e3 : IntKind.u64.wrap (Z : Int) = (Z : Int) := u64 (by omega) (by omega)
    have e4 : IntKind.u64.wrap ((A : Int) * (B : Int)) = ((A * B : Nat) : Int) := by rw [← Int.natCast_mul]; exact u64 (Int.natCast_nonneg _) (by omega)
    have e5 : IntKind.u64.wrap (((A * B : Nat) : Int) + (Z : Int)) = ((A * B + Z : Nat) : Int) := by
      rw [← Int.natCast_add]; exact u64 (Int.natCast_nonneg _) (by
        have : A * B + Z ≤ tv A B Z c := by unfold tv; omega
        omega)
    have e6 : IntKind.u64.wrap (((A * B + Z : Nat) : Int) + (c : Int)) = ((tv A B Z c : Nat) : Int) := by
      rw [← Int.natCast_add]; exact u64 (Int.natCast_nonneg _) (by omega)
    rw [e1, e2, e3, e4, e5, e6]
    clear e1 e2 e3 e4 e5 e6
    generalize tv A B Z c = t at ht ⊢
    have em : ((t : Nat) : Int) % 4294967296 = ((t % 4294967296 : Nat) : Int) := by omega
    have ed : ((t : Nat) : Int) / 4294967296 = ((t / 4294967296 : Nat) : Int) := by omega
    rw [if_pos (by omega), if_pos (by omega), em, ed, up j (by omega)]
  · intro k i z c hi hz hc
    have eij : wrap64 ((i : Int) + (b.length : Int)) = ((i + b.length : Nat) : Int) := by rw [w64 (by omega) (by omega)]; rfl
    have ec : ((c : Nat) : Int) % 4294967296 = (c : Int) := by omega
    simp only [nat_times.l1]
    rw [if_neg (by omega), eij, ec]
    clear eij ec
    rw [if_pos (by omega), if_pos (by omega), up i (by omega), Int.toNat_natCast]
  · intro z uz hz hv
    have h := short_f uz (by omega)
    rw [hv] at h
    refine Ev.step (f := fun k => (nat_short.f k z).bind some) (fun k => ?_) (Ev.bind h (Ev.now _))
    simp only [nat_times.l0]
    rw [if_neg (by omega)]
def prodv (ls : List (List Int)) : Nat := (ls.map valn).foldr (· * ·) 1
def lensum (ls : List (List Int)) : Nat := (ls.map List.length).sum
theorem Mul_l0 {ls : List (List Int)} (hU : ∀ l ∈ ls, U l) (hL : ls.length ≤ 9223372036854775807) (n0 : Nat) (n : Nat) : ∀ (i : Nat) (s m : Nat), i + n = ls.length → s < pw m → m + lensum (ls.drop i) ≤ n0 → n0 < 35184372088832 →
    Ev (fun k => nat_Mul.l0 k (lb s) ls (ls.length : Int) (i : Int)) (lb (s * prodv (ls.drop i))) := by
  induction n with
  | zero =>
    intro i s m hi hlt hm hn
    obtain rfl : i = ls.length := by omega
    have hlen := lb_len_le hlt
    have h := Trim_f (U_lb s) (by omega)
    rw [valn_lb] at h
    have e : s * prodv (ls.drop ls.length) = s := by simp [prodv]
    rw [e]
    refine Ev.step (f := fun k => (nat_Trim.f k (lb s)).bind some) (fun k => ?_) (Ev.bind h (Ev.now _))
    simp only [nat_Mul.l0]
    rw [if_neg (by omega)]
  | succ n ih =>
    intro i s m hi hlt hm hn
    have hmem := rdL4_mem ls i (by omega)
    have hd := rdL4_at ls i (by omega)
    rw [hd] at hm ⊢
    have hm' : m + ((rd_L4 ls (i : Int)).length + lensum (ls.drop (i + 1))) ≤ n0 := by simpa [lensum] using hm
    have hlen := lb_len_le hlt
    have hlen2 := lb_len (hU _ hmem)
    have h1 := short_f (hU _ hmem) (by omega)
    have h2 := times_f (U_lb s) (U_lb (valn (rd_L4 ls (i : Int)))) (by omega)
    rw [valn_lb, valn_lb] at h2
    have hlt2 : s * valn (rd_L4 ls (i : Int)) < pw (m + (rd_L4 ls (i : Int)).length) := by
      rw [pw_add]
      exact Nat.mul_lt_mul'' hlt (valn_lt (hU _ hmem))
    have h3 := ih (i + 1) _ _ (by omega) hlt2 (by omega) hn
    have e : s * prodv (rd_L4 ls (i : Int) :: ls.drop (i + 1)) = s * valn (rd_L4 ls (i : Int)) * prodv (ls.drop (i + 1)) := by
      simp only [prodv, List.map_cons, List.foldr_cons, Nat.mul_assoc]
    rw [e]
    refine Ev.step (f := fun k => (nat_short.f k (rd_L4 ls (i : Int))).bind fun t => (nat_times.f k (lb s) t).bind fun t' => nat_Mul.l0 k t' ls (ls.length : Int) ((i + 1 : Nat) : Int)) (fun k => ?_) (Ev.bind h1 (Ev.bind h2 h3))
    simp only [nat_Mul.l0]
    rw [if_pos (by omega), if_pos (by omega), if_pos (by omega), up i (by omega)]
theorem lb_one : lb 1 = [1] := by rw [lb_pos (by omega)]; simp [lb_zero]
theorem Mul_f {ls : List (List Int)} (hU : ∀ l ∈ ls, U l) (hs : lensum ls < 35184372088831) (hn : ls.length ≤ 9223372036854775807) : Ev (fun k => nat_Mul.f k ls) (lb (prodv ls)) := by
  have h := Mul_l0 hU hn (1 + lensum ls) ls.length 0 1 1 (by omega) (by rw [pw_succ, pw_zero]; omega) (by simp) (by omega)
  rw [lb_one] at h
  simpa [nat_Mul.f] using h
theorem Mul_two {a b : List Int} (ha : U a) (hb : U b) (hs : a.length + b.length < 30000000000000) : Ev (fun k => nat_Mul.f k [a, b]) (lb (valn a * valn b)) := by
  have h := Mul_f (ls := [a, b]) (by intro l hl; simp at hl; rcases hl with rfl | rfl <;> assumption) (by simp [lensum]; omega) (by simp)
  simpa [prodv] using h
theorem addij (i j : Nat) (h : i + j < 9223372036854775807) : wrap64 ((i : Int) + (j : Int)) = ((i + j : Nat) : Int) := by rw [w64 (by omega) (by omega)]; rfl
theorem limb_f {l : List Int} (h : U l) (i : Nat) : codewrightref01_limb.f l (i : Int) = some (rd l (i : Int)) := by
  unfold codewrightref01_limb.f
  by_cases hi : i < l.length
  · have := U_rd h (i : Int)
    rw [if_pos (by omega), if_pos (by omega), u64 (by omega) (by omega)]
  · rw [if_neg (by omega), rd_ge l i (by omega)]
theorem tmod_nat (s : Nat) : Int.tmod (s : Int) 4294967296 = ((s % 4294967296 : Nat) : Int) := rfl
theorem tdiv_nat (s : Nat) : Int.tdiv (s : Int) 4294967296 = ((s / 4294967296 : Nat) : Int) := rfl
theorem radd_l0 {a b : List Int} (ha : U a) (hb : U b) (hsa : a.length < 30000000000000) (hsb : b.length < 30000000000000) (n : Nat) : ∀ (i : Nat) (z : List Int) (c : Nat), i + n = a.length + b.length + 1 → z.length = i → U z → c ≤ 1 → (max a.length b.length < i → c = 0) → i ≤ max a.length b.length + 1 →
    valn z + pw i * c = valn (a.take i) + valn (b.take i) →
    Ev (fun k => codewrightref01_Add.l0 k a b z (c : Int) (i : Int)) (lb (valn a + valn b)) := by
  induction n with
  | zero =>
    intro i z c hi hz uz hc hc0 hm hv
    have ec : c = 0 := by
      by_cases h : max a.length b.length < i
      · exact hc0 h
      · omega
    subst ec
    rw [Nat.mul_zero, Nat.add_zero, List.take_of_length_le (by omega), List.take_of_length_le (by omega)] at hv
    have h := rTrim_f uz (by omega)
    rw [hv] at h
    refine Ev.step (f := fun k => codewrightref01_Add.j1 k a b z (0 : Nat) (i : Int) false) (fun k => ?_) ?_
    · simp only [codewrightref01_Add.l0]
      rw [if_neg (by omega), if_neg (by omega)]; rfl
    · refine Ev.step (f := fun k => (codewrightref01_Trim.f k z).bind some) (fun k => ?_) (Ev.bind h (Ev.now _))
      simp only [codewrightref01_Add.j1]
      rw [if_neg (by simp)]
  | succ n ih =>
    intro i z c hi hz uz hc hc0 hm hv
    by_cases more : i < a.length ∨ i < b.length ∨ 0 < c
    · have h0 := U_rd ha (i : Int)
      have h1 := U_rd hb (i : Int)
      obtain ⟨s, hs1⟩ : ∃ s : Nat, rd a (i : Int) + rd b (i : Int) + (c : Int) = (s : Int) := ⟨(rd a (i : Int) + rd b (i : Int) + (c : Int)).toNat, by omega⟩
      have him : i ≤ max a.length b.length := by
        rcases more with h | h | h
        · omega
        · omega
        · by_cases h' : max a.length b.length < i
          · have := hc0 h'; omega
          · omega
      have step := ih (i + 1) (z ++ [((s % 4294967296 : Nat) : Int)]) (s / 4294967296) (by omega) (by simp [hz]) (U_append uz (U_cons (by omega) U_nil)) (by omega) (by
        intro hlt
        have e : i = max a.length b.length := by omega
        have r1 := rd_ge a i (by omega)
        have r2 := rd_ge b i (by omega)
        omega) (by omega) (by
        rw [valn_append, hz, valn_cons, valn_nil, valn_take_succ a, valn_take_succ b, pw_succ, Int.toNat_natCast, Nat.mul_zero, Nat.add_zero]
        exact step_val hv (by omega))
      refine Ev.step (f := fun k => codewrightref01_Add.j1 k a b z (c : Int) (i : Int) true) (fun k => ?_) (Ev.step (fun k => ?_) step)
      · simp only [codewrightref01_Add.l0]
        by_cases p1 : i < a.length
        · rw [if_pos (by omega)]
        · rw [if_neg (by omega)]
          by_cases p2 : i < b.length
          · rw [if_pos (by omega)]
          · rw [if_neg (by omega), decide_eq_true (by omega : (c : Int) > 0)]
      · simp only [codewrightref01_Add.j1]
        rw [if_pos trivial, limb_f ha, limb_f hb, Option.bind_some, Option.bind_some, if_pos (by omega), u64 (x := rd a (i : Int) + rd b (i : Int)) (by omega) (by omega), u64 (x := rd a (i : Int) + rd b (i : Int) + (c : Int)) (by omega) (by omega), hs1, tmod_nat, tdiv_nat, u64 (x := ((s / 4294967296 : Nat) : Int)) (by omega) (by omega), up i (by omega)]
        have em : (((s % 4294967296 : Nat) : Int)) % 4294967296 = ((s % 4294967296 : Nat) : Int) := by omega
        rw [em]
    · have ec : c = 0 := by omega
      subst ec
      rw [Nat.mul_zero, Nat.add_zero, List.take_of_length_le (by omega), List.take_of_length_le (by omega)] at hv
      have h := rTrim_f uz (by omega)
      rw [hv] at h
      refine Ev.step (f := fun k => codewrightref01_Add.j1 k a b z (0 : Nat) (i : Int) false) (fun k => ?_) ?_
      · simp only [codewrightref01_Add.l0]
        rw [if_neg (by omega), if_neg (by omega)]; rfl
      · refine Ev.step (f := fun k => (codewrightref01_Trim.f k z).bind some) (fun k => ?_) (Ev.bind h (Ev.now _))
        simp only [codewrightref01_Add.j1]
        rw [if_neg (by simp)]
theorem rAdd_f {a b : List Int} (ha : U a) (hb : U b) (hsa : a.length < 30000000000000) (hsb : b.length < 30000000000000) : Ev (fun k => codewrightref01_Add.f k a b) (lb (valn a + valn b)) := by
  have h := radd_l0 ha hb (by omega) (by omega) (a.length + b.length + 1) 0 [] 0 (by omega) rfl U_nil (by omega) (by omega) (by omega) (by simp [valn_nil])
  exact h
theorem rMul_f {a b : List Int} (ha : U a) (hb : U b) (hs : a.length + b.length < 35184372088832) : Ev (fun k => codewrightref01_Mul.f k a b) (lb (valn a * valn b)) := by
  have go := mulLoop ha hb (fun k z i => codewrightref01_Mul.l0 k a b z (i : Int)) (fun k i z c j => codewrightref01_Mul.l1 k a b z (i : Int) (c : Int) (j : Int)) (lb (valn a * valn b)) ?_ ?_ ?_ ?_
  · refine Ev.congr (fun k => ?_) go
    unfold codewrightref01_Mul.f
    have e : wrap64 ((a.length : Int) + (b.length : Int)) = ((a.length + b.length : Nat) : Int) := by rw [w64 (by omega) (by omega)]; rfl
    rw [e, if_pos (by omega), Int.toNat_natCast, if_pos (by omega)]; rfl
  · intro k z i hi hz
    simp only [codewrightref01_Mul.l0]
    rw [if_pos (by omega)]; rfl
  · intro k i z c j hi hj hz uz hc
    have a1 := U_rd ha (i : Int)
    have b1 := U_rd hb (j : Int)
    have b2 := U_rd uz ((i + j : Nat) : Int)
    have ht := tv_lt (d := (rd a (i : Int)).toNat) (bj := (rd b (j : Int)).toNat) (zij := (rd z ((i + j : Nat) : Int)).toNat) (c := c) (by omega) (by omega) (by omega) hc
    obtain ⟨A, hA⟩ : ∃ A : Nat, rd a (i : Int) = (A : Int) := ⟨(rd a (i : Int)).toNat, by omega⟩
    obtain ⟨B, hB⟩ : ∃ B : Nat, rd b (j : Int) = (B : Int) := ⟨(rd b (j : Int)).toNat, by omega⟩
    obtain ⟨Z, hZ⟩ : ∃ Z : Nat, rd z ((i + j : Nat) : Int) = (Z : Int) := ⟨(rd z ((i + j : Nat) : Int)).toNat, by omega⟩
    simp only [codewrightref01_Mul.l1]
    rw [if_pos (by omega), if_pos (by omega), if_pos (by omega), if_pos (by omega), addij i j (by omega)]
    rw [hA, hB, hZ] at ht ⊢
    simp only [Int.toNat_natCast] at ht ⊢
    have hp : A * B ≤ tv A B Z c := by unfold tv; omega
    have ht2 : A * B + Z + c < 18446744073709551616 := ht
    have e1 : IntKind.u64.wrap (A : Int) = (A : Int) := u64 (by omega) (by omega)
    have e2 : IntKind.u64.wrap (B : Int) = (B : Int) := u64 (by omega) (by omega)
    have e3 : IntKind.u64.wrap (Z : Int) = (Z : Int) := u64 (by omega) (by omega)
    have e4 : IntKind.u64.wrap ((A : Int) * (B : Int)) = ((A * B : Nat) : Int) := by rw [← Int.natCast_mul]; exact u64 (Int.natCast_nonneg _) (by omega)
    have e5 : IntKind.u64.wrap (((A * B : Nat) : Int) + (Z : Int)) = ((A * B + Z : Nat) : Int) := by
      rw [← Int.natCast_add]; exact u64 (Int.natCast_nonneg _) (by omega)
    have e6 : IntKind.u64.wrap (((A * B + Z : Nat) : Int) + (c : Int)) = ((tv A B Z c : Nat) : Int) := by
      rw [← Int.natCast_add]; exact u64 (Int.natCast_nonneg _) (by omega)
    rw [e1, e2, e3, e4, e5, e6]
    clear e1 e2 e3 e4 e5 e6
    generalize tv A B Z c = t at ht ⊢
    rw [tmod_nat, tdiv_nat, u64 (x := ((t / 4294967296 : Nat) : Int)) (by omega) (by omega)]
    have em : ((t % 4294967296 : Nat) : Int) % 4294967296 = ((t % 4294967296 : Nat) : Int) := by omega
    rw [if_pos (by omega), if_pos (by omega), em, up j (by omega)]
  · intro k i z c hi hz hc
    have ec : ((c : Nat) : Int) % 4294967296 = (c : Int) := by omega
    simp only [codewrightref01_Mul.l1]
    rw [if_neg (by omega), addij i b.length (by omega), ec]
    clear ec
    rw [if_pos (by omega), if_pos (by omega), up i (by omega), Int.toNat_natCast]
  · intro z uz hz hv
    have h := rTrim_f uz (by omega)
    rw [hv] at h
    refine Ev.step (f := fun k => (codewrightref01_Trim.f k z).bind some) (fun k => ?_) (Ev.bind h (Ev.now _))
    simp only [codewrightref01_Mul.l0]
    rw [if_neg (by omega)]
def cmpn (m n : Nat) : Int := if m < n then -1 else if n < m then 1 else 0
theorem cmpn_self (m : Nat) : cmpn m m = 0 := by simp [cmpn]
theorem valn_split (l : List Int) (n : Nat) : valn l = valn (l.take n) + pw n * valn (l.drop n) := by
  by_cases h : n ≤ l.length
  · exact valn_take_drop l n h
  · rw [List.take_of_length_le (by omega), List.drop_eq_nil_of_le (by omega), valn_nil]; simp
theorem take_lt {l : List Int} (h : U l) (n : Nat) : valn (l.take n) < pw n :=
  Nat.lt_of_lt_of_le (valn_lt (U_take h n)) (pw_mono (by rw [List.length_take]; omega))
theorem top_lt {a b : List Int} (ha : U a) (n : Nat) (hd : valn (a.drop (n + 1)) = valn (b.drop (n + 1))) (h : (rd a (n : Int)).toNat < (rd b (n : Int)).toNat) : valn a < valn b := by
  have h1 := take_lt ha n
  have h2 := valn_split a n
  have h3 := valn_split b n
  have h4 := valn_drop_rd a n
  have h5 := valn_drop_rd b n
  have h6 : pw n * (valn (a.drop n) + 1) ≤ pw n * valn (b.drop n) := Nat.mul_le_mul_left _ (by omega)
  rw [Nat.mul_add] at h6
  omega
theorem Cmp_l0 {a b : List Int} (ha : U a) (hb : U b) (he : a.length = b.length) (hs : a.length < 9223372036854775807) : ∀ n : Nat, n ≤ a.length → valn (a.drop n) = valn (b.drop n) →
    Ev (fun k => nat_Cmp.l0 k a b ((n : Int) - 1)) (cmpn (valn a) (valn b)) := by
  intro n
  induction n with
  | zero =>
    intro hn hd
    simp only [List.drop_zero] at hd
    rw [hd, cmpn_self]
    refine Ev.step (f := fun _ => some 0) (fun k => ?_) (Ev.now _)
    simp only [nat_Cmp.l0]
    rw [if_neg (by omega)]
  | succ n ih =>
    intro hn hd
    have e1 : ((n + 1 : Nat) : Int) - 1 = (n : Int) := by omega
    have a1 := U_rd ha (n : Int)
    have b1 := U_rd hb (n : Int)
    rw [e1]
    by_cases h1 : rd a (n : Int) < rd b (n : Int)
    · have := top_lt ha n hd (by omega)
      have ec : cmpn (valn a) (valn b) = -1 := by unfold cmpn; rw [if_pos this]
      rw [ec]
      refine Ev.step (f := fun _ => some (-1)) (fun k => ?_) (Ev.now _)
      simp only [nat_Cmp.l0]
      rw [if_pos (by omega), if_pos (by omega), if_pos (by omega), if_pos (by omega), if_pos h1]
    · by_cases h2 : rd b (n : Int) < rd a (n : Int)
      · have := top_lt hb n hd.symm (by omega)
        have ec : cmpn (valn a) (valn b) = 1 := by unfold cmpn; rw [if_neg (by omega), if_pos this]
        rw [ec]
        refine Ev.step (f := fun _ => some 1) (fun k => ?_) (Ev.now _)
        simp only [nat_Cmp.l0]
        rw [if_pos (by omega), if_pos (by omega), if_pos (by omega), if_pos (by omega), if_neg h1, if_pos (by omega)]
      · refine Ev.step (f := fun k => nat_Cmp.l0 k a b ((n : Int) - 1)) (fun k => ?_) (ih (by omega) (by have := valn_drop_rd a n; have := valn_drop_rd b n; omega))
        simp only [nat_Cmp.l0]
        rw [if_pos (by omega), if_pos (by omega), if_pos (by omega), if_pos (by omega), if_neg h1, if_neg (by omega), w64 (by omega) (by omega)]
theorem Cmp_f {a b : List Int} (ha : U a) (hb : U b) (hsa : a.length < 9223372036854775807) (hsb : b.length < 9223372036854775807) : Ev (fun k => nat_Cmp.f k a b) (cmpn (valn a) (valn b)) := by
  unfold nat_Cmp.f
  refine Ev.bind (short_f ha (by omega)) (Ev.bind (short_f hb (by omega)) ?_)
  have la := lb_len ha
  have lbb := lb_len hb
  by_cases h : (lb (valn a)).length = (lb (valn b)).length
  · have go := Cmp_l0 (U_lb (valn a)) (U_lb (valn b)) h (by omega) (lb (valn a)).length (Nat.le_refl _) (by rw [List.drop_eq_nil_of_le (Nat.le_refl _), List.drop_eq_nil_of_le (by omega)])
    rw [valn_lb, valn_lb] at go
    refine Ev.congr (fun k => ?_) go
    rw [if_pos (by omega), w64 (by omega) (by omega)]
  · by_cases h2 : (lb (valn a)).length < (lb (valn b)).length
    · have ec : cmpn (valn a) (valn b) = -1 := by unfold cmpn; rw [if_pos (len_lt_of_lt h2)]
      rw [ec]
      refine Ev.congr (f := fun _ => some (-1)) (fun k => ?_) (Ev.now _)
      rw [if_neg (by omega), if_pos (by omega)]
    · have := len_lt_of_lt (m := valn b) (n := valn a) (by omega)
      have ec : cmpn (valn a) (valn b) = 1 := by unfold cmpn; rw [if_neg (by omega), if_pos this]
      rw [ec]
      refine Ev.congr (f := fun _ => some 1) (fun k => ?_) (Ev.now _)
      rw [if_neg (by omega), if_neg (by omega)]
theorem rCmp_l0 {a b : List Int} (ha : U a) (hb : U b) : ∀ n : Nat, n < 9223372036854775807 → valn (a.drop n) = valn (b.drop n) →
    Ev (fun k => codewrightref01_Cmp.l0 k a b ((n : Int) - 1)) (cmpn (valn a) (valn b)) := by
  intro n
  induction n with
  | zero =>
    intro hn hd
    simp only [List.drop_zero] at hd
    rw [hd, cmpn_self]
    refine Ev.step (f := fun _ => some 0) (fun k => ?_) (Ev.now _)
    simp only [codewrightref01_Cmp.l0]
    rw [if_neg (by omega)]
  | succ n ih =>
    intro hn hd
    have e1 : ((n + 1 : Nat) : Int) - 1 = (n : Int) := by omega
    have a1 := U_rd ha (n : Int)
    have b1 := U_rd hb (n : Int)
    rw [e1]
    by_cases h1 : rd a (n : Int) < rd b (n : Int)
    · have := top_lt ha n hd (by omega)
      have ec : cmpn (valn a) (valn b) = -1 := by unfold cmpn; rw [if_pos this]
      rw [ec]
      refine Ev.step (f := fun _ => some (-1)) (fun k => ?_) (Ev.now _)
      simp only [codewrightref01_Cmp.l0, limb_f ha, limb_f hb, Option.bind_some]
      rw [if_pos (by omega), if_pos h1]
    · by_cases h2 : rd b (n : Int) < rd a (n : Int)
      · have := top_lt hb n hd.symm (by omega)
        have ec : cmpn (valn a) (valn b) = 1 := by unfold cmpn; rw [if_neg (by omega), if_pos this]
        rw [ec]
        refine Ev.step (f := fun _ => some 1) (fun k => ?_) (Ev.now _)
        simp only [codewrightref01_Cmp.l0, limb_f ha, limb_f hb, Option.bind_some]
        rw [if_pos (by omega), if_neg h1, if_pos (by omega)]
      · refine Ev.step (f := fun k => codewrightref01_Cmp.l0 k a b ((n : Int) - 1)) (fun k => ?_) (ih (by omega) (by have := valn_drop_rd a n; have := valn_drop_rd b n; omega))
        simp only [codewrightref01_Cmp.l0, limb_f ha, limb_f hb, Option.bind_some]
        rw [if_pos (by omega), if_neg h1, if_neg (by omega), w64 (by omega) (by omega)]
theorem rCmp_f {a b : List Int} (ha : U a) (hb : U b) (hsa : a.length < 9223372036854775807) (hsb : b.length < 9223372036854775807) : Ev (fun k => codewrightref01_Cmp.f k a b) (cmpn (valn a) (valn b)) := by
  have go := rCmp_l0 ha hb (max a.length b.length) (by omega) (by rw [List.drop_eq_nil_of_le (by omega), List.drop_eq_nil_of_le (by omega)])
  refine Ev.congr (fun k => ?_) go
  unfold codewrightref01_Cmp.f mx
  have e : (if (a.length : Int) < (b.length : Int) then (b.length : Int) else (a.length : Int)) = ((max a.length b.length : Nat) : Int) := by omega
  rw [w64 (by omega) (by omega)]
  congr 1; omega
theorem Same_l0 {a b : List Int} (he : a.length = b.length) (hs : a.length < 9223372036854775807) (n : Nat) : ∀ i : Nat, i + n = a.length → a.take i = b.take i →
    Ev (fun k => codewrightref01_Same.l0 k a b (i : Int)) (decide (a = b)) := by
  induction n with
  | zero =>
    intro i hi ht
    rw [List.take_of_length_le (by omega), List.take_of_length_le (by omega)] at ht
    rw [decide_eq_true ht]
    refine Ev.step (f := fun _ => some true) (fun k => ?_) (Ev.now _)
    simp only [codewrightref01_Same.l0]
    rw [if_neg (by omega)]
  | succ n ih =>
    intro i hi ht
    by_cases e : rd a (i : Int) = rd b (i : Int)
    · refine Ev.step (fun k => ?_) (ih (i + 1) (by omega) (by rw [take_rd a i (by omega), take_rd b i (by omega), ht, e]))
      simp only [codewrightref01_Same.l0]
      rw [if_pos (by omega), if_pos (by omega), if_pos (by omega), if_pos e, up i (by omega)]
    · have hne : a ≠ b := by rintro rfl; exact e rfl
      rw [decide_eq_false hne]
      refine Ev.step (f := fun _ => some false) (fun k => ?_) (Ev.now _)
      simp only [codewrightref01_Same.l0]
      rw [if_pos (by omega), if_pos (by omega), if_pos (by omega), if_neg e]
theorem Same_f {a b : List Int} (hs : a.length < 9223372036854775807) : Ev (fun k => codewrightref01_Same.f k a b) (decide (a = b)) := by
  unfold codewrightref01_Same.f
  by_cases h : a.length = b.length
  · exact Ev.congr (fun k => if_pos (by omega)) (Same_l0 h hs a.length 0 (by omega) rfl)
  · have hne : a ≠ b := by rintro rfl; exact h rfl
    rw [decide_eq_false hne]
    exact Ev.congr (f := fun _ => some false) (fun k => if_neg (by omega)) (Ev.now _)
end Go.Proofs.Ytecfdemglbfnoaa.Num
end
section
namespace Go.Proofs.Ytecfdemglbfnoaa.PT
open Go.RowKit Go.Proofs.YtecfdemglbfnoaaW.PrintWords Go.Proofs.YtecfdemglbfnoaaW.PrintLast Go.Proofs.YtecfdemglbfnoaaW.PrintMore
attribute [local go_sem] max2_int min2_int max_two min_two max_three min_three max_four min_four   -- for this text's walks alone
set_option linter.unusedVariables false
set_option linter.unusedSimpArgs false
mutual
def nat_step.j1 : Nat → List Int → List Int → Int → Int → Option (Int × List Int)
  | 0, _, _, _, _ => none
  | k + 1, x0, x1, x5, x7 => nat_step.l1 k x0 x1 x5 x7 0 0 (x1.length : Int) 0
def nat_step.l1 : Nat → List Int → List Int → Int → Int → Int → Int → Int → Int → Option (Int × List Int)
  | 0, _, _, _, _, _, _, _, _ => none
  | k + 1, x0, x1, x5, x7, x9, x10, x85, x86 => if x86 < x85 then (if 0 ≤ x86 then (if x86 < (x1.length : Int) then (if x86 < (x0.length : Int) then (nat_step.l1 k (x0.set (x86 : Int).toNat ((IntKind.u64.wrap ((IntKind.u64.wrap ((IntKind.u64.wrap (rd x0 x86)) - ((IntKind.u64.wrap ((IntKind.u64.wrap (x7 * (IntKind.u64.wrap (rd x1 x86)))) + x10)) % 4294967296))) - x9)) % 4294967296)) x1 x5 x7 ((IntKind.u64.wrap ((IntKind.u64.wrap ((IntKind.u64.wrap (rd x0 x86)) - ((IntKind.u64.wrap ((IntKind.u64.wrap (x7 * (IntKind.u64.wrap (rd x1 x86)))) + x10)) % 4294967296))) - x9)) / 9223372036854775808) ((IntKind.u64.wrap ((IntKind.u64.wrap (x7 * (IntKind.u64.wrap (rd x1 x86)))) + x10)) / 4294967296) x85 (wrap64 (x86 + 1))) else (none)) else (none)) else (none)) else (if 0 ≤ x5 then (if x5 < (x0.length : Int) then ((some (x0.set (x5 : Int).toNat ((IntKind.u64.wrap ((IntKind.u64.wrap ((IntKind.u64.wrap (rd x0 x5)) - x10)) - x9)) % 4294967296) : List Int)).bind fun y960 => (if ((IntKind.u64.wrap ((IntKind.u64.wrap ((IntKind.u64.wrap (rd x0 x5)) - x10)) - x9)) / 9223372036854775808) = 0 then (some ((x7) % 4294967296, y960)) else (nat_step.l2 k y960 x1 x5 x7 0 (x1.length : Int) 0))) else (none)) else (none))
def nat_step.l2 : Nat → List Int → List Int → Int → Int → Int → Int → Int → Option (Int × List Int)
  | 0, _, _, _, _, _, _, _ => none
  | k + 1, x0, x1, x5, x7, x10, x139, x140 => if x140 < x139 then (if 0 ≤ x140 then (if x140 < (x0.length : Int) then (if x140 < (x1.length : Int) then (nat_step.l2 k (x0.set (x140 : Int).toNat ((IntKind.u64.wrap ((IntKind.u64.wrap ((IntKind.u64.wrap (rd x0 x140)) + (IntKind.u64.wrap (rd x1 x140)))) + x10)) % 4294967296)) x1 x5 x7 ((IntKind.u64.wrap ((IntKind.u64.wrap ((IntKind.u64.wrap (rd x0 x140)) + (IntKind.u64.wrap (rd x1 x140)))) + x10)) / 4294967296) x139 (wrap64 (x140 + 1))) else (none)) else (none)) else (none)) else (if 0 ≤ x5 then (if x5 < (x0.length : Int) then (some ((IntKind.u64.wrap (x7 - 1)) % 4294967296, (x0.set (x5 : Int).toNat (((rd x0 x5) + ((x10) % 4294967296)) % 4294967296)))) else (none)) else (none))
def nat_step.l0 : Nat → List Int → List Int → Int → Int → Int → Option (Int × List Int)
  | 0, _, _, _, _, _ => none
  | k + 1, x0, x1, x5, x7, x8 => if x8 < 4294967296 then (if x7 ≥ 4294967296 then (if 0 ≤ (wrap64 (x5 - 1)) then (if (wrap64 (x5 - 1)) < (x1.length : Int) then (nat_step.l0 k x0 x1 x5 (IntKind.u64.wrap (x7 - 1)) (IntKind.u64.wrap (x8 + (IntKind.u64.wrap (rd x1 (wrap64 (x5 - 1))))))) else (none)) else (none)) else (if 0 ≤ (wrap64 (x5 - 2)) then (if (wrap64 (x5 - 2)) < (x1.length : Int) then (if (wrap64 (x5 - 2)) < (x0.length : Int) then (if (IntKind.u64.wrap (x7 * (IntKind.u64.wrap (rd x1 (wrap64 (x5 - 2)))))) > (Go.bits .or .u64 (IntKind.u64.wrap (x8 * 4294967296)) (IntKind.u64.wrap (rd x0 (wrap64 (x5 - 2))))) then (if 0 ≤ (wrap64 (x5 - 1)) then (if (wrap64 (x5 - 1)) < (x1.length : Int) then (nat_step.l0 k x0 x1 x5 (IntKind.u64.wrap (x7 - 1)) (IntKind.u64.wrap (x8 + (IntKind.u64.wrap (rd x1 (wrap64 (x5 - 1))))))) else (none)) else (none)) else (nat_step.j1 k x0 x1 x5 x7)) else (none)) else (none)) else (none))) else (nat_step.j1 k x0 x1 x5 x7)
end
def nat_step.f (k : Nat) (l0 : List Int) (l1 : List Int) : Option (Int × List Int) := if 0 ≤ (l1.length : Int) then (if (l1.length : Int) < (l0.length : Int) then (if 0 ≤ (wrap64 ((l1.length : Int) - 1)) then (if (wrap64 ((l1.length : Int) - 1)) < (l0.length : Int) then (if (wrap64 ((l1.length : Int) - 1)) < (l1.length : Int) then (if (IntKind.u64.wrap (rd l1 (wrap64 ((l1.length : Int) - 1)))) = 0 then (none) else (nat_step.l0 k l0 l1 (l1.length : Int) (IntKind.u64.wrap (Int.tdiv (Go.bits .or .u64 (IntKind.u64.wrap ((IntKind.u64.wrap (rd l0 (l1.length : Int))) * 4294967296)) (IntKind.u64.wrap (rd l0 (wrap64 ((l1.length : Int) - 1))))) (IntKind.u64.wrap (rd l1 (wrap64 ((l1.length : Int) - 1)))))) (Int.tmod (Go.bits .or .u64 (IntKind.u64.wrap ((IntKind.u64.wrap (rd l0 (l1.length : Int))) * 4294967296)) (IntKind.u64.wrap (rd l0 (wrap64 ((l1.length : Int) - 1))))) (IntKind.u64.wrap (rd l1 (wrap64 ((l1.length : Int) - 1))))))) else (none)) else (none)) else (none)) else (none)) else (none)
set_option maxHeartbeats 8000000 in
set_option maxRecDepth 100000 in
theorem nat_step.calls (k : Nat) (P0_ : Nat → Prop) (g o N cap co11 : Nat) (zs : List Int) (l0 : List Int) (A1 : Option Addr) (c1 : Nat) (l1 : List Int) (r1 : Int) (r2 : List Int) (w0 w : World) (hB : Below w0.heap.size w0 w) (ho0 : Wn g o N cap l0.length zs w w0.heap.size P0_ l0) (hco : l0.length ≤ co11) (hr1 : ∀ W_, Kept w W_ (fun k_ => P0_ k_) → Kd.C (Kd.int .u32) W_ A1 l1.length l1) (hc1 : l1.length ≤ c1) (h : nat_step.f k l0 l1 = some (r1, r2)) :
 Calls Try.prog 190 #[.slice (some ⟨g, o, none⟩) l0.length co11, .slice A1 l1.length c1] w fun e w' => e = .returned (.int .u32 r1) ∧ Wn g o N cap l0.length zs w' w0.heap.size (fun k_ => (P0_ k_ ∨ w.heap.size ≤ k_)) r2 ∧ Below w0.heap.size w0 w' ∧ Kept w w' (fun k_ => P0_ k_) := by
 have cv := Aside0.mk (show Wn g o N cap l0.length zs w w0.heap.size (fun k_ => (P0_ k_ ∨ w.heap.size ≤ k_)) l0 from Wn_mono ho0 (fun k_ hk => (.inl hk)))
 have bF := Aside0.mk hr1
 have cD := Aside0.mk hc1
 clear hr1 hc1
 have HK := Aside0.mk (Kept.refl w (fun k_ => P0_ k_))
 have HW0 := Aside0.mk hB.size
 have HB := Aside0.mk hB
 clear hB
 have H : (if 0 ≤ (l1.length : Int) then (if (l1.length : Int) < (l0.length : Int) then (if 0 ≤ (wrap64 ((l1.length : Int) - 1)) then (if (wrap64 ((l1.length : Int) - 1)) < (l0.length : Int) then (if (wrap64 ((l1.length : Int) - 1)) < (l1.length : Int) then (if (IntKind.u64.wrap (rd l1 (wrap64 ((l1.length : Int) - 1)))) = 0 then (none) else (nat_step.l0 k l0 l1 (l1.length : Int) (IntKind.u64.wrap (Int.tdiv (Go.bits .or .u64 (IntKind.u64.wrap ((IntKind.u64.wrap (rd l0 (l1.length : Int))) * 4294967296)) (IntKind.u64.wrap (rd l0 (wrap64 ((l1.length : Int) - 1))))) (IntKind.u64.wrap (rd l1 (wrap64 ((l1.length : Int) - 1)))))) (Int.tmod (Go.bits .or .u64 (IntKind.u64.wrap ((IntKind.u64.wrap (rd l0 (l1.length : Int))) * 4294967296)) (IntKind.u64.wrap (rd l0 (wrap64 ((l1.length : Int) - 1))))) (IntKind.u64.wrap (rd l1 (wrap64 ((l1.length : Int) - 1))))))) else (none)) else (none)) else (none)) else (none)) else (none)) = some (r1, r2) := h
 clear h
 by_cases c3 : 0 ≤ (l1.length : Int)
 ·
  rw [if_pos c3] at H
  have bo : decide (0 ≤ (l1.length : Int)) = true := decide_eq_true c3
  have bp : decide (0 ≤ l1.length) = true := decide_eq_true (by omega)
  clear c3
  by_cases c4 : (l1.length : Int) < (l0.length : Int)
  ·
   rw [if_pos c4] at H
   have bq : decide ((l1.length : Int) < (l0.length : Int)) = true := decide_eq_true c4
   have br : decide (l1.length < l0.length) = true := decide_eq_true (Int.ofNat_lt.mp c4)
   clear c4
   obtain ⟨ji5, hji5⟩ : ∃ j_ : Int, (wrap64 ((l1.length : Int) - 1)) = j_ := ⟨_, rfl⟩
   replace H : (if 0 ≤ (ji5) then (if (ji5) < (l0.length : Int) then (if (ji5) < (l1.length : Int) then (if (IntKind.u64.wrap (rd l1 (ji5))) = 0 then (none) else (nat_step.l0 k l0 l1 (l1.length : Int) (IntKind.u64.wrap (Int.tdiv (Go.bits .or .u64 (IntKind.u64.wrap ((IntKind.u64.wrap (rd l0 (l1.length : Int))) * 4294967296)) (IntKind.u64.wrap (rd l0 (ji5)))) (IntKind.u64.wrap (rd l1 (ji5))))) (Int.tmod (Go.bits .or .u64 (IntKind.u64.wrap ((IntKind.u64.wrap (rd l0 (l1.length : Int))) * 4294967296)) (IntKind.u64.wrap (rd l0 (ji5)))) (IntKind.u64.wrap (rd l1 (ji5)))))) else (none)) else (none)) else (none)) = some (r1, r2) := by first | (rw [hji5] at H; exact H) | (simp only [hji5] at H ⊢; exact H)
   have hji5w : (IntKind.i64.wrap ((l1.length : Int) - 1)) = ji5 := (i64_w _).trans hji5
   by_cases c6 : 0 ≤ (ji5)
   ·
    rw [if_pos c6] at H
    have bs : decide (0 ≤ (ji5)) = true := decide_eq_true c6
    clear c6
    by_cases c7 : (ji5) < (l0.length : Int)
    ·
     rw [if_pos c7] at H
     have bv : decide ((ji5) < (l0.length : Int)) = true := decide_eq_true c7
     clear c7
     by_cases c8 : (ji5) < (l1.length : Int)
     ·
      rw [if_pos c8] at H
      have bw : decide ((ji5) < (l1.length : Int)) = true := decide_eq_true c8
      clear c8
      by_cases c9 : (IntKind.u64.wrap (rd l1 (ji5))) = 0
      ·
       rw [if_pos c9] at H
       exact absurd H (by simp)
      ·
       rw [if_neg c9] at H
       have bx : ((IntKind.u64.wrap (rd l1 (ji5))) == 0) = false := beq_eq_false_iff_ne.mpr c9
       have bz : ((IntKind.u64.wrap (rd l1 (ji5))) != 0) = true := bne_iff_ne.mpr c9
       have bN := Aside0.mk H
       clear H
       have p948 : 0 ≤ ((l1.length : Int) : Int) := of_decide_eq_true (by first | (with_reducible assumption) | assumption)
       have q948 : (l1.length : Int) < (l0.length : Int) := of_decide_eq_true (by first | (with_reducible assumption) | assumption)
       have ao := (Wn_cell cv.out (l1.length : Int) p948 q948).1
       (try simp only [Go.IntWalk.toNatUp] at ao)
       replace p948 := eq_true p948
       replace q948 := eq_true q948
       have p949 : 0 ≤ ((ji5) : Int) := of_decide_eq_true (by first | (with_reducible assumption) | assumption)
       have q949 : (ji5) < (l0.length : Int) := of_decide_eq_true (by first | (with_reducible assumption) | assumption)
       have aq := (Wn_cell cv.out (ji5) p949 q949).1
       replace p949 := eq_true p949
       replace q949 := eq_true q949
       have p950 : 0 ≤ ((ji5) : Int) := of_decide_eq_true (by first | (with_reducible assumption) | assumption)
       have q950 : (ji5) < (l1.length : Int) := of_decide_eq_true (by first | (with_reducible assumption) | assumption)
       obtain ⟨ad950, e950, aC⟩ := Kd.at_int (Kd.C_kept_now bF.out HK.out) (ji5) p950 q950
       cases e950
       replace p950 := eq_true p950
       replace q950 := eq_true q950
       have p951 : 0 ≤ ((ji5) : Int) := of_decide_eq_true (by first | (with_reducible assumption) | assumption)
       have q951 : (ji5) < (l1.length : Int) := of_decide_eq_true (by first | (with_reducible assumption) | assumption)
       obtain ⟨ad951, e951, aD⟩ := Kd.at_int (Kd.C_kept_now bF.out HK.out) (ji5) p951 q951
       obtain rfl : ad950 = ad951 := (by injection e951)
       replace p951 := eq_true p951
       replace q951 := eq_true q951
       go_enter Try.func190, Try.ntmps190
       go_upto_block 0 with (fail)
       repeat (go_quiet (fail); go_upto_block 0 with (fail))
       go_cut [7] (fun v7 wc => ∃ (kq : Nat) (ai : Int), v7 = .int .u64 ai ∧ Aside0 (nat_step.j1 kq l0 l1 (l1.length : Int) ai = some (r1, r2)) ∧ Aside0 (kq ≤ k) ∧ Aside0 (Wn g o N cap l0.length zs wc w0.heap.size (fun k_ => (P0_ k_ ∨ w.heap.size ≤ k_)) l0) ∧ Aside0 (Kept w wc (fun k_ => P0_ k_)) ∧ Aside0 (Below w0.heap.size w0 wc))
       case first =>
        have H := bN.out
        clear bN
        have H' := Aside0.mk H
        clear H
        go_wp2
        repeat (go_quiet (fail); try go_wp2)
        go_loopg [7, 8] k (fun kq v7 v8 w' => ∃ (an : Int) (ap : Int), v7 = .int .u64 an ∧ v8 = .int .u64 ap ∧ Aside0 (nat_step.l0 kq l0 l1 (l1.length : Int) an ap = some (r1, r2)) ∧ Aside0 (kq ≤ k) ∧ Aside0 (Wn g o N cap l0.length zs w' w0.heap.size (fun k_ => (P0_ k_ ∨ w.heap.size ≤ k_)) l0) ∧ Aside0 (Kept w w' (fun k_ => P0_ k_)) ∧ Aside0 (Below w0.heap.size w0 w'))
        case atStart => exact ⟨(IntKind.u64.wrap (Int.tdiv (Go.bits .or .u64 (IntKind.u64.wrap ((IntKind.u64.wrap (rd l0 (l1.length : Int))) * 4294967296)) (IntKind.u64.wrap (rd l0 (ji5)))) (IntKind.u64.wrap (rd l1 (ji5))))), (Int.tmod (Go.bits .or .u64 (IntKind.u64.wrap ((IntKind.u64.wrap (rd l0 (l1.length : Int))) * 4294967296)) (IntKind.u64.wrap (rd l0 (ji5)))) (IntKind.u64.wrap (rd l1 (ji5)))), (by first | rfl | (simp; done) | (simp only [← hji5] <;> (first | rfl | simp)) | (simp [*]; done)), (by first | rfl | (simp; done) | (simp only [← hji5] <;> (first | rfl | simp)) | (simp [*]; done)), H', ⟨Nat.le_refl _⟩, ⟨by (with_reducible repeat (first | apply Wn_alloc | apply Wn_drewN | apply Wn_drew)); exact cv.out⟩, ⟨by repeat (first | (with_reducible first | exact HK.out | apply Kept.alloc | apply Kept.drewN | apply Kept.drew) | exact HK.out)⟩, ⟨by repeat (first | (with_reducible first | exact HB.out | apply below_alloc | apply pw_below_drewN | apply below_drew1) | exact HB.out)⟩⟩
        case round =>
         clear H'
         try clear c1
         try clear p2
         try clear c3
         try clear bo
         try clear bp
         try clear c4
         try clear bq
         try clear br
         try clear c6
         try clear bs
         try clear p6
         try clear c7
         try clear bv
         try clear c8
         try clear bw
         try clear c9
         try clear bx
         try clear bz
         try clear p9
         try clear q9
         try clear hx9
         try clear ao
         try clear aq
         try clear aC
         try clear aD
         try clear p948
         try clear p949
         try clear p950
         try clear p951
         try clear q948
         try clear q949
         try clear q950
         try clear q951
         obtain ⟨an, ap, rfl, rfl, HA, HK1, aa, HK, HB⟩ := hrel
         cases gk with
         | zero => exact absurd HA.out (by simp [nat_step.l0])
         | succ k1 =>
          have H := HA.out
          clear HA
          simp only [nat_step.l0] at H
          by_cases bA : ap < 4294967296
          ·
           rw [if_pos bA] at H
           have aw : decide (ap < 4294967296) = true := decide_eq_true bA
           clear bA
           (first | rw [aw] | rw [c12b1] | (simp only [i64_w, i32_w]; rw [aw]) | skip)
           by_cases bB : an ≥ 4294967296
           ·
            rw [if_pos bB] at H
            have aX : decide (4294967296 ≤ an) = true := decide_eq_true bB
            clear bB
            obtain ⟨ji14, hji14⟩ : ∃ j_ : Int, (wrap64 ((l1.length : Int) - 1)) = j_ := ⟨_, rfl⟩
            replace H : (if 0 ≤ (ji14) then (if (ji14) < (l1.length : Int) then (nat_step.l0 k1 l0 l1 (l1.length : Int) (IntKind.u64.wrap (an - 1)) (IntKind.u64.wrap (ap + (IntKind.u64.wrap (rd l1 (ji14)))))) else (none)) else (none)) = some (r1, r2) := by first | (rw [hji14] at H; exact H) | (simp only [hji14] at H ⊢; exact H)
            have hji14w : (IntKind.i64.wrap ((l1.length : Int) - 1)) = ji14 := (i64_w _).trans hji14
            have hz14 : ji5 = ji14 := hji5.symm.trans hji14
            subst hz14
            by_cases bO : 0 ≤ (ji5)
            ·
             rw [if_pos bO] at H
             have a3 : decide (0 ≤ (ji5)) = true := decide_eq_true bO
             clear bO
             by_cases bP : (ji5) < (l1.length : Int)
             ·
              rw [if_pos bP] at H
              have a4 : decide ((ji5) < (l1.length : Int)) = true := decide_eq_true bP
              clear bP
              have H' := Aside0.mk H
              clear H
              have p952 : 0 ≤ ((ji5) : Int) := of_decide_eq_true (by first | (with_reducible assumption) | assumption)
              have q952 : (ji5) < (l1.length : Int) := of_decide_eq_true (by first | (with_reducible assumption) | assumption)
              obtain ⟨ad952, e952, aJ⟩ := Kd.at_int (Kd.C_kept_now bF.out HK.out) (ji5) p952 q952
              obtain rfl : ad950 = ad952 := (by injection e952)
              replace p952 := eq_true p952
              replace q952 := eq_true q952
              go_wp2
              repeat (go_quiet (fail); try go_wp2)
              go_roundg k1
              case measure => have := HK1.out; omega
              case rel => exact ⟨(IntKind.u64.wrap (an - 1)), (IntKind.u64.wrap (ap + (IntKind.u64.wrap (rd l1 (ji5))))), (by first | rfl | (simp; done) | (simp [*]; done)), (by first | rfl | (simp; done) | (simp only [← hji14] <;> (first | rfl | simp)) | (simp [*]; done)), H', ⟨by have := HK1.out; omega⟩, ⟨by (with_reducible repeat (first | apply Wn_alloc | apply Wn_drewN | apply Wn_drew)); exact aa.out⟩, ⟨by repeat (first | (with_reducible first | exact HK.out | apply Kept.alloc | apply Kept.drewN | apply Kept.drew) | exact HK.out)⟩, ⟨by repeat (first | (with_reducible first | exact HB.out | apply below_alloc | apply pw_below_drewN | apply below_drew1) | exact HB.out)⟩⟩
             ·
              rw [if_neg bP] at H
              exact absurd H (by simp)
            ·
             rw [if_neg bO] at H
             exact absurd H (by simp)
           ·
            rw [if_neg bB] at H
            have aX : decide (4294967296 ≤ an) = false := decide_eq_false bB
            clear bB
            obtain ⟨ji17, hji17⟩ : ∃ j_ : Int, (wrap64 ((l1.length : Int) - 2)) = j_ := ⟨_, rfl⟩
            replace H : (if 0 ≤ (ji17) then (if (ji17) < (l1.length : Int) then (if (ji17) < (l0.length : Int) then (if (IntKind.u64.wrap (an * (IntKind.u64.wrap (rd l1 (ji17))))) > (Go.bits .or .u64 (IntKind.u64.wrap (ap * 4294967296)) (IntKind.u64.wrap (rd l0 (ji17)))) then (if 0 ≤ (wrap64 ((l1.length : Int) - 1)) then (if (wrap64 ((l1.length : Int) - 1)) < (l1.length : Int) then (nat_step.l0 k1 l0 l1 (l1.length : Int) (IntKind.u64.wrap (an - 1)) (IntKind.u64.wrap (ap + (IntKind.u64.wrap (rd l1 (wrap64 ((l1.length : Int) - 1))))))) else (none)) else (none)) else (nat_step.j1 k1 l0 l1 (l1.length : Int) an)) else (none)) else (none)) else (none)) = some (r1, r2) := by first | (rw [hji17] at H; exact H) | (simp only [hji17] at H ⊢; exact H)
            have hji17w : (IntKind.i64.wrap ((l1.length : Int) - 2)) = ji17 := (i64_w _).trans hji17
            by_cases bQ : 0 ≤ (ji17)
            ·
             rw [if_pos bQ] at H
             have a5 : decide (0 ≤ (ji17)) = true := decide_eq_true bQ
             clear bQ
             by_cases bR : (ji17) < (l1.length : Int)
             ·
              rw [if_pos bR] at H
              have a6 : decide ((ji17) < (l1.length : Int)) = true := decide_eq_true bR
              clear bR
              by_cases bS : (ji17) < (l0.length : Int)
              ·
               rw [if_pos bS] at H
               have a7 : decide ((ji17) < (l0.length : Int)) = true := decide_eq_true bS
               clear bS
               by_cases bC : (IntKind.u64.wrap (an * (IntKind.u64.wrap (rd l1 (ji17))))) > (Go.bits .or .u64 (IntKind.u64.wrap (ap * 4294967296)) (IntKind.u64.wrap (rd l0 (ji17))))
               ·
                rw [if_pos bC] at H
                have aY : decide ((Go.bits .or .u64 (IntKind.u64.wrap (ap * 4294967296)) (IntKind.u64.wrap (rd l0 (ji17)))) < (IntKind.u64.wrap (an * (IntKind.u64.wrap (rd l1 (ji17)))))) = true := decide_eq_true bC
                clear bC
                obtain ⟨ji22, hji22⟩ : ∃ j_ : Int, (wrap64 ((l1.length : Int) - 1)) = j_ := ⟨_, rfl⟩
                replace H : (if 0 ≤ (ji22) then (if (ji22) < (l1.length : Int) then (nat_step.l0 k1 l0 l1 (l1.length : Int) (IntKind.u64.wrap (an - 1)) (IntKind.u64.wrap (ap + (IntKind.u64.wrap (rd l1 (ji22)))))) else (none)) else (none)) = some (r1, r2) := by first | (rw [hji22] at H; exact H) | (simp only [hji22] at H ⊢; exact H)
                have hji22w : (IntKind.i64.wrap ((l1.length : Int) - 1)) = ji22 := (i64_w _).trans hji22
                have hz22 : ji5 = ji22 := hji5.symm.trans hji22
                subst hz22
                by_cases bT : 0 ≤ (ji5)
                ·
                 rw [if_pos bT] at H
                 have a8 : decide (0 ≤ (ji5)) = true := decide_eq_true bT
                 clear bT
                 by_cases bU : (ji5) < (l1.length : Int)
                 ·
                  rw [if_pos bU] at H
                  have a9 : decide ((ji5) < (l1.length : Int)) = true := decide_eq_true bU
                  clear bU
                  have H' := Aside0.mk H
                  clear H
                  have p953 : 0 ≤ ((ji17) : Int) := of_decide_eq_true (by first | (with_reducible assumption) | assumption)
                  have q953 : (ji17) < (l1.length : Int) := of_decide_eq_true (by first | (with_reducible assumption) | assumption)
                  obtain ⟨ad953, e953, aE⟩ := Kd.at_int (Kd.C_kept_now bF.out HK.out) (ji17) p953 q953
                  obtain rfl : ad950 = ad953 := (by injection e953)
                  replace p953 := eq_true p953
                  replace q953 := eq_true q953
                  have p954 : 0 ≤ ((ji17) : Int) := of_decide_eq_true (by first | (with_reducible assumption) | assumption)
                  have q954 : (ji17) < (l0.length : Int) := of_decide_eq_true (by first | (with_reducible assumption) | assumption)
                  have au := (Wn_cell aa.out (ji17) p954 q954).1
                  replace p954 := eq_true p954
                  replace q954 := eq_true q954
                  have p955 : 0 ≤ ((ji5) : Int) := of_decide_eq_true (by first | (with_reducible assumption) | assumption)
                  have q955 : (ji5) < (l1.length : Int) := of_decide_eq_true (by first | (with_reducible assumption) | assumption)
                  obtain ⟨ad955, e955, aK⟩ := Kd.at_int (Kd.C_kept_now bF.out HK.out) (ji5) p955 q955
                  obtain rfl : ad950 = ad955 := (by injection e955)
                  replace p955 := eq_true p955
                  replace q955 := eq_true q955
                  go_wp2
                  repeat (go_quiet (fail); try go_wp2)
                  go_roundg k1
                  case measure => have := HK1.out; omega
                  case rel => exact ⟨(IntKind.u64.wrap (an - 1)), (IntKind.u64.wrap (ap + (IntKind.u64.wrap (rd l1 (ji5))))), (by first | rfl | (simp; done) | (simp [*]; done)), (by first | rfl | (simp; done) | (simp only [← hji22] <;> (first | rfl | simp)) | (simp [*]; done)), H', ⟨by have := HK1.out; omega⟩, ⟨by (with_reducible repeat (first | apply Wn_alloc | apply Wn_drewN | apply Wn_drew)); exact aa.out⟩, ⟨by repeat (first | (with_reducible first | exact HK.out | apply Kept.alloc | apply Kept.drewN | apply Kept.drew) | exact HK.out)⟩, ⟨by repeat (first | (with_reducible first | exact HB.out | apply below_alloc | apply pw_below_drewN | apply below_drew1) | exact HB.out)⟩⟩
                 ·
                  rw [if_neg bU] at H
                  exact absurd H (by simp)
                ·
                 rw [if_neg bT] at H
                 exact absurd H (by simp)
               ·
                rw [if_neg bC] at H
                have aY : decide ((Go.bits .or .u64 (IntKind.u64.wrap (ap * 4294967296)) (IntKind.u64.wrap (rd l0 (ji17)))) < (IntKind.u64.wrap (an * (IntKind.u64.wrap (rd l1 (ji17)))))) = false := decide_eq_false bC
                clear bC
                have H' := Aside0.mk H
                clear H
                have p953 : 0 ≤ ((ji17) : Int) := of_decide_eq_true (by first | (with_reducible assumption) | assumption)
                have q953 : (ji17) < (l1.length : Int) := of_decide_eq_true (by first | (with_reducible assumption) | assumption)
                obtain ⟨ad953, e953, aE⟩ := Kd.at_int (Kd.C_kept_now bF.out HK.out) (ji17) p953 q953
                obtain rfl : ad950 = ad953 := (by injection e953)
                replace p953 := eq_true p953
                replace q953 := eq_true q953
                have p954 : 0 ≤ ((ji17) : Int) := of_decide_eq_true (by first | (with_reducible assumption) | assumption)
                have q954 : (ji17) < (l0.length : Int) := of_decide_eq_true (by first | (with_reducible assumption) | assumption)
                have au := (Wn_cell aa.out (ji17) p954 q954).1
                replace p954 := eq_true p954
                replace q954 := eq_true q954
                go_wp2
                repeat (go_quiet (fail); try go_wp2)
                go_meet
                case rel => exact ⟨_, (an), (by first | rfl | (simp; done) | (simp [*]; done)), H', ⟨by have := HK1.out; first | omega | exact Nat.le_refl _⟩, ⟨by (with_reducible repeat (first | apply Wn_alloc | apply Wn_drewN | apply Wn_drew)); exact aa.out⟩, ⟨by repeat (first | (with_reducible first | exact HK.out | apply Kept.alloc | apply Kept.drewN | apply Kept.drew) | exact HK.out)⟩, ⟨by repeat (first | (with_reducible first | exact HB.out | apply below_alloc | apply pw_below_drewN | apply below_drew1) | exact HB.out)⟩⟩
              ·
               rw [if_neg bS] at H
               exact absurd H (by simp)
             ·
              rw [if_neg bR] at H
              exact absurd H (by simp)
            ·
             rw [if_neg bQ] at H
             exact absurd H (by simp)
          ·
           rw [if_neg bA] at H
           have aw : decide (ap < 4294967296) = false := decide_eq_false bA
           clear bA
           (first | rw [aw] | rw [c12b1] | (simp only [i64_w, i32_w]; rw [aw]) | skip)
           have H' := Aside0.mk H
           clear H
           go_wp2
           repeat (go_quiet (fail); try go_wp2)
           go_meet
           case rel => exact ⟨_, (an), (by first | rfl | (simp; done) | (simp [*]; done)), H', ⟨by have := HK1.out; first | omega | exact Nat.le_refl _⟩, ⟨by (with_reducible repeat (first | apply Wn_alloc | apply Wn_drewN | apply Wn_drew)); exact aa.out⟩, ⟨by repeat (first | (with_reducible first | exact HK.out | apply Kept.alloc | apply Kept.drewN | apply Kept.drew) | exact HK.out)⟩, ⟨by repeat (first | (with_reducible first | exact HB.out | apply below_alloc | apply pw_below_drewN | apply below_drew1) | exact HB.out)⟩⟩
       case rest =>
        clear bN
        try clear c1
        try clear c2
        try clear p2
        try clear c3
        try clear bo
        try clear bp
        try clear c4
        try clear bq
        try clear br
        try clear c6
        try clear bs
        try clear p6
        try clear c7
        try clear bv
        try clear c8
        try clear bw
        try clear c9
        try clear bx
        try clear bz
        try clear p9
        try clear q9
        try clear hx9
        try clear bA
        try clear aw
        try clear c12b1
        try clear bB
        try clear aX
        try clear bO
        try clear a3
        try clear bP
        try clear a4
        try clear bQ
        try clear a5
        try clear bR
        try clear a6
        try clear bS
        try clear a7
        try clear bC
        try clear aY
        try clear bT
        try clear a8
        try clear bU
        try clear a9
        try clear ao
        try clear aq
        try clear aC
        try clear aD
        try clear aJ
        try clear aE
        try clear au
        try clear aK
        try clear p2
        try clear p6
        try clear p9
        try clear p948
        try clear p949
        try clear p950
        try clear p951
        try clear p952
        try clear p953
        try clear p954
        try clear p955
        try clear q9
        try clear q948
        try clear q949
        try clear q950
        try clear q951
        try clear q952
        try clear q953
        try clear q954
        try clear q955
        obtain ⟨kq, ai, rfl, HA, HJ9, aa, HK, HB⟩ := hcut
        cases kq with
        | zero => exact absurd HA.out (by simp [nat_step.j1])
        | succ kj9 =>
         have H := HA.out
         clear HA
         simp only [nat_step.j1] at H
         have H' := Aside0.mk H
         clear H
         go_wp2
         repeat (go_quiet (fail); try go_wp2)
         go_loopg [9, 10, 86] kj9 (fun kq v9 cw cC w' => ∃ (ad : List Int) (ag : Int) (ae : Int) (ac : Int), v9 = .int .u64 ag ∧ cw = .int .u64 ae ∧ cC = .int .i64 ac ∧ Aside0 (nat_step.l1 kq ad l1 (l1.length : Int) ai ag ae (l1.length : Int) ac = some (r1, r2)) ∧ Aside0 (kq ≤ kj9) ∧ Aside0 (Wn g o N cap l0.length zs w' w0.heap.size (fun k_ => (P0_ k_ ∨ w.heap.size ≤ k_)) ad) ∧ Aside0 (Kept w w' (fun k_ => P0_ k_)) ∧ Aside0 (Below w0.heap.size w0 w'))
         case atStart => exact ⟨(l0), (0), (0), (0), (by first | rfl | (simp; done) | (simp [*]; done)), (by first | rfl | (simp; done) | (simp [*]; done)), (by first | rfl | (simp; done) | (simp [*]; done)), H', ⟨Nat.le_refl _⟩, ⟨by (with_reducible repeat (first | apply Wn_alloc | apply Wn_drewN | apply Wn_drew)); exact aa.out⟩, ⟨by repeat (first | (with_reducible first | exact HK.out | apply Kept.alloc | apply Kept.drewN | apply Kept.drew) | exact HK.out)⟩, ⟨by repeat (first | (with_reducible first | exact HB.out | apply below_alloc | apply pw_below_drewN | apply below_drew1) | exact HB.out)⟩⟩
         case round =>
          clear H'
          try clear c1
          try clear c2
          try clear p2
          try clear c3
          try clear bo
          try clear bp
          try clear c4
          try clear bq
          try clear br
          try clear c6
          try clear bs
          try clear p6
          try clear c7
          try clear bv
          try clear c8
          try clear bw
          try clear c9
          try clear bx
          try clear bz
          try clear p9
          try clear q9
          try clear hx9
          try clear bA
          try clear aw
          try clear c12b1
          try clear bB
          try clear aX
          try clear bO
          try clear a3
          try clear bP
          try clear a4
          try clear bQ
          try clear a5
          try clear bR
          try clear a6
          try clear bS
          try clear a7
          try clear bC
          try clear aY
          try clear bT
          try clear a8
          try clear bU
          try clear a9
          try clear ao
          try clear aq
          try clear aC
          try clear aD
          try clear aJ
          try clear aE
          try clear au
          try clear aK
          try clear p2
          try clear p6
          try clear p9
          try clear p948
          try clear p949
          try clear p950
          try clear p951
          try clear p952
          try clear p953
          try clear p954
          try clear p955
          try clear q9
          try clear q948
          try clear q949
          try clear q950
          try clear q951
          try clear q952
          try clear q953
          try clear q954
          try clear q955
          obtain ⟨ad, ag, ae, ac, rfl, rfl, rfl, HA, HK2, aa, HK, HB⟩ := hrel
          have hl0_2 := aa.out.1.symm
          rw [hl0_2] at aa
          (try simp only [hl0_2])
          cases gk with
          | zero => exact absurd HA.out (by simp [nat_step.l1])
          | succ k2 =>
           have H := HA.out
           clear HA
           simp only [nat_step.l1] at H
           by_cases bV : ac < (l1.length : Int)
           ·
            rw [if_pos bV] at H
            have aZ : decide (ac < (l1.length : Int)) = true := decide_eq_true bV
            clear bV
            (try (have aS := aZ; simp only [hl0_2] at aS))
            by_cases cd : 0 ≤ ac
            ·
             rw [if_pos cd] at H
             have ce : decide (0 ≤ ac) = true := decide_eq_true cd
             clear cd
             by_cases cf : ac < (l1.length : Int)
             ·
              rw [if_pos cf] at H
              have bG : decide (ac < (l1.length : Int)) = true := decide_eq_true cf
              clear cf
              (try (have bW := bG; simp only [hl0_2] at bW))
              by_cases cg : ac < (ad.length : Int)
              ·
               rw [if_pos cg] at H
               have bH : decide (ac < (ad.length : Int)) = true := decide_eq_true cg
               clear cg
               (try (have bX := bH; simp only [hl0_2] at bX))
               obtain ⟨ba, aO⟩ : ∃ y_ : List Int, y_ = (ad.set (ac : Int).toNat ((IntKind.u64.wrap ((IntKind.u64.wrap ((IntKind.u64.wrap (rd ad ac)) - ((IntKind.u64.wrap ((IntKind.u64.wrap (ai * (IntKind.u64.wrap (rd l1 ac)))) + ae)) % 4294967296))) - ag)) % 4294967296)) := ⟨_, rfl⟩
               replace H : (nat_step.l1 k2 ba l1 (l1.length : Int) ai ((IntKind.u64.wrap ((IntKind.u64.wrap ((IntKind.u64.wrap (rd ad ac)) - ((IntKind.u64.wrap ((IntKind.u64.wrap (ai * (IntKind.u64.wrap (rd l1 ac)))) + ae)) % 4294967296))) - ag)) / 9223372036854775808) ((IntKind.u64.wrap ((IntKind.u64.wrap (ai * (IntKind.u64.wrap (rd l1 ac)))) + ae)) / 4294967296) (l1.length : Int) (wrap64 (ac + 1))) = some (r1, r2) := by first | (rw [aO]; with_reducible exact H) | (have H2_ := (Option.bind_some _ _).symm.trans H; rw [aO]; with_reducible exact H2_) | (have H2_ := (Option.bind_some _ _).symm.trans H; with_reducible exact H2_) | with_reducible exact H | (rw [aO]; exact H) | exact H
               have bb := Aside0.mk aO
               clear aO
               have H' := Aside0.mk H
               clear H
               have p956 : 0 ≤ (ac : Int) := of_decide_eq_true (by first | (with_reducible assumption) | assumption)
               have q956 : ac < (l1.length : Int) := of_decide_eq_true (by first | (with_reducible assumption) | assumption)
               obtain ⟨ad956, e956, bD⟩ := Kd.at_int (Kd.C_kept_now bF.out HK.out) ac p956 q956
               obtain rfl : ad950 = ad956 := (by injection e956)
               replace p956 := eq_true p956
               replace q956 := eq_true q956
               have p957 : 0 ≤ (ac : Int) := of_decide_eq_true (by first | (with_reducible assumption) | assumption)
               have q957 : ac < (ad.length : Int) := of_decide_eq_true (by first | (with_reducible assumption) | assumption)
               have a0 := (Wn_cell aa.out ac p957 q957).1
               replace p957 := eq_true p957
               replace q957 := eq_true q957
               have p29 : 0 ≤ (ac : Int) := of_decide_eq_true (by first | (with_reducible assumption) | assumption)
               have q29 : (ac : Int) < ((ad.length : Int) : Int) := of_decide_eq_true (by first | (with_reducible assumption) | assumption)
               have GB29 := Aside0.mk (Wn_base aa.out)
               have HMgo29 := Aside0.mk (Wn_ok aa.out g rfl)
               (first | simp only [add_off] at ao | skip)
               (first | simp only [add_off] at aq | skip)
               (first | simp only [add_off] at au | skip)
               (first | simp only [add_off] at a0 | skip)
               obtain ⟨bY, cx⟩ := Wn_cell aa.out (ac : Int) p29 q29
               replace p29 := eq_true p29
               replace q29 := eq_true q29
               obtain ⟨bd, hz30_⟩ := Wn_cell aa.out (ac : Int) (of_decide_eq_true (by first | (with_reducible assumption) | assumption)) (of_decide_eq_true (by first | (with_reducible assumption) | assumption))
               have ax := Wn_put aa.out (ac : Int) (of_decide_eq_true (by first | (with_reducible assumption) | assumption)) (of_decide_eq_true (by first | (with_reducible assumption) | assumption)) ((IntKind.u64.wrap ((IntKind.u64.wrap ((IntKind.u64.wrap (rd ad ac)) - ((IntKind.u64.wrap ((IntKind.u64.wrap (ai * (IntKind.u64.wrap (rd l1 ac)))) + ae)) % 4294967296))) - ag)) % 4294967296)
               go_wp2_with (first | ((with_reducible refine gate_store (t := 48) (p := 115) rfl ?_); (try (rw [drewN_self wr]; generalize hq_ : World.drewN wr _ = wr; have aj := Aside0.mk (Wn_at hq_ aa.out); have ak := Aside0.mk (kept_at hq_ HK.out); have al := Aside0.mk (below_at hq_ HB.out); clear hq_ aa HK HB; have aa := aj; have HK := ak; have HB := al; clear aj ak al; (try (obtain ⟨bd, hz30_⟩ := Wn_cell aa.out (ac : Int) (of_decide_eq_true (by first | (with_reducible assumption) | assumption)) (of_decide_eq_true (by first | (with_reducible assumption) | assumption)))); (try (have ax := Wn_put aa.out (ac : Int) (of_decide_eq_true (by first | (with_reducible assumption) | assumption)) (of_decide_eq_true (by first | (with_reducible assumption) | assumption)) ((IntKind.u64.wrap ((IntKind.u64.wrap ((IntKind.u64.wrap (rd ad ac)) - ((IntKind.u64.wrap ((IntKind.u64.wrap (ai * (IntKind.u64.wrap (rd l1 ac)))) + ae)) % 4294967296))) - ag)) % 4294967296))))); refine store_event (t := 48) (p := 115) (v := ?vo_w31) (w1 := (wr.setCell ⟨g, o + (ac : Int).toNat, none⟩ (.int .u32 ((IntKind.u64.wrap ((IntKind.u64.wrap ((IntKind.u64.wrap (rd ad ac)) - ((IntKind.u64.wrap ((IntKind.u64.wrap (ai * (IntKind.u64.wrap (rd l1 ac)))) + ae)) % 4294967296))) - ag)) % 4294967296)))) ?hg ?ho ?hn ?hr ?_; (case ho => rfl); (case hg => rfl); (case hn => rfl); (case hr => first | (go_simp; done) | (go_simp; rfl)); intro be hw; have hg : wr.grownBy be (some g) := (by rw [hw]; exact ax.2); have hp_ : Wn g o N cap ad.length zs be w0.heap.size (fun k_ => (P0_ k_ ∨ w.heap.size ≤ k_)) ba := (by rw [hw, bb.out]; exact ax.1); clear ax; replace HB := Aside0.mk ((by rw [hw]; exact below_set (HB.out) GB29.out : Below w0.heap.size w0 be)); replace HK := Aside0.mk (Kept.of_grown (S := (fun k_ => P0_ k_)) hg (by repeat (first | (with_reducible first | exact HK.out | apply Kept.alloc | apply Kept.drewN | apply Kept.drew) | exact HK.out)) (fun k_ e_ => (Wn_ok aa.out k_ e_))); replace aa := Aside0.mk (hp_); clear hg hw hp_))
               repeat (go_quiet (first | ((with_reducible refine gate_store (t := 48) (p := 115) rfl ?_); (try (rw [drewN_self wr]; generalize hq_ : World.drewN wr _ = wr; have aj := Aside0.mk (Wn_at hq_ aa.out); have ak := Aside0.mk (kept_at hq_ HK.out); have al := Aside0.mk (below_at hq_ HB.out); clear hq_ aa HK HB; have aa := aj; have HK := ak; have HB := al; clear aj ak al; (try (obtain ⟨bd, hz30_⟩ := Wn_cell aa.out (ac : Int) (of_decide_eq_true (by first | (with_reducible assumption) | assumption)) (of_decide_eq_true (by first | (with_reducible assumption) | assumption)))); (try (have ax := Wn_put aa.out (ac : Int) (of_decide_eq_true (by first | (with_reducible assumption) | assumption)) (of_decide_eq_true (by first | (with_reducible assumption) | assumption)) ((IntKind.u64.wrap ((IntKind.u64.wrap ((IntKind.u64.wrap (rd ad ac)) - ((IntKind.u64.wrap ((IntKind.u64.wrap (ai * (IntKind.u64.wrap (rd l1 ac)))) + ae)) % 4294967296))) - ag)) % 4294967296))))); refine store_event (t := 48) (p := 115) (v := ?vo_w31) (w1 := (wr.setCell ⟨g, o + (ac : Int).toNat, none⟩ (.int .u32 ((IntKind.u64.wrap ((IntKind.u64.wrap ((IntKind.u64.wrap (rd ad ac)) - ((IntKind.u64.wrap ((IntKind.u64.wrap (ai * (IntKind.u64.wrap (rd l1 ac)))) + ae)) % 4294967296))) - ag)) % 4294967296)))) ?hg ?ho ?hn ?hr ?_; (case ho => rfl); (case hg => rfl); (case hn => rfl); (case hr => first | (go_simp; done) | (go_simp; rfl)); intro be hw; have hg : wr.grownBy be (some g) := (by rw [hw]; exact ax.2); have hp_ : Wn g o N cap ad.length zs be w0.heap.size (fun k_ => (P0_ k_ ∨ w.heap.size ≤ k_)) ba := (by rw [hw, bb.out]; exact ax.1); clear ax; replace HB := Aside0.mk ((by rw [hw]; exact below_set (HB.out) GB29.out : Below w0.heap.size w0 be)); replace HK := Aside0.mk (Kept.of_grown (S := (fun k_ => P0_ k_)) hg (by repeat (first | (with_reducible first | exact HK.out | apply Kept.alloc | apply Kept.drewN | apply Kept.drew) | exact HK.out)) (fun k_ e_ => (Wn_ok aa.out k_ e_))); replace aa := Aside0.mk (hp_); clear hg hw hp_)); try go_wp2_with (first | ((with_reducible refine gate_store (t := 48) (p := 115) rfl ?_); (try (rw [drewN_self wr]; generalize hq_ : World.drewN wr _ = wr; have aj := Aside0.mk (Wn_at hq_ aa.out); have ak := Aside0.mk (kept_at hq_ HK.out); have al := Aside0.mk (below_at hq_ HB.out); clear hq_ aa HK HB; have aa := aj; have HK := ak; have HB := al; clear aj ak al; (try (obtain ⟨bd, hz30_⟩ := Wn_cell aa.out (ac : Int) (of_decide_eq_true (by first | (with_reducible assumption) | assumption)) (of_decide_eq_true (by first | (with_reducible assumption) | assumption)))); (try (have ax := Wn_put aa.out (ac : Int) (of_decide_eq_true (by first | (with_reducible assumption) | assumption)) (of_decide_eq_true (by first | (with_reducible assumption) | assumption)) ((IntKind.u64.wrap ((IntKind.u64.wrap ((IntKind.u64.wrap (rd ad ac)) - ((IntKind.u64.wrap ((IntKind.u64.wrap (ai * (IntKind.u64.wrap (rd l1 ac)))) + ae)) % 4294967296))) - ag)) % 4294967296))))); refine store_event (t := 48) (p := 115) (v := ?vo_w31) (w1 := (wr.setCell ⟨g, o + (ac : Int).toNat, none⟩ (.int .u32 ((IntKind.u64.wrap ((IntKind.u64.wrap ((IntKind.u64.wrap (rd ad ac)) - ((IntKind.u64.wrap ((IntKind.u64.wrap (ai * (IntKind.u64.wrap (rd l1 ac)))) + ae)) % 4294967296))) - ag)) % 4294967296)))) ?hg ?ho ?hn ?hr ?_; (case ho => rfl); (case hg => rfl); (case hn => rfl); (case hr => first | (go_simp; done) | (go_simp; rfl)); intro be hw; have hg : wr.grownBy be (some g) := (by rw [hw]; exact ax.2); have hp_ : Wn g o N cap ad.length zs be w0.heap.size (fun k_ => (P0_ k_ ∨ w.heap.size ≤ k_)) ba := (by rw [hw, bb.out]; exact ax.1); clear ax; replace HB := Aside0.mk ((by rw [hw]; exact below_set (HB.out) GB29.out : Below w0.heap.size w0 be)); replace HK := Aside0.mk (Kept.of_grown (S := (fun k_ => P0_ k_)) hg (by repeat (first | (with_reducible first | exact HK.out | apply Kept.alloc | apply Kept.drewN | apply Kept.drew) | exact HK.out)) (fun k_ e_ => (Wn_ok aa.out k_ e_))); replace aa := Aside0.mk (hp_); clear hg hw hp_)))
               (try simp only [← hl0_2])
               go_roundg k2
               case measure => have := HJ9.out; have := HK2.out; omega
               case rel => exact ⟨(ba), ((IntKind.u64.wrap ((IntKind.u64.wrap ((IntKind.u64.wrap (rd ad ac)) - ((IntKind.u64.wrap ((IntKind.u64.wrap (ai * (IntKind.u64.wrap (rd l1 ac)))) + ae)) % 4294967296))) - ag)) / 9223372036854775808), ((IntKind.u64.wrap ((IntKind.u64.wrap (ai * (IntKind.u64.wrap (rd l1 ac)))) + ae)) / 4294967296), (wrap64 (ac + 1)), (by first | rfl | (simp; done) | (simp [*]; done)), (by first | rfl | (simp; done) | (simp [*]; done)), (by first | rfl | (simp; done) | (simp [*]; done)), H', ⟨by have := HJ9.out; have := HK2.out; omega⟩, ⟨by (try simp only [hl0_2]); (with_reducible repeat (first | apply Wn_alloc | apply Wn_drewN | apply Wn_drew)); exact aa.out⟩, ⟨by repeat (first | (with_reducible first | exact HK.out | apply Kept.alloc | apply Kept.drewN | apply Kept.drew) | exact HK.out)⟩, ⟨by repeat (first | (with_reducible first | exact HB.out | apply below_alloc | apply pw_below_drewN | apply below_drew1) | exact HB.out)⟩⟩
              ·
               rw [if_neg cg] at H
               exact absurd H (by simp)
             ·
              rw [if_neg cf] at H
              exact absurd H (by simp)
            ·
             rw [if_neg cd] at H
             exact absurd H (by simp)
           ·
            rw [if_neg bV] at H
            have aZ : decide (ac < (l1.length : Int)) = false := decide_eq_false bV
            clear bV
            (try (have aS := aZ; simp only [hl0_2] at aS))
            by_cases ch : 0 ≤ (l1.length : Int)
            ·
             rw [if_pos ch] at H
             have bI : decide (0 ≤ (l1.length : Int)) = true := decide_eq_true ch
             have bJ : decide (0 ≤ l1.length) = true := decide_eq_true (by omega)
             clear ch
             (try (have bZ := bI; simp only [hl0_2] at bZ))
             (try (have b0 := bJ; simp only [hl0_2] at b0))
             by_cases cb : (l1.length : Int) < (ad.length : Int)
             ·
              rw [if_pos cb] at H
              have bK : decide ((l1.length : Int) < (ad.length : Int)) = true := decide_eq_true cb
              have bL : decide (l1.length < ad.length) = true := decide_eq_true (Int.ofNat_lt.mp cb)
              clear cb
              (try (have b1 := bK; simp only [hl0_2] at b1))
              (try (have b2 := bL; simp only [hl0_2] at b2))
              obtain ⟨aL, aP⟩ : ∃ y_ : List Int, y_ = (ad.set ((l1.length : Int) : Int).toNat ((IntKind.u64.wrap ((IntKind.u64.wrap ((IntKind.u64.wrap (rd ad (l1.length : Int))) - ae)) - ag)) % 4294967296)) := ⟨_, rfl⟩
              replace H : (if ((IntKind.u64.wrap ((IntKind.u64.wrap ((IntKind.u64.wrap (rd ad (l1.length : Int))) - ae)) - ag)) / 9223372036854775808) = 0 then (some ((ai) % 4294967296, aL)) else (nat_step.l2 k2 aL l1 (l1.length : Int) ai 0 (l1.length : Int) 0)) = some (r1, r2) := by first | (rw [aP]; with_reducible exact H) | (have H2_ := (Option.bind_some _ _).symm.trans H; rw [aP]; with_reducible exact H2_) | (have H2_ := (Option.bind_some _ _).symm.trans H; with_reducible exact H2_) | with_reducible exact H | (rw [aP]; exact H) | exact H
              have aI := Aside0.mk aP
              clear aP
              by_cases bM : ((IntKind.u64.wrap ((IntKind.u64.wrap ((IntKind.u64.wrap (rd ad (l1.length : Int))) - ae)) - ag)) / 9223372036854775808) = 0
              ·
               rw [if_pos bM] at H
               have a1 : (((IntKind.u64.wrap ((IntKind.u64.wrap ((IntKind.u64.wrap (rd ad (l1.length : Int))) - ae)) - ag)) / 9223372036854775808) == 0) = true := beq_iff_eq.mpr bM
               have a2 : (((IntKind.u64.wrap ((IntKind.u64.wrap ((IntKind.u64.wrap (rd ad (l1.length : Int))) - ae)) - ag)) / 9223372036854775808) != 0) = false := bne_eq_false_iff_eq.mpr bM
               clear bM
               (try (have aT := a1; simp only [hl0_2] at aT))
               (try (have aU := a2; simp only [hl0_2] at aU))
               simp only [Option.some.injEq, Prod.mk.injEq] at H
               obtain ⟨rfl, rfl⟩ := H
               have p959 : 0 ≤ ((l1.length : Int) : Int) := of_decide_eq_true (by first | (with_reducible assumption) | assumption)
               have q959 : (l1.length : Int) < (ad.length : Int) := of_decide_eq_true (by first | (with_reducible assumption) | assumption)
               have am := (Wn_cell aa.out (l1.length : Int) p959 q959).1
               (try simp only [Go.IntWalk.toNatUp] at am)
               (try simp only [hl0_2] at p959)
               (try simp only [hl0_2] at q959)
               (try simp only [hl0_2] at am)
               replace p959 := eq_true p959
               replace q959 := eq_true q959
               have p34 : 0 ≤ ((l1.length : Int) : Int) := of_decide_eq_true (by first | (with_reducible assumption) | assumption)
               have q34 : ((l1.length : Int) : Int) < ((ad.length : Int) : Int) := of_decide_eq_true (by first | (with_reducible assumption) | assumption)
               have GB34 := Aside0.mk (Wn_base aa.out)
               have HMgo34 := Aside0.mk (Wn_ok aa.out g rfl)
               (first | simp only [add_off] at am | skip)
               obtain ⟨aM, aV⟩ := Wn_cell aa.out ((l1.length : Int) : Int) p34 q34
               (try simp only [Go.IntWalk.toNatUp] at aM aV)
               replace p34 := eq_true p34
               replace q34 := eq_true q34
               obtain ⟨aF, hz36_⟩ := Wn_cell aa.out ((l1.length : Int) : Int) (of_decide_eq_true (by first | (with_reducible assumption) | assumption)) (of_decide_eq_true (by first | (with_reducible assumption) | assumption))
               (try simp only [Go.IntWalk.toNatUp] at aF hz36_)
               have ay := Wn_put aa.out ((l1.length : Int) : Int) (of_decide_eq_true (by first | (with_reducible assumption) | assumption)) (of_decide_eq_true (by first | (with_reducible assumption) | assumption)) ((IntKind.u64.wrap ((IntKind.u64.wrap ((IntKind.u64.wrap (rd ad (l1.length : Int))) - ae)) - ag)) % 4294967296)
               go_wp2_with (first | ((with_reducible refine gate_store (t := 48) (p := 132) rfl ?_); (try (rw [drewN_self wr]; generalize hq_ : World.drewN wr _ = wr; have aj := Aside0.mk (Wn_at hq_ aa.out); have ak := Aside0.mk (kept_at hq_ HK.out); have al := Aside0.mk (below_at hq_ HB.out); clear hq_ aa HK HB; have aa := aj; have HK := ak; have HB := al; clear aj ak al; (try (obtain ⟨aF, hz36_⟩ := Wn_cell aa.out ((l1.length : Int) : Int) (of_decide_eq_true (by first | (with_reducible assumption) | assumption)) (of_decide_eq_true (by first | (with_reducible assumption) | assumption)))); (try (try simp only [Go.IntWalk.toNatUp] at aF hz36_)); (try (have ay := Wn_put aa.out ((l1.length : Int) : Int) (of_decide_eq_true (by first | (with_reducible assumption) | assumption)) (of_decide_eq_true (by first | (with_reducible assumption) | assumption)) ((IntKind.u64.wrap ((IntKind.u64.wrap ((IntKind.u64.wrap (rd ad (l1.length : Int))) - ae)) - ag)) % 4294967296))))); refine store_event (t := 48) (p := 132) (v := ?vo_w37) (w1 := (wr.setCell ⟨g, o + ((l1.length : Int) : Int).toNat, none⟩ (.int .u32 ((IntKind.u64.wrap ((IntKind.u64.wrap ((IntKind.u64.wrap (rd ad (l1.length : Int))) - ae)) - ag)) % 4294967296)))) ?hg ?ho ?hn ?hr ?_; (case ho => rfl); (case hg => rfl); (case hn => rfl); (case hr => first | (go_simp; done) | (go_simp; rfl)); intro bf hw; have hg : wr.grownBy bf (some g) := (by rw [hw]; exact ay.2); have hp_ : Wn g o N cap ad.length zs bf w0.heap.size (fun k_ => (P0_ k_ ∨ w.heap.size ≤ k_)) aL := (by rw [hw, aI.out]; exact ay.1); clear ay; replace HB := Aside0.mk ((by rw [hw]; exact below_set (HB.out) GB34.out : Below w0.heap.size w0 bf)); replace HK := Aside0.mk (Kept.of_grown (S := (fun k_ => P0_ k_)) hg (by repeat (first | (with_reducible first | exact HK.out | apply Kept.alloc | apply Kept.drewN | apply Kept.drew) | exact HK.out)) (fun k_ e_ => (Wn_ok aa.out k_ e_))); replace aa := Aside0.mk (hp_); clear hg hw hp_))
               repeat (go_quiet (first | ((with_reducible refine gate_store (t := 48) (p := 132) rfl ?_); (try (rw [drewN_self wr]; generalize hq_ : World.drewN wr _ = wr; have aj := Aside0.mk (Wn_at hq_ aa.out); have ak := Aside0.mk (kept_at hq_ HK.out); have al := Aside0.mk (below_at hq_ HB.out); clear hq_ aa HK HB; have aa := aj; have HK := ak; have HB := al; clear aj ak al; (try (obtain ⟨aF, hz36_⟩ := Wn_cell aa.out ((l1.length : Int) : Int) (of_decide_eq_true (by first | (with_reducible assumption) | assumption)) (of_decide_eq_true (by first | (with_reducible assumption) | assumption)))); (try (try simp only [Go.IntWalk.toNatUp] at aF hz36_)); (try (have ay := Wn_put aa.out ((l1.length : Int) : Int) (of_decide_eq_true (by first | (with_reducible assumption) | assumption)) (of_decide_eq_true (by first | (with_reducible assumption) | assumption)) ((IntKind.u64.wrap ((IntKind.u64.wrap ((IntKind.u64.wrap (rd ad (l1.length : Int))) - ae)) - ag)) % 4294967296))))); refine store_event (t := 48) (p := 132) (v := ?vo_w37) (w1 := (wr.setCell ⟨g, o + ((l1.length : Int) : Int).toNat, none⟩ (.int .u32 ((IntKind.u64.wrap ((IntKind.u64.wrap ((IntKind.u64.wrap (rd ad (l1.length : Int))) - ae)) - ag)) % 4294967296)))) ?hg ?ho ?hn ?hr ?_; (case ho => rfl); (case hg => rfl); (case hn => rfl); (case hr => first | (go_simp; done) | (go_simp; rfl)); intro bf hw; have hg : wr.grownBy bf (some g) := (by rw [hw]; exact ay.2); have hp_ : Wn g o N cap ad.length zs bf w0.heap.size (fun k_ => (P0_ k_ ∨ w.heap.size ≤ k_)) aL := (by rw [hw, aI.out]; exact ay.1); clear ay; replace HB := Aside0.mk ((by rw [hw]; exact below_set (HB.out) GB34.out : Below w0.heap.size w0 bf)); replace HK := Aside0.mk (Kept.of_grown (S := (fun k_ => P0_ k_)) hg (by repeat (first | (with_reducible first | exact HK.out | apply Kept.alloc | apply Kept.drewN | apply Kept.drew) | exact HK.out)) (fun k_ e_ => (Wn_ok aa.out k_ e_))); replace aa := Aside0.mk (hp_); clear hg hw hp_)); try go_wp2_with (first | ((with_reducible refine gate_store (t := 48) (p := 132) rfl ?_); (try (rw [drewN_self wr]; generalize hq_ : World.drewN wr _ = wr; have aj := Aside0.mk (Wn_at hq_ aa.out); have ak := Aside0.mk (kept_at hq_ HK.out); have al := Aside0.mk (below_at hq_ HB.out); clear hq_ aa HK HB; have aa := aj; have HK := ak; have HB := al; clear aj ak al; (try (obtain ⟨aF, hz36_⟩ := Wn_cell aa.out ((l1.length : Int) : Int) (of_decide_eq_true (by first | (with_reducible assumption) | assumption)) (of_decide_eq_true (by first | (with_reducible assumption) | assumption)))); (try (try simp only [Go.IntWalk.toNatUp] at aF hz36_)); (try (have ay := Wn_put aa.out ((l1.length : Int) : Int) (of_decide_eq_true (by first | (with_reducible assumption) | assumption)) (of_decide_eq_true (by first | (with_reducible assumption) | assumption)) ((IntKind.u64.wrap ((IntKind.u64.wrap ((IntKind.u64.wrap (rd ad (l1.length : Int))) - ae)) - ag)) % 4294967296))))); refine store_event (t := 48) (p := 132) (v := ?vo_w37) (w1 := (wr.setCell ⟨g, o + ((l1.length : Int) : Int).toNat, none⟩ (.int .u32 ((IntKind.u64.wrap ((IntKind.u64.wrap ((IntKind.u64.wrap (rd ad (l1.length : Int))) - ae)) - ag)) % 4294967296)))) ?hg ?ho ?hn ?hr ?_; (case ho => rfl); (case hg => rfl); (case hn => rfl); (case hr => first | (go_simp; done) | (go_simp; rfl)); intro bf hw; have hg : wr.grownBy bf (some g) := (by rw [hw]; exact ay.2); have hp_ : Wn g o N cap ad.length zs bf w0.heap.size (fun k_ => (P0_ k_ ∨ w.heap.size ≤ k_)) aL := (by rw [hw, aI.out]; exact ay.1); clear ay; replace HB := Aside0.mk ((by rw [hw]; exact below_set (HB.out) GB34.out : Below w0.heap.size w0 bf)); replace HK := Aside0.mk (Kept.of_grown (S := (fun k_ => P0_ k_)) hg (by repeat (first | (with_reducible first | exact HK.out | apply Kept.alloc | apply Kept.drewN | apply Kept.drew) | exact HK.out)) (fun k_ e_ => (Wn_ok aa.out k_ e_))); replace aa := Aside0.mk (hp_); clear hg hw hp_)))
               go_ret
               exact ⟨by first | rfl | (simp [errW_none, errW_some] <;> rfl) | (simp only [← hji5]; first | rfl | (simp [errW_none, errW_some] <;> rfl)) | (simp [*, errW_none, errW_some] <;> rfl), (by first | exact (by (with_reducible repeat (first | apply Wn_alloc | apply Wn_drewN | apply Wn_drew)); exact aa.out) | (simp only [hl0_2]; exact (by (with_reducible repeat (first | apply Wn_alloc | apply Wn_drewN | apply Wn_drew)); exact aa.out))), by repeat (first | (with_reducible first | exact HB.out | apply below_alloc | apply pw_below_drewN | apply below_drew1) | exact HB.out), by repeat (first | (with_reducible first | exact HK.out | apply Kept.alloc | apply Kept.drewN | apply Kept.drew) | exact HK.out)⟩
              ·
               rw [if_neg bM] at H
               have a1 : (((IntKind.u64.wrap ((IntKind.u64.wrap ((IntKind.u64.wrap (rd ad (l1.length : Int))) - ae)) - ag)) / 9223372036854775808) == 0) = false := beq_eq_false_iff_ne.mpr bM
               have a2 : (((IntKind.u64.wrap ((IntKind.u64.wrap ((IntKind.u64.wrap (rd ad (l1.length : Int))) - ae)) - ag)) / 9223372036854775808) != 0) = true := bne_iff_ne.mpr bM
               (try (have aT := a1; simp only [hl0_2] at aT))
               (try (have aU := a2; simp only [hl0_2] at aU))
               have H' := Aside0.mk H
               clear H
               have p959 : 0 ≤ ((l1.length : Int) : Int) := of_decide_eq_true (by first | (with_reducible assumption) | assumption)
               have q959 : (l1.length : Int) < (ad.length : Int) := of_decide_eq_true (by first | (with_reducible assumption) | assumption)
               have am := (Wn_cell aa.out (l1.length : Int) p959 q959).1
               (try simp only [Go.IntWalk.toNatUp] at am)
               (try simp only [hl0_2] at p959)
               (try simp only [hl0_2] at q959)
               (try simp only [hl0_2] at am)
               replace p959 := eq_true p959
               replace q959 := eq_true q959
               have p34 : 0 ≤ ((l1.length : Int) : Int) := of_decide_eq_true (by first | (with_reducible assumption) | assumption)
               have q34 : ((l1.length : Int) : Int) < ((ad.length : Int) : Int) := of_decide_eq_true (by first | (with_reducible assumption) | assumption)
               have GB34 := Aside0.mk (Wn_base aa.out)
               have HMgo34 := Aside0.mk (Wn_ok aa.out g rfl)
               (first | simp only [add_off] at am | skip)
               obtain ⟨aM, aV⟩ := Wn_cell aa.out ((l1.length : Int) : Int) p34 q34
               (try simp only [Go.IntWalk.toNatUp] at aM aV)
               replace p34 := eq_true p34
               replace q34 := eq_true q34
               obtain ⟨aG, hz38_⟩ := Wn_cell aa.out ((l1.length : Int) : Int) (of_decide_eq_true (by first | (with_reducible assumption) | assumption)) (of_decide_eq_true (by first | (with_reducible assumption) | assumption))
               (try simp only [Go.IntWalk.toNatUp] at aG hz38_)
               have az := Wn_put aa.out ((l1.length : Int) : Int) (of_decide_eq_true (by first | (with_reducible assumption) | assumption)) (of_decide_eq_true (by first | (with_reducible assumption) | assumption)) ((IntKind.u64.wrap ((IntKind.u64.wrap ((IntKind.u64.wrap (rd ad (l1.length : Int))) - ae)) - ag)) % 4294967296)
               go_wp2_with (first | ((with_reducible refine gate_store (t := 48) (p := 132) rfl ?_); (try (rw [drewN_self wr]; generalize hq_ : World.drewN wr _ = wr; have aj := Aside0.mk (Wn_at hq_ aa.out); have ak := Aside0.mk (kept_at hq_ HK.out); have al := Aside0.mk (below_at hq_ HB.out); clear hq_ aa HK HB; have aa := aj; have HK := ak; have HB := al; clear aj ak al; (try (obtain ⟨aG, hz38_⟩ := Wn_cell aa.out ((l1.length : Int) : Int) (of_decide_eq_true (by first | (with_reducible assumption) | assumption)) (of_decide_eq_true (by first | (with_reducible assumption) | assumption)))); (try (try simp only [Go.IntWalk.toNatUp] at aG hz38_)); (try (have az := Wn_put aa.out ((l1.length : Int) : Int) (of_decide_eq_true (by first | (with_reducible assumption) | assumption)) (of_decide_eq_true (by first | (with_reducible assumption) | assumption)) ((IntKind.u64.wrap ((IntKind.u64.wrap ((IntKind.u64.wrap (rd ad (l1.length : Int))) - ae)) - ag)) % 4294967296))))); refine store_event (t := 48) (p := 132) (v := ?vo_w39) (w1 := (wr.setCell ⟨g, o + ((l1.length : Int) : Int).toNat, none⟩ (.int .u32 ((IntKind.u64.wrap ((IntKind.u64.wrap ((IntKind.u64.wrap (rd ad (l1.length : Int))) - ae)) - ag)) % 4294967296)))) ?hg ?ho ?hn ?hr ?_; (case ho => rfl); (case hg => rfl); (case hn => rfl); (case hr => first | (go_simp; done) | (go_simp; rfl)); intro bg hw; have hg : wr.grownBy bg (some g) := (by rw [hw]; exact az.2); have hp_ : Wn g o N cap ad.length zs bg w0.heap.size (fun k_ => (P0_ k_ ∨ w.heap.size ≤ k_)) aL := (by rw [hw, aI.out]; exact az.1); clear az; replace HB := Aside0.mk ((by rw [hw]; exact below_set (HB.out) GB34.out : Below w0.heap.size w0 bg)); replace HK := Aside0.mk (Kept.of_grown (S := (fun k_ => P0_ k_)) hg (by repeat (first | (with_reducible first | exact HK.out | apply Kept.alloc | apply Kept.drewN | apply Kept.drew) | exact HK.out)) (fun k_ e_ => (Wn_ok aa.out k_ e_))); replace aa := Aside0.mk (hp_); clear hg hw hp_))
               repeat (go_quiet (first | ((with_reducible refine gate_store (t := 48) (p := 132) rfl ?_); (try (rw [drewN_self wr]; generalize hq_ : World.drewN wr _ = wr; have aj := Aside0.mk (Wn_at hq_ aa.out); have ak := Aside0.mk (kept_at hq_ HK.out); have al := Aside0.mk (below_at hq_ HB.out); clear hq_ aa HK HB; have aa := aj; have HK := ak; have HB := al; clear aj ak al; (try (obtain ⟨aG, hz38_⟩ := Wn_cell aa.out ((l1.length : Int) : Int) (of_decide_eq_true (by first | (with_reducible assumption) | assumption)) (of_decide_eq_true (by first | (with_reducible assumption) | assumption)))); (try (try simp only [Go.IntWalk.toNatUp] at aG hz38_)); (try (have az := Wn_put aa.out ((l1.length : Int) : Int) (of_decide_eq_true (by first | (with_reducible assumption) | assumption)) (of_decide_eq_true (by first | (with_reducible assumption) | assumption)) ((IntKind.u64.wrap ((IntKind.u64.wrap ((IntKind.u64.wrap (rd ad (l1.length : Int))) - ae)) - ag)) % 4294967296))))); refine store_event (t := 48) (p := 132) (v := ?vo_w39) (w1 := (wr.setCell ⟨g, o + ((l1.length : Int) : Int).toNat, none⟩ (.int .u32 ((IntKind.u64.wrap ((IntKind.u64.wrap ((IntKind.u64.wrap (rd ad (l1.length : Int))) - ae)) - ag)) % 4294967296)))) ?hg ?ho ?hn ?hr ?_; (case ho => rfl); (case hg => rfl); (case hn => rfl); (case hr => first | (go_simp; done) | (go_simp; rfl)); intro bg hw; have hg : wr.grownBy bg (some g) := (by rw [hw]; exact az.2); have hp_ : Wn g o N cap ad.length zs bg w0.heap.size (fun k_ => (P0_ k_ ∨ w.heap.size ≤ k_)) aL := (by rw [hw, aI.out]; exact az.1); clear az; replace HB := Aside0.mk ((by rw [hw]; exact below_set (HB.out) GB34.out : Below w0.heap.size w0 bg)); replace HK := Aside0.mk (Kept.of_grown (S := (fun k_ => P0_ k_)) hg (by repeat (first | (with_reducible first | exact HK.out | apply Kept.alloc | apply Kept.drewN | apply Kept.drew) | exact HK.out)) (fun k_ e_ => (Wn_ok aa.out k_ e_))); replace aa := Aside0.mk (hp_); clear hg hw hp_)); try go_wp2_with (first | ((with_reducible refine gate_store (t := 48) (p := 132) rfl ?_); (try (rw [drewN_self wr]; generalize hq_ : World.drewN wr _ = wr; have aj := Aside0.mk (Wn_at hq_ aa.out); have ak := Aside0.mk (kept_at hq_ HK.out); have al := Aside0.mk (below_at hq_ HB.out); clear hq_ aa HK HB; have aa := aj; have HK := ak; have HB := al; clear aj ak al; (try (obtain ⟨aG, hz38_⟩ := Wn_cell aa.out ((l1.length : Int) : Int) (of_decide_eq_true (by first | (with_reducible assumption) | assumption)) (of_decide_eq_true (by first | (with_reducible assumption) | assumption)))); (try (try simp only [Go.IntWalk.toNatUp] at aG hz38_)); (try (have az := Wn_put aa.out ((l1.length : Int) : Int) (of_decide_eq_true (by first | (with_reducible assumption) | assumption)) (of_decide_eq_true (by first | (with_reducible assumption) | assumption)) ((IntKind.u64.wrap ((IntKind.u64.wrap ((IntKind.u64.wrap (rd ad (l1.length : Int))) - ae)) - ag)) % 4294967296))))); refine store_event (t := 48) (p := 132) (v := ?vo_w39) (w1 := (wr.setCell ⟨g, o + ((l1.length : Int) : Int).toNat, none⟩ (.int .u32 ((IntKind.u64.wrap ((IntKind.u64.wrap ((IntKind.u64.wrap (rd ad (l1.length : Int))) - ae)) - ag)) % 4294967296)))) ?hg ?ho ?hn ?hr ?_; (case ho => rfl); (case hg => rfl); (case hn => rfl); (case hr => first | (go_simp; done) | (go_simp; rfl)); intro bg hw; have hg : wr.grownBy bg (some g) := (by rw [hw]; exact az.2); have hp_ : Wn g o N cap ad.length zs bg w0.heap.size (fun k_ => (P0_ k_ ∨ w.heap.size ≤ k_)) aL := (by rw [hw, aI.out]; exact az.1); clear az; replace HB := Aside0.mk ((by rw [hw]; exact below_set (HB.out) GB34.out : Below w0.heap.size w0 bg)); replace HK := Aside0.mk (Kept.of_grown (S := (fun k_ => P0_ k_)) hg (by repeat (first | (with_reducible first | exact HK.out | apply Kept.alloc | apply Kept.drewN | apply Kept.drew) | exact HK.out)) (fun k_ e_ => (Wn_ok aa.out k_ e_))); replace aa := Aside0.mk (hp_); clear hg hw hp_)))
               go_loopg [10, 140] k2 (fun kq cw cy w' => ∃ (af : List Int) (ah : Int) (ab : Int), cw = .int .u64 ah ∧ cy = .int .i64 ab ∧ Aside0 (nat_step.l2 kq af l1 (l1.length : Int) ai ah (l1.length : Int) ab = some (r1, r2)) ∧ Aside0 (kq ≤ k2) ∧ Aside0 (Wn g o N cap ad.length zs w' w0.heap.size (fun k_ => (P0_ k_ ∨ w.heap.size ≤ k_)) af) ∧ Aside0 (Kept w w' (fun k_ => P0_ k_)) ∧ Aside0 (Below w0.heap.size w0 w'))
               case atStart => exact ⟨(aL), (0), (0), (by first | rfl | (simp; done) | (simp [*]; done)), (by first | rfl | (simp; done) | (simp [*]; done)), H', ⟨Nat.le_refl _⟩, ⟨by (try simp only [hl0_2]); (with_reducible repeat (first | apply Wn_alloc | apply Wn_drewN | apply Wn_drew)); exact aa.out⟩, ⟨by repeat (first | (with_reducible first | exact HK.out | apply Kept.alloc | apply Kept.drewN | apply Kept.drew) | exact HK.out)⟩, ⟨by repeat (first | (with_reducible first | exact HB.out | apply below_alloc | apply pw_below_drewN | apply below_drew1) | exact HB.out)⟩⟩
               case round =>
                clear H'
                try clear c1
                try clear c2
                try clear p2
                try clear q2
                try clear hx2
                try clear hf2
                try clear c3
                try clear bo
                try clear bp
                try clear p3
                try clear q3
                try clear hx3
                try clear hf3
                try clear c4
                try clear bq
                try clear br
                try clear c6
                try clear bs
                try clear p6
                try clear c7
                try clear bv
                try clear c8
                try clear bw
                try clear c9
                try clear bx
                try clear bz
                try clear p9
                try clear q9
                try clear hx9
                try clear bA
                try clear aw
                try clear c12b1
                try clear bB
                try clear aX
                try clear bO
                try clear a3
                try clear bP
                try clear a4
                try clear bQ
                try clear a5
                try clear bR
                try clear a6
                try clear bS
                try clear a7
                try clear bC
                try clear aY
                try clear bT
                try clear a8
                try clear bU
                try clear a9
                try clear bV
                try clear aZ
                try clear cd
                try clear ce
                try clear cf
                try clear bG
                try clear cg
                try clear bH
                try clear p29
                try clear q29
                try clear hx29
                try clear hf29
                try clear ch
                try clear bI
                try clear bJ
                try clear cb
                try clear bK
                try clear bL
                try clear p34
                try clear q34
                try clear hx34
                try clear hf34
                try clear bM
                try clear a1
                try clear a2
                try clear bY
                try clear aM
                try clear ao
                try clear aq
                try clear aC
                try clear aD
                try clear aJ
                try clear aE
                try clear au
                try clear aK
                try clear bD
                try clear a0
                try clear am
                try clear p2
                try clear p29
                try clear p34
                try clear p6
                try clear p9
                try clear p948
                try clear p949
                try clear p950
                try clear p951
                try clear p952
                try clear p953
                try clear p954
                try clear p955
                try clear p956
                try clear p957
                try clear p959
                try clear q29
                try clear q34
                try clear q9
                try clear q948
                try clear q949
                try clear q950
                try clear q951
                try clear q952
                try clear q953
                try clear q954
                try clear q955
                try clear q956
                try clear q957
                try clear q959
                obtain ⟨af, ah, ab, rfl, rfl, HA, HK3, aa, HK, HB⟩ := hrel
                have hl0_3 := aa.out.1.symm
                rw [hl0_3] at aa
                (try simp only [hl0_3])
                cases gk with
                | zero => exact absurd HA.out (by simp [nat_step.l2])
                | succ k3 =>
                 have H := HA.out
                 clear HA
                 simp only [nat_step.l2] at H
                 by_cases cc : ab < (l1.length : Int)
                 ·
                  rw [if_pos cc] at H
                  have bh : decide (ab < (l1.length : Int)) = true := decide_eq_true cc
                  clear cc
                  (try (have aW := bh; simp only [hl0_2, hl0_3] at aW))
                  by_cases cp : 0 ≤ ab
                  ·
                   rw [if_pos cp] at H
                   have cB : decide (0 ≤ ab) = true := decide_eq_true cp
                   clear cp
                   by_cases cq : ab < (af.length : Int)
                   ·
                    rw [if_pos cq] at H
                    have ci : decide (ab < (af.length : Int)) = true := decide_eq_true cq
                    clear cq
                    (try (have b3 := ci; simp only [hl0_2, hl0_3] at b3))
                    by_cases cr : ab < (l1.length : Int)
                    ·
                     rw [if_pos cr] at H
                     have cj : decide (ab < (l1.length : Int)) = true := decide_eq_true cr
                     clear cr
                     (try (have b4 := cj; simp only [hl0_2, hl0_3] at b4))
                     obtain ⟨bi, aQ⟩ : ∃ y_ : List Int, y_ = (af.set (ab : Int).toNat ((IntKind.u64.wrap ((IntKind.u64.wrap ((IntKind.u64.wrap (rd af ab)) + (IntKind.u64.wrap (rd l1 ab)))) + ah)) % 4294967296)) := ⟨_, rfl⟩
                     replace H : (nat_step.l2 k3 bi l1 (l1.length : Int) ai ((IntKind.u64.wrap ((IntKind.u64.wrap ((IntKind.u64.wrap (rd af ab)) + (IntKind.u64.wrap (rd l1 ab)))) + ah)) / 4294967296) (l1.length : Int) (wrap64 (ab + 1))) = some (r1, r2) := by first | (rw [aQ]; with_reducible exact H) | (have H2_ := (Option.bind_some _ _).symm.trans H; rw [aQ]; with_reducible exact H2_) | (have H2_ := (Option.bind_some _ _).symm.trans H; with_reducible exact H2_) | with_reducible exact H | (rw [aQ]; exact H) | exact H
                     have bj := Aside0.mk aQ
                     clear aQ
                     have H' := Aside0.mk H
                     clear H
                     have p961 : 0 ≤ (ab : Int) := of_decide_eq_true (by first | (with_reducible assumption) | assumption)
                     have q961 : ab < (af.length : Int) := of_decide_eq_true (by first | (with_reducible assumption) | assumption)
                     have aN := (Wn_cell aa.out ab p961 q961).1
                     (first | simp only [add_off] at aN | simp only [add_at] at aN | simp only [Addr.add, Nat.zero_add] at aN | skip)
                     replace p961 := eq_true p961
                     replace q961 := eq_true q961
                     have p962 : 0 ≤ (ab : Int) := of_decide_eq_true (by first | (with_reducible assumption) | assumption)
                     have q962 : ab < (l1.length : Int) := of_decide_eq_true (by first | (with_reducible assumption) | assumption)
                     obtain ⟨ad962, e962, cs⟩ := Kd.at_int (Kd.C_kept_now bF.out HK.out) ab p962 q962
                     obtain rfl : ad950 = ad962 := (by injection e962)
                     replace p962 := eq_true p962
                     replace q962 := eq_true q962
                     have p44 : 0 ≤ (ab : Int) := of_decide_eq_true (by first | (with_reducible assumption) | assumption)
                     have q44 : (ab : Int) < ((af.length : Int) : Int) := of_decide_eq_true (by first | (with_reducible assumption) | assumption)
                     obtain ⟨cz, cA⟩ := Wn_cell aa.out (ab : Int) p44 q44
                     replace p44 := eq_true p44
                     replace q44 := eq_true q44
                     obtain ⟨bk, hz45_⟩ := Wn_cell aa.out (ab : Int) (of_decide_eq_true (by first | (with_reducible assumption) | assumption)) (of_decide_eq_true (by first | (with_reducible assumption) | assumption))
                     have aA := Wn_put aa.out (ab : Int) (of_decide_eq_true (by first | (with_reducible assumption) | assumption)) (of_decide_eq_true (by first | (with_reducible assumption) | assumption)) ((IntKind.u64.wrap ((IntKind.u64.wrap ((IntKind.u64.wrap (rd af ab)) + (IntKind.u64.wrap (rd l1 ab)))) + ah)) % 4294967296)
                     go_wp2_with (first | ((with_reducible refine gate_store (t := 48) (p := 160) rfl ?_); (try (rw [drewN_self wr]; generalize hq_ : World.drewN wr _ = wr; have aj := Aside0.mk (Wn_at hq_ aa.out); have ak := Aside0.mk (kept_at hq_ HK.out); have al := Aside0.mk (below_at hq_ HB.out); clear hq_ aa HK HB; have aa := aj; have HK := ak; have HB := al; clear aj ak al; (try (obtain ⟨bk, hz45_⟩ := Wn_cell aa.out (ab : Int) (of_decide_eq_true (by first | (with_reducible assumption) | assumption)) (of_decide_eq_true (by first | (with_reducible assumption) | assumption)))); (try (have aA := Wn_put aa.out (ab : Int) (of_decide_eq_true (by first | (with_reducible assumption) | assumption)) (of_decide_eq_true (by first | (with_reducible assumption) | assumption)) ((IntKind.u64.wrap ((IntKind.u64.wrap ((IntKind.u64.wrap (rd af ab)) + (IntKind.u64.wrap (rd l1 ab)))) + ah)) % 4294967296))))); refine store_event (t := 48) (p := 160) (v := ?vo_w46) (w1 := (wr.setCell ⟨g, o + (ab : Int).toNat, none⟩ (.int .u32 ((IntKind.u64.wrap ((IntKind.u64.wrap ((IntKind.u64.wrap (rd af ab)) + (IntKind.u64.wrap (rd l1 ab)))) + ah)) % 4294967296)))) ?hg ?ho ?hn ?hr ?_; (case ho => rfl); (case hg => rfl); (case hn => rfl); (case hr => first | (go_simp; done) | (go_simp; rfl)); intro bl hw; have hg : wr.grownBy bl (some g) := (by rw [hw]; exact aA.2); have hp_ : Wn g o N cap af.length zs bl w0.heap.size (fun k_ => (P0_ k_ ∨ w.heap.size ≤ k_)) bi := (by rw [hw, bj.out]; exact aA.1); clear aA; replace HB := Aside0.mk ((by rw [hw]; exact below_set (HB.out) GB34.out : Below w0.heap.size w0 bl)); replace HK := Aside0.mk (Kept.of_grown (S := (fun k_ => P0_ k_)) hg (by repeat (first | (with_reducible first | exact HK.out | apply Kept.alloc | apply Kept.drewN | apply Kept.drew) | exact HK.out)) (fun k_ e_ => (Wn_ok aa.out k_ e_))); replace aa := Aside0.mk (hp_); clear hg hw hp_))
                     repeat (go_quiet (first | ((with_reducible refine gate_store (t := 48) (p := 160) rfl ?_); (try (rw [drewN_self wr]; generalize hq_ : World.drewN wr _ = wr; have aj := Aside0.mk (Wn_at hq_ aa.out); have ak := Aside0.mk (kept_at hq_ HK.out); have al := Aside0.mk (below_at hq_ HB.out); clear hq_ aa HK HB; have aa := aj; have HK := ak; have HB := al; clear aj ak al; (try (obtain ⟨bk, hz45_⟩ := Wn_cell aa.out (ab : Int) (of_decide_eq_true (by first | (with_reducible assumption) | assumption)) (of_decide_eq_true (by first | (with_reducible assumption) | assumption)))); (try (have aA := Wn_put aa.out (ab : Int) (of_decide_eq_true (by first | (with_reducible assumption) | assumption)) (of_decide_eq_true (by first | (with_reducible assumption) | assumption)) ((IntKind.u64.wrap ((IntKind.u64.wrap ((IntKind.u64.wrap (rd af ab)) + (IntKind.u64.wrap (rd l1 ab)))) + ah)) % 4294967296))))); refine store_event (t := 48) (p := 160) (v := ?vo_w46) (w1 := (wr.setCell ⟨g, o + (ab : Int).toNat, none⟩ (.int .u32 ((IntKind.u64.wrap ((IntKind.u64.wrap ((IntKind.u64.wrap (rd af ab)) + (IntKind.u64.wrap (rd l1 ab)))) + ah)) % 4294967296)))) ?hg ?ho ?hn ?hr ?_; (case ho => rfl); (case hg => rfl); (case hn => rfl); (case hr => first | (go_simp; done) | (go_simp; rfl)); intro bl hw; have hg : wr.grownBy bl (some g) := (by rw [hw]; exact aA.2); have hp_ : Wn g o N cap af.length zs bl w0.heap.size (fun k_ => (P0_ k_ ∨ w.heap.size ≤ k_)) bi := (by rw [hw, bj.out]; exact aA.1); clear aA; replace HB := Aside0.mk ((by rw [hw]; exact below_set (HB.out) GB34.out : Below w0.heap.size w0 bl)); replace HK := Aside0.mk (Kept.of_grown (S := (fun k_ => P0_ k_)) hg (by repeat (first | (with_reducible first | exact HK.out | apply Kept.alloc | apply Kept.drewN | apply Kept.drew) | exact HK.out)) (fun k_ e_ => (Wn_ok aa.out k_ e_))); replace aa := Aside0.mk (hp_); clear hg hw hp_)); try go_wp2_with (first | ((with_reducible refine gate_store (t := 48) (p := 160) rfl ?_); (try (rw [drewN_self wr]; generalize hq_ : World.drewN wr _ = wr; have aj := Aside0.mk (Wn_at hq_ aa.out); have ak := Aside0.mk (kept_at hq_ HK.out); have al := Aside0.mk (below_at hq_ HB.out); clear hq_ aa HK HB; have aa := aj; have HK := ak; have HB := al; clear aj ak al; (try (obtain ⟨bk, hz45_⟩ := Wn_cell aa.out (ab : Int) (of_decide_eq_true (by first | (with_reducible assumption) | assumption)) (of_decide_eq_true (by first | (with_reducible assumption) | assumption)))); (try (have aA := Wn_put aa.out (ab : Int) (of_decide_eq_true (by first | (with_reducible assumption) | assumption)) (of_decide_eq_true (by first | (with_reducible assumption) | assumption)) ((IntKind.u64.wrap ((IntKind.u64.wrap ((IntKind.u64.wrap (rd af ab)) + (IntKind.u64.wrap (rd l1 ab)))) + ah)) % 4294967296))))); refine store_event (t := 48) (p := 160) (v := ?vo_w46) (w1 := (wr.setCell ⟨g, o + (ab : Int).toNat, none⟩ (.int .u32 ((IntKind.u64.wrap ((IntKind.u64.wrap ((IntKind.u64.wrap (rd af ab)) + (IntKind.u64.wrap (rd l1 ab)))) + ah)) % 4294967296)))) ?hg ?ho ?hn ?hr ?_; (case ho => rfl); (case hg => rfl); (case hn => rfl); (case hr => first | (go_simp; done) | (go_simp; rfl)); intro bl hw; have hg : wr.grownBy bl (some g) := (by rw [hw]; exact aA.2); have hp_ : Wn g o N cap af.length zs bl w0.heap.size (fun k_ => (P0_ k_ ∨ w.heap.size ≤ k_)) bi := (by rw [hw, bj.out]; exact aA.1); clear aA; replace HB := Aside0.mk ((by rw [hw]; exact below_set (HB.out) GB34.out : Below w0.heap.size w0 bl)); replace HK := Aside0.mk (Kept.of_grown (S := (fun k_ => P0_ k_)) hg (by repeat (first | (with_reducible first | exact HK.out | apply Kept.alloc | apply Kept.drewN | apply Kept.drew) | exact HK.out)) (fun k_ e_ => (Wn_ok aa.out k_ e_))); replace aa := Aside0.mk (hp_); clear hg hw hp_)))
                     (try simp only [← hl0_3])
                     go_roundg k3
                     case measure => have := HJ9.out; have := HK2.out; have := HK3.out; omega
                     case rel => exact ⟨(bi), ((IntKind.u64.wrap ((IntKind.u64.wrap ((IntKind.u64.wrap (rd af ab)) + (IntKind.u64.wrap (rd l1 ab)))) + ah)) / 4294967296), (wrap64 (ab + 1)), (by first | rfl | (simp; done) | (simp [*]; done)), (by first | rfl | (simp; done) | (simp [*]; done)), H', ⟨by have := HJ9.out; have := HK2.out; have := HK3.out; omega⟩, ⟨by (try simp only [hl0_2]); (try simp only [hl0_3]); (with_reducible repeat (first | apply Wn_alloc | apply Wn_drewN | apply Wn_drew)); exact aa.out⟩, ⟨by repeat (first | (with_reducible first | exact HK.out | apply Kept.alloc | apply Kept.drewN | apply Kept.drew) | exact HK.out)⟩, ⟨by repeat (first | (with_reducible first | exact HB.out | apply below_alloc | apply pw_below_drewN | apply below_drew1) | exact HB.out)⟩⟩
                    ·
                     rw [if_neg cr] at H
                     exact absurd H (by simp)
                   ·
                    rw [if_neg cq] at H
                    exact absurd H (by simp)
                  ·
                   rw [if_neg cp] at H
                   exact absurd H (by simp)
                 ·
                  rw [if_neg cc] at H
                  have bh : decide (ab < (l1.length : Int)) = false := decide_eq_false cc
                  clear cc
                  (try (have aW := bh; simp only [hl0_2, hl0_3] at aW))
                  by_cases ct : 0 ≤ (l1.length : Int)
                  ·
                   rw [if_pos ct] at H
                   have ck : decide (0 ≤ (l1.length : Int)) = true := decide_eq_true ct
                   have cl : decide (0 ≤ l1.length) = true := decide_eq_true (by omega)
                   clear ct
                   (try (have b5 := ck; simp only [hl0_2, hl0_3] at b5))
                   (try (have b6 := cl; simp only [hl0_2, hl0_3] at b6))
                   by_cases cm : (l1.length : Int) < (af.length : Int)
                   ·
                    rw [if_pos cm] at H
                    have cn : decide ((l1.length : Int) < (af.length : Int)) = true := decide_eq_true cm
                    have co : decide (l1.length < af.length) = true := decide_eq_true (Int.ofNat_lt.mp cm)
                    clear cm
                    (try (have b7 := cn; simp only [hl0_2, hl0_3] at b7))
                    (try (have b8 := co; simp only [hl0_2, hl0_3] at b8))
                    obtain ⟨bE, aR⟩ : ∃ y_ : List Int, y_ = (af.set ((l1.length : Int) : Int).toNat (((rd af (l1.length : Int)) + ((ah) % 4294967296)) % 4294967296)) := ⟨_, rfl⟩
                    replace H : (some ((IntKind.u64.wrap (ai - 1)) % 4294967296, bE)) = some (r1, r2) := by first | (rw [aR]; with_reducible exact H) | (have H2_ := (Option.bind_some _ _).symm.trans H; rw [aR]; with_reducible exact H2_) | (have H2_ := (Option.bind_some _ _).symm.trans H; with_reducible exact H2_) | with_reducible exact H | (rw [aR]; exact H) | exact H
                    have bm := Aside0.mk aR
                    clear aR
                    simp only [Option.some.injEq, Prod.mk.injEq] at H
                    obtain ⟨rfl, rfl⟩ := H
                    have p964 : 0 ≤ ((l1.length : Int) : Int) := of_decide_eq_true (by first | (with_reducible assumption) | assumption)
                    have q964 : (l1.length : Int) < (af.length : Int) := of_decide_eq_true (by first | (with_reducible assumption) | assumption)
                    have av := (Wn_cell aa.out (l1.length : Int) p964 q964).1
                    (first | simp only [add_off] at av | simp only [add_at] at av | simp only [Addr.add, Nat.zero_add] at av | skip)
                    (try simp only [Go.IntWalk.toNatUp] at av)
                    (try simp only [hl0_2, hl0_3] at p964)
                    (try simp only [hl0_2, hl0_3] at q964)
                    (try simp only [hl0_2, hl0_3] at av)
                    replace p964 := eq_true p964
                    replace q964 := eq_true q964
                    have p49 : 0 ≤ ((l1.length : Int) : Int) := of_decide_eq_true (by first | (with_reducible assumption) | assumption)
                    have q49 : ((l1.length : Int) : Int) < ((af.length : Int) : Int) := of_decide_eq_true (by first | (with_reducible assumption) | assumption)
                    obtain ⟨b9, ca⟩ := Wn_cell aa.out ((l1.length : Int) : Int) p49 q49
                    (try simp only [Go.IntWalk.toNatUp] at b9 ca)
                    replace p49 := eq_true p49
                    replace q49 := eq_true q49
                    obtain ⟨aH, hz50_⟩ := Wn_cell aa.out ((l1.length : Int) : Int) (of_decide_eq_true (by first | (with_reducible assumption) | assumption)) (of_decide_eq_true (by first | (with_reducible assumption) | assumption))
                    (try simp only [Go.IntWalk.toNatUp] at aH hz50_)
                    have aB := Wn_put aa.out ((l1.length : Int) : Int) (of_decide_eq_true (by first | (with_reducible assumption) | assumption)) (of_decide_eq_true (by first | (with_reducible assumption) | assumption)) (((rd af (l1.length : Int)) + ((ah) % 4294967296)) % 4294967296)
                    go_wp2_with (first | ((with_reducible refine gate_store (t := 48) (p := 171) rfl ?_); (try (rw [drewN_self wr]; generalize hq_ : World.drewN wr _ = wr; have aj := Aside0.mk (Wn_at hq_ aa.out); have ak := Aside0.mk (kept_at hq_ HK.out); have al := Aside0.mk (below_at hq_ HB.out); clear hq_ aa HK HB; have aa := aj; have HK := ak; have HB := al; clear aj ak al; (try (obtain ⟨aH, hz50_⟩ := Wn_cell aa.out ((l1.length : Int) : Int) (of_decide_eq_true (by first | (with_reducible assumption) | assumption)) (of_decide_eq_true (by first | (with_reducible assumption) | assumption)))); (try (try simp only [Go.IntWalk.toNatUp] at aH hz50_)); (try (have aB := Wn_put aa.out ((l1.length : Int) : Int) (of_decide_eq_true (by first | (with_reducible assumption) | assumption)) (of_decide_eq_true (by first | (with_reducible assumption) | assumption)) (((rd af (l1.length : Int)) + ((ah) % 4294967296)) % 4294967296))))); refine store_event (t := 48) (p := 171) (v := ?vo_w51) (w1 := (wr.setCell ⟨g, o + ((l1.length : Int) : Int).toNat, none⟩ (.int .u32 (((rd af (l1.length : Int)) + ((ah) % 4294967296)) % 4294967296)))) ?hg ?ho ?hn ?hr ?_; (case ho => rfl); (case hg => rfl); (case hn => rfl); (case hr => first | (go_simp; done) | (go_simp; rfl)); intro bn hw; have hg : wr.grownBy bn (some g) := (by rw [hw]; exact aB.2); have hp_ : Wn g o N cap af.length zs bn w0.heap.size (fun k_ => (P0_ k_ ∨ w.heap.size ≤ k_)) bE := (by rw [hw, bm.out]; exact aB.1); clear aB; replace HB := Aside0.mk ((by rw [hw]; exact below_set (HB.out) GB34.out : Below w0.heap.size w0 bn)); replace HK := Aside0.mk (Kept.of_grown (S := (fun k_ => P0_ k_)) hg (by repeat (first | (with_reducible first | exact HK.out | apply Kept.alloc | apply Kept.drewN | apply Kept.drew) | exact HK.out)) (fun k_ e_ => (Wn_ok aa.out k_ e_))); replace aa := Aside0.mk (hp_); clear hg hw hp_))
                    repeat (go_quiet (first | ((with_reducible refine gate_store (t := 48) (p := 171) rfl ?_); (try (rw [drewN_self wr]; generalize hq_ : World.drewN wr _ = wr; have aj := Aside0.mk (Wn_at hq_ aa.out); have ak := Aside0.mk (kept_at hq_ HK.out); have al := Aside0.mk (below_at hq_ HB.out); clear hq_ aa HK HB; have aa := aj; have HK := ak; have HB := al; clear aj ak al; (try (obtain ⟨aH, hz50_⟩ := Wn_cell aa.out ((l1.length : Int) : Int) (of_decide_eq_true (by first | (with_reducible assumption) | assumption)) (of_decide_eq_true (by first | (with_reducible assumption) | assumption)))); (try (try simp only [Go.IntWalk.toNatUp] at aH hz50_)); (try (have aB := Wn_put aa.out ((l1.length : Int) : Int) (of_decide_eq_true (by first | (with_reducible assumption) | assumption)) (of_decide_eq_true (by first | (with_reducible assumption) | assumption)) (((rd af (l1.length : Int)) + ((ah) % 4294967296)) % 4294967296))))); refine store_event (t := 48) (p := 171) (v := ?vo_w51) (w1 := (wr.setCell ⟨g, o + ((l1.length : Int) : Int).toNat, none⟩ (.int .u32 (((rd af (l1.length : Int)) + ((ah) % 4294967296)) % 4294967296)))) ?hg ?ho ?hn ?hr ?_; (case ho => rfl); (case hg => rfl); (case hn => rfl); (case hr => first | (go_simp; done) | (go_simp; rfl)); intro bn hw; have hg : wr.grownBy bn (some g) := (by rw [hw]; exact aB.2); have hp_ : Wn g o N cap af.length zs bn w0.heap.size (fun k_ => (P0_ k_ ∨ w.heap.size ≤ k_)) bE := (by rw [hw, bm.out]; exact aB.1); clear aB; replace HB := Aside0.mk ((by rw [hw]; exact below_set (HB.out) GB34.out : Below w0.heap.size w0 bn)); replace HK := Aside0.mk (Kept.of_grown (S := (fun k_ => P0_ k_)) hg (by repeat (first | (with_reducible first | exact HK.out | apply Kept.alloc | apply Kept.drewN | apply Kept.drew) | exact HK.out)) (fun k_ e_ => (Wn_ok aa.out k_ e_))); replace aa := Aside0.mk (hp_); clear hg hw hp_)); try go_wp2_with (first | ((with_reducible refine gate_store (t := 48) (p := 171) rfl ?_); (try (rw [drewN_self wr]; generalize hq_ : World.drewN wr _ = wr; have aj := Aside0.mk (Wn_at hq_ aa.out); have ak := Aside0.mk (kept_at hq_ HK.out); have al := Aside0.mk (below_at hq_ HB.out); clear hq_ aa HK HB; have aa := aj; have HK := ak; have HB := al; clear aj ak al; (try (obtain ⟨aH, hz50_⟩ := Wn_cell aa.out ((l1.length : Int) : Int) (of_decide_eq_true (by first | (with_reducible assumption) | assumption)) (of_decide_eq_true (by first | (with_reducible assumption) | assumption)))); (try (try simp only [Go.IntWalk.toNatUp] at aH hz50_)); (try (have aB := Wn_put aa.out ((l1.length : Int) : Int) (of_decide_eq_true (by first | (with_reducible assumption) | assumption)) (of_decide_eq_true (by first | (with_reducible assumption) | assumption)) (((rd af (l1.length : Int)) + ((ah) % 4294967296)) % 4294967296))))); refine store_event (t := 48) (p := 171) (v := ?vo_w51) (w1 := (wr.setCell ⟨g, o + ((l1.length : Int) : Int).toNat, none⟩ (.int .u32 (((rd af (l1.length : Int)) + ((ah) % 4294967296)) % 4294967296)))) ?hg ?ho ?hn ?hr ?_; (case ho => rfl); (case hg => rfl); (case hn => rfl); (case hr => first | (go_simp; done) | (go_simp; rfl)); intro bn hw; have hg : wr.grownBy bn (some g) := (by rw [hw]; exact aB.2); have hp_ : Wn g o N cap af.length zs bn w0.heap.size (fun k_ => (P0_ k_ ∨ w.heap.size ≤ k_)) bE := (by rw [hw, bm.out]; exact aB.1); clear aB; replace HB := Aside0.mk ((by rw [hw]; exact below_set (HB.out) GB34.out : Below w0.heap.size w0 bn)); replace HK := Aside0.mk (Kept.of_grown (S := (fun k_ => P0_ k_)) hg (by repeat (first | (with_reducible first | exact HK.out | apply Kept.alloc | apply Kept.drewN | apply Kept.drew) | exact HK.out)) (fun k_ e_ => (Wn_ok aa.out k_ e_))); replace aa := Aside0.mk (hp_); clear hg hw hp_)))
                    go_ret
                    exact ⟨by first | rfl | (simp [errW_none, errW_some] <;> rfl) | (simp only [← hji5]; first | rfl | (simp [errW_none, errW_some] <;> rfl)) | (simp [*, errW_none, errW_some] <;> rfl), (by first | exact (by (with_reducible repeat (first | apply Wn_alloc | apply Wn_drewN | apply Wn_drew)); exact aa.out) | (simp only [hl0_2, hl0_3]; exact (by (with_reducible repeat (first | apply Wn_alloc | apply Wn_drewN | apply Wn_drew)); exact aa.out))), by repeat (first | (with_reducible first | exact HB.out | apply below_alloc | apply pw_below_drewN | apply below_drew1) | exact HB.out), by repeat (first | (with_reducible first | exact HK.out | apply Kept.alloc | apply Kept.drewN | apply Kept.drew) | exact HK.out)⟩
                   ·
                    rw [if_neg cm] at H
                    exact absurd H (by simp)
                  ·
                   rw [if_neg ct] at H
                   exact absurd H (by simp)
             ·
              rw [if_neg cb] at H
              exact absurd H (by simp)
            ·
             rw [if_neg ch] at H
             exact absurd H (by simp)
     ·
      rw [if_neg c8] at H
      exact absurd H (by simp)
    ·
     rw [if_neg c7] at H
     exact absurd H (by simp)
   ·
    rw [if_neg c6] at H
    exact absurd H (by simp)
  ·
   rw [if_neg c4] at H
   exact absurd H (by simp)
 ·
  rw [if_neg c3] at H
  exact absurd H (by simp)
def stepat (k : Nat) (u : List Int) (j : Int) (v : List Int) (n : Int) : Option (Int × List Int) :=
 if 0 ≤ j ∧ n = v.length ∧ j.toNat + v.length + 1 ≤ u.length ∧ u.length ≤ 70368744177664 then (nat_step.f k ((u.drop j.toNat).take (v.length + 1)) v).bind fun r => some (r.1, sp u j.toNat r.2) else none
theorem stepat_parts {k : Nat} {u v u2 : List Int} {j n q : Int} (h : stepat k u j v n = some (q, u2)) :
 0 ≤ j ∧ n = v.length ∧ j.toNat + v.length + 1 ≤ u.length ∧ u.length ≤ 70368744177664 ∧ ∃ xs, nat_step.f k ((u.drop j.toNat).take (v.length + 1)) v = some (q, xs) ∧ u2 = sp u j.toNat xs := by
 unfold stepat at h
 split at h
 case isTrue c =>
  obtain ⟨r, hr, e⟩ := Option.bind_eq_some_iff.mp h
  obtain ⟨a, b⟩ := r
  injection e with e; injection e with e1 e2
  subst e1
  exact ⟨c.1, c.2.1, c.2.2.1, c.2.2.2, b, hr, e2.symm⟩
 case isFalse => exact absurd h (by simp)
theorem sp_self (u : List Int) (j n : Nat) (h : j + n ≤ u.length) : sp u j ((u.drop j).take n) = u := by
 have hl : ((u.drop j).take n).length = n := by rw [List.length_take, List.length_drop]; omega
 rw [sp, hl, ← List.drop_drop, List.append_assoc, List.take_append_drop, List.take_append_drop]
theorem win_len (u : List Int) (j n : Nat) (h : j + n ≤ u.length) : ((u.drop j).take n).length = n := by rw [List.length_take, List.length_drop]; omega
theorem Wn_of {w : World} {base g cap j n : Nat} {ok : Nat → Prop} {u : List Int} (h : Kd.R (Kd.int .u32) 48 w base ok (.slice (some ⟨g, 0, none⟩) u.length cap) u) (hl : j + n ≤ u.length) :
 Wn g j u.length cap ((u.drop j).take n).length u w base ok ((u.drop j).take n) :=
 ⟨rfl, by rw [win_len u j n hl]; exact hl, by rw [sp_self u j n hl]; exact h⟩
theorem cut_win {u v : List Int} {j js jt : Int} {g c : Nat} (h0 : 0 ≤ j) (hle : j.toNat + v.length + 1 ≤ u.length) (hb : u.length ≤ 70368744177664) (hc : u.length ≤ c) (e1 : wrap64 (j + (v.length : Int)) = js) (e2 : wrap64 (js + 1) = jt) :
 ∀ W : World, (Instr.slice 42 (.slice (some ⟨g, 0, none⟩) u.length c) (some (.int .i64 j)) (some (.int .i64 jt)) none).run Try.prog W = .ok (.slice (some ⟨g, j.toNat, none⟩) ((u.drop j.toNat).take (v.length + 1)).length (c - j.toNat)) W := by
 obtain ⟨J, rfl⟩ := Int.eq_ofNat_of_zero_le h0
 rw [Int.toNat_natCast] at hle ⊢
 have a1 : js = ((J + v.length : Nat) : Int) := by rw [← e1]; unfold wrap64; omega
 have a2 : jt = ((J + v.length + 1 : Nat) : Int) := by rw [← e2, a1]; unfold wrap64; omega
 subst a2
 obtain ⟨i0, hi0, _, hsz, _⟩ := info_parts info48
 have := cut_mid (P := Try.prog) 42 48 .i64 .i64 Try.underlying42 hi0 1 hsz (some ⟨g, 0, none⟩) u.length c (J : Int) ((J + v.length + 1 : Nat) : Int) (by omega) (by omega) (by omega) hc
 intro W
 have e := this W
 rw [Int.toNat_natCast, Int.toNat_natCast, if_neg (by omega)] at e
 rw [e, win_len u J (v.length + 1) (by omega)]
 have hA : (some (⟨g, 0, none⟩ : Addr)).map (·.add (J * 1)) = some ⟨g, J, none⟩ := by rw [Option.map_some, add_off, Nat.zero_add, Nat.mul_one]
 rw [hA, show J + v.length + 1 - J = v.length + 1 from by omega]
mutual
def nat_longw.l0 : Nat → List Int → Int → List Int → List Int → Int → Int → Option (List Int × List Int)
 | 0, _, _, _, _, _, _ => none
 | k + 1, x4, x6, x7, x8, x9, x10 => if x10 ≥ 0 then ((stepat k x8 x10 x7 x9).bind fun bt151 => (if 0 ≤ x10 then (if x10 < (x4.length : Int) then (nat_longw.l0 k (x4.set (x10 : Int).toNat bt151.1) x6 x7 bt151.2 x9 (wrap64 (x10 - 1))) else (none)) else (none))) else (if 0 ≤ x9 then (if (x9 : Int).toNat ≤ 70368744177664 then ((some (List.replicate (x9 : Int).toNat 0 : List Int)).bind fun y154 => (nat_longw.l1 k x4 y154 x6 x8 (y154.length : Int) 0)) else (none)) else (none))
def nat_longw.l1 : Nat → List Int → List Int → Int → List Int → Int → Int → Option (List Int × List Int)
 | 0, _, _, _, _, _, _ => none
 | k + 1, x4, x5, x6, x8, x57, x58 => if x58 < x57 then (if 0 ≤ x58 then (if x58 < (x8.length : Int) then (if 0 ≤ (wrap64 (x58 + 1)) then (if (wrap64 (x58 + 1)) < (x8.length : Int) then (if 0 ≤ x6 then (if x58 < (x5.length : Int) then (nat_longw.l1 k x4 (x5.set (x58 : Int).toNat ((shr .u64 (Go.bits .or .u64 (IntKind.u64.wrap (rd x8 x58)) (IntKind.u64.wrap ((IntKind.u64.wrap (rd x8 (wrap64 (x58 + 1)))) * 4294967296))) x6) % 4294967296)) x6 x8 x57 (wrap64 (x58 + 1))) else (none)) else (none)) else (none)) else (none)) else (none)) else (none)) else (some (x4, x5))
end
def nat_longw.f (k : Nat) (l0 : List Int) (l1 : List Int) : Option (List Int × List Int) := if 0 ≤ (wrap64 ((l1.length : Int) - 1)) then (if (wrap64 ((l1.length : Int) - 1)) < (l1.length : Int) then ((bits_LeadingZeros32.f (rd l1 (wrap64 ((l1.length : Int) - 1)))).bind fun t138 => ((nat_shift.f k l1 t138).bind fun t139 => ((nat_short.f k t139).bind fun t142 => ((nat_shift.f k l0 t138).bind fun t145 => (if 0 ≤ (wrap64 ((t145.length : Int) - (t142.length : Int))) then (if (wrap64 ((t145.length : Int) - (t142.length : Int)) : Int).toNat ≤ 70368744177664 then (nat_longw.l0 k (List.replicate (wrap64 ((t145.length : Int) - (t142.length : Int)) : Int).toNat 0) t138 t142 t145 (t142.length : Int) (wrap64 ((wrap64 ((t145.length : Int) - (t142.length : Int))) - 1))) else (none)) else (none)))))) else (none)) else (none)
def nat_longw.T14 : Bool × List (List Nat × List Nat) := (true, [([], []), ([], []), ([], []), ([], []), ([2, 3], [2, 3]), ([4], [4]), ([5], [5]), ([], []), ([], []), ([8], [8]), ([7, 9], [7, 9]), ([10], [10]), ([11], [11]), ([12], [12]), ([6, 13], [6, 13]), ([], []), ([14, 15], [14, 15]), ([16], [16]), ([0, 1, 0, 1, 2, 3, 4, 5, 6, 7, 8, 9, 10, 11, 12, 13, 14, 15, 16, 17], [0, 1]), ([18, 17, 0, 1, 2, 3, 4, 5, 6, 7, 8, 9, 10, 11, 12, 13, 14, 15, 16, 17], [17, 18])])
def nat_longw.B14 : List Nat := [0, 0, 0, 0, 12, 28, 60, 0, 0, 256, 896, 1920, 3968, 8064, 16380, 0, 65532, 131068, 262143, 524287]
theorem nat_longw.tab14 : rtab .any (opsOf Try.f187 14) = nat_longw.T14 := by kernel_rfl
theorem nat_longw.bits14 : waitsOk nat_longw.T14.2 nat_longw.B14 = true := by kernel_rfl
set_option maxHeartbeats 8000000 in
set_option maxRecDepth 100000 in
theorem nat_longw.calls (k : Nat) (A0 : Option Addr) (c0 : Nat) (l0 : List Int) (A1 : Option Addr) (c1 : Nat) (l1 : List Int) (r1 : List Int) (r2 : List Int) (w : World) (hr0 : Kd.C (Kd.int .u32) w A0 l0.length l0) (hc0 : l0.length ≤ c0) (hr1 : Kd.C (Kd.int .u32) w A1 l1.length l1) (hc1 : l1.length ≤ c1) (h : nat_longw.f k l0 l1 = some (r1, r2)) :
 Calls Try.prog 187 #[.slice A0 l0.length c0, .slice A1 l1.length c1] w fun e w' => ∃ v0_ v1_ : Value, e = .returned (.tuple #[v0_, v1_]) ∧ Kd.R (Kd.int .u32) 48 w' w.heap.size (fun k_ => some k_ ≠ (v1_ : Value).ownBlock) v0_ r1 ∧ Kd.R (Kd.int .u32) 48 w' w.heap.size (fun k_ => some k_ ≠ (v0_ : Value).ownBlock) v1_ r2 ∧ Below w.heap.size w w' := by
 have cd := Aside0.mk hr0
 have b0 := Aside0.mk hc0
 clear hr0 hc0
 have b1 := Aside0.mk hr1
 have b2 := Aside0.mk hc1
 clear hr1 hc1
 have HB := Aside0.mk (Below.refl w.heap.size w)
 have H : (if 0 ≤ (wrap64 ((l1.length : Int) - 1)) then (if (wrap64 ((l1.length : Int) - 1)) < (l1.length : Int) then ((bits_LeadingZeros32.f (rd l1 (wrap64 ((l1.length : Int) - 1)))).bind fun ad => ((nat_shift.f k l1 ad).bind fun av => ((nat_short.f k av).bind fun ae => ((nat_shift.f k l0 ad).bind fun ag => (if 0 ≤ (wrap64 ((ag.length : Int) - (ae.length : Int))) then (if (wrap64 ((ag.length : Int) - (ae.length : Int)) : Int).toNat ≤ 70368744177664 then (nat_longw.l0 k (List.replicate (wrap64 ((ag.length : Int) - (ae.length : Int)) : Int).toNat 0) ad ae ag (ae.length : Int) (wrap64 ((wrap64 ((ag.length : Int) - (ae.length : Int))) - 1))) else (none)) else (none)))))) else (none)) else (none)) = some (r1, r2) := h
 clear h
 obtain ⟨ji3, hji3⟩ : ∃ j_ : Int, (wrap64 ((l1.length : Int) - 1)) = j_ := ⟨_, rfl⟩
 replace H : (if 0 ≤ (ji3) then (if (ji3) < (l1.length : Int) then ((bits_LeadingZeros32.f (rd l1 (ji3))).bind fun ad => ((nat_shift.f k l1 ad).bind fun av => ((nat_short.f k av).bind fun ae => ((nat_shift.f k l0 ad).bind fun ag => (if 0 ≤ (wrap64 ((ag.length : Int) - (ae.length : Int))) then (if (wrap64 ((ag.length : Int) - (ae.length : Int)) : Int).toNat ≤ 70368744177664 then (nat_longw.l0 k (List.replicate (wrap64 ((ag.length : Int) - (ae.length : Int)) : Int).toNat 0) ad ae ag (ae.length : Int) (wrap64 ((wrap64 ((ag.length : Int) - (ae.length : Int))) - 1))) else (none)) else (none)))))) else (none)) else (none)) = some (r1, r2) := by first | (rw [hji3] at H; exact H) | (simp only [hji3] at H ⊢; exact H)
 have hji3w : (IntKind.i64.wrap ((l1.length : Int) - 1)) = ji3 := (i64_w _).trans hji3
 by_cases c4 : 0 ≤ (ji3)
 ·
  rw [if_pos c4] at H
  have bm : decide (0 ≤ (ji3)) = true := decide_eq_true c4
  clear c4
  by_cases c5 : (ji3) < (l1.length : Int)
  ·
   rw [if_pos c5] at H
   have bn : decide ((ji3) < (l1.length : Int)) = true := decide_eq_true c5
   clear c5
   replace H := Option.bind_eq_some_iff.mp H
   obtain ⟨ad, b3, H⟩ := H
   (try dsimp -simprocs only at H)
   have A6 := Aside0.mk b3
   clear b3
   replace H := Option.bind_eq_some_iff.mp H
   obtain ⟨av, b4, H⟩ := H
   (try dsimp -simprocs only at H)
   have A7 := Aside0.mk b4
   clear b4
   replace H := Option.bind_eq_some_iff.mp H
   obtain ⟨ae, b5, H⟩ := H
   (try dsimp -simprocs only at H)
   have A8 := Aside0.mk b5
   clear b5
   replace H := Option.bind_eq_some_iff.mp H
   obtain ⟨ag, b6, H⟩ := H
   (try dsimp -simprocs only at H)
   have A9 := Aside0.mk b6
   clear b6
   obtain ⟨ji10, hji10⟩ : ∃ j_ : Int, (wrap64 ((ag.length : Int) - (ae.length : Int))) = j_ := ⟨_, rfl⟩
   replace H : (if 0 ≤ (ji10) then (if (ji10 : Int).toNat ≤ 70368744177664 then (nat_longw.l0 k (List.replicate (ji10 : Int).toNat 0) ad ae ag (ae.length : Int) (wrap64 ((ji10) - 1))) else (none)) else (none)) = some (r1, r2) := by first | (rw [hji10] at H; exact H) | (simp only [hji10] at H ⊢; exact H)
   (try rw [hji10] at A6)
   (try rw [hji10] at A7)
   (try rw [hji10] at A8)
   (try rw [hji10] at A9)
   have hji10w : (IntKind.i64.wrap ((ag.length : Int) - (ae.length : Int))) = ji10 := (i64_w _).trans hji10
   by_cases aZ : 0 ≤ (ji10)
   ·
    rw [if_pos aZ] at H
    have aM := eq_true aZ
    have aN : decide (0 ≤ (ji10)) = true := decide_eq_true aZ
    clear aZ
    by_cases a0 : (ji10 : Int).toNat ≤ 70368744177664
    ·
     rw [if_pos a0] at H
     have aO := eq_true a0
     have aP : decide ((ji10 : Int).toNat ≤ 70368744177664) = true := decide_eq_true a0
     clear a0
     obtain ⟨bo, aw⟩ : ∃ y_ : List Int, y_ = (List.replicate (ji10 : Int).toNat 0) := ⟨_, rfl⟩
     replace H : (nat_longw.l0 k bo ad ae ag (ae.length : Int) (wrap64 ((ji10) - 1))) = some (r1, r2) := by first | (rw [aw]; with_reducible exact H) | (have H2_ := (Option.bind_some _ _).symm.trans H; rw [aw]; with_reducible exact H2_) | (have H2_ := (Option.bind_some _ _).symm.trans H; with_reducible exact H2_) | with_reducible exact H | (rw [aw]; exact H) | exact H
     have aQ := Aside0.mk aw
     clear aw
     have H' := Aside0.mk H
     clear H
     have p137 : 0 ≤ ((ji3) : Int) := of_decide_eq_true (by first | (with_reducible assumption) | assumption)
     have q137 : (ji3) < (l1.length : Int) := of_decide_eq_true (by first | (with_reducible assumption) | assumption)
     obtain ⟨ad137, e137, aE⟩ := Kd.at_int b1.out (ji3) p137 q137
     cases e137
     replace p137 := eq_true p137
     replace q137 := eq_true q137
     go_enter Try.func187, Try.ntmps187
     go_wp2_with (first | ((with_reducible refine gate_callee (f := 188) rfl ?_); refine goesL_ (some 18) rfl rfl Try.func188 (by kernel_rfl) rfl #[.int .u32 (rd l1 (ji3))] rfl (by (try simp only [List.map_toArray, List.map_cons, List.map_nil]); first | done | (simp only [hji3]; rfl) | rfl | (simp only [List.length_drop, List.length_take]; rfl)) ?_; (with_reducible refine (bits_LeadingZeros32.calls (rd l1 (ji3)) ad _ A6.out).mono ?_); rintro e w' ⟨rfl, ⟨nd, rfl⟩⟩; refine ⟨_, rfl, ?_⟩) | ((with_reducible refine gate_callee (f := 189) rfl ?_); refine goesL_ (some 21) rfl rfl Try.func189 (by kernel_rfl) rfl #[.slice (some ad137) l1.length c1, .int .i64 ad] rfl lu ?_; (with_reducible refine (nat_shift.calls k _ _ l1 ad av _ ?side1 ?side2 A7.out).mono ?_); (case side1 => repeat (first | exact b1.out | (with_reducible refine Kd.C_alloc ?_ _) | (with_reducible refine Kd.C_drewN ?_ _) | (with_reducible refine Kd.C_drew ?_))); (case side2 => first | exact b2.out | exact vz b2.out); rintro e cn ⟨ce, rfl, aK, hb⟩; refine ⟨_, rfl, ?_⟩; have ak := Aside0.mk (Kd.R_lower aK (below_size (bu HB.out))); replace HB := Aside0.mk (below_step (bu HB.out) hb); (try clear hb); (try clear hk); (try clear aK); obtain ⟨bp, bq, bT⟩ := Kd.R_slice ak.out; subst bT) | ((with_reducible refine gate_callee (f := 179) rfl ?_); refine goesL_ (some 22) rfl rfl Try.func179 (by kernel_rfl) rfl #[.slice bp av.length bq] rfl lu ?_; (with_reducible refine (nat_short.calls k (fun k_ => some k_ = (.slice bp av.length bq : Value).ownBlock) _ _ av ae _ ?side1 A8.out).mono ?_); (case side1 => exact Kd.R_V (Kd.R_tight rfl (ak.out))); rintro e co ⟨cf, rfl, aK, hb⟩; refine ⟨_, rfl, ?_⟩; replace ak := Aside0.mk (Kd.R_below (by (with_reducible repeat (first | apply Kd.R_alloc | apply Kd.R_drewN | apply Kd.R_drew)); exact ak.out) hb); have ap := Aside0.mk (Kd.V_lower (Kd.V_mono (ok' := fun k_ => True) aK (fun k_ hk_ => trivial)) (below_size (bu HB.out))); replace HB := Aside0.mk (below_step (bu HB.out) hb); (try clear hb); (try clear hk); (try clear aK)) | ((with_reducible refine gate_callee (f := 189) rfl ?_); refine goesL_ (some 25) rfl rfl Try.func189 (by kernel_rfl) rfl #[.slice A0 l0.length c0, .int .i64 ad] rfl lu ?_; (with_reducible refine (nat_shift.calls k _ _ l0 ad ag _ ?side1 ?side2 A9.out).mono ?_); (case side1 => repeat (first | exact (Kd.C_below cd.out HB.out) | (with_reducible refine Kd.C_alloc ?_ _) | (with_reducible refine Kd.C_drewN ?_ _) | (with_reducible refine Kd.C_drew ?_))); (case side2 => first | exact b0.out | exact vz b0.out); rintro e cp ⟨cg, rfl, aK, hb⟩; refine ⟨_, rfl, ?_⟩; replace ap := Aside0.mk (Kd.V_elder' (vu ap.out) (Kd.R_base aK) hb); have ax := Aside0.mk (Kd.R_lower (Kd.R_new' aK (Kd.R_lt (by (with_reducible repeat (first | apply Kd.R_alloc | apply Kd.R_drewN | apply Kd.R_drew)); exact ak.out))) (below_size (bu HB.out))); replace ak := Aside0.mk (Kd.R_elder' (by (with_reducible repeat (first | apply Kd.R_alloc | apply Kd.R_drewN | apply Kd.R_drew)); exact ak.out) (Kd.R_base aK) hb); replace HB := Aside0.mk (below_step (bu HB.out) hb); (try clear hb); (try clear hk); (try clear aK); obtain ⟨br, bs, bU⟩ := Kd.V_slice ap.out; subst bU; obtain ⟨aH, aj, bV⟩ := Kd.R_slice ax.out; subst bV) | ((with_reducible refine gate_dst (N := 32) rfl ?_); refine Kd.R_make (Kd.int .u32) _ 48 rfl (N := 32) rfl 42 _ _ rfl ji10 rfl rfl Try.underlying42 (.int .u32 0) 4 info48 rfl (by decide) (by omega) 0 (ok := fun _ => True) (okp := fun _ => True) rfl (fun _ hk => hk) trivial (of_decide_eq_true (by first | (with_reducible assumption) | assumption)) (Nat.le_trans (Nat.mul_le_mul_right _ (of_decide_eq_true (by first | (with_reducible assumption) | assumption) : ji10.toNat ≤ 70368744177664)) (by omega)) (Below.refl _ _) (Nat.le_refl _) ?_; intro aC cq ay hb hg_ hnew_; clear hg_ hnew_; (first | rw [← aQ.out] at ay | (simp only [Int.reduceToNat] at ay; rw [← aQ.out] at ay)); replace ap := Aside0.mk (Kd.V_elder' (vu ap.out) (Kd.R_base ay) hb); have bv := Aside0.mk (Kd.R_lower (Kd.R_new' (Kd.R_new' ay (Kd.R_lt (by (with_reducible repeat (first | apply Kd.R_alloc | apply Kd.R_drewN | apply Kd.R_drew)); exact ak.out))) (Kd.R_lt (by (with_reducible repeat (first | apply Kd.R_alloc | apply Kd.R_drewN | apply Kd.R_drew)); exact ax.out))) (below_size (bu HB.out))); replace ak := Aside0.mk (Kd.R_elder' (by (with_reducible repeat (first | apply Kd.R_alloc | apply Kd.R_drewN | apply Kd.R_drew)); exact ak.out) (Kd.R_base ay) hb); replace ax := Aside0.mk (Kd.R_elder' (by (with_reducible repeat (first | apply Kd.R_alloc | apply Kd.R_drewN | apply Kd.R_drew)); exact ax.out) (Kd.R_base ay) hb); replace HB := Aside0.mk (below_step (bu HB.out) hb); clear hb ay))
     go_loopg [10] k (fun kq ch w' => ∃ (ai : List Int) (al : List Int) (ac : List Int) (ab : Int), ch = .int .i64 ab ∧ Aside0 (nat_longw.l0 kq ai ad al ac (ae.length : Int) ab = some (r1, r2)) ∧ Aside0 (kq ≤ k) ∧ Aside0 (Kd.R (Kd.int .u32) 48 w' w.heap.size (fun k_ => some k_ ≠ ((.slice aH ag.length aj) : Value).ownBlock) aC ai) ∧ Aside0 (Kd.V (Kd.int .u32) 48 w' w.heap.size (fun k_ => some k_ ≠ (aC : Value).ownBlock ∧ some k_ ≠ ((.slice aH ag.length aj) : Value).ownBlock) (.slice br ae.length bs) al) ∧ Aside0 (Kd.R (Kd.int .u32) 48 w' w.heap.size (fun k_ => some k_ ≠ (aC : Value).ownBlock) (.slice aH ag.length aj) ac) ∧ Aside0 (Below w.heap.size w w'))
     case atStart => exact ⟨(bo), (ae), (ag), (wrap64 ((ji10) - 1)), (by first | rfl | (simp; done) | (simp only [← hji10] <;> (first | rfl | simp)) | (simp [*]; done)), H', ⟨Nat.le_refl _⟩, ⟨by (with_reducible repeat (first | apply Kd.R_alloc | apply Kd.R_drewN | apply Kd.R_drew)); exact Kd.R_mono bv.out (fun _ hk => hk.2)⟩, ⟨by exact vz ap.out⟩, ⟨by (with_reducible repeat (first | apply Kd.R_alloc | apply Kd.R_drewN | apply Kd.R_drew)); exact Kd.R_mono ax.out (fun _ hk => hk.2)⟩, ⟨by repeat (first | (with_reducible first | exact HB.out | apply below_alloc | apply pw_below_drewN | apply below_drew1) | exact HB.out)⟩⟩
     case round =>
      clear H'
      try clear c1
      try clear p1
      try clear q1
      try clear hx1
      try clear p2
      try clear c4
      try clear bm
      try clear c5
      try clear bn
      try clear p6
      try clear aZ
      try clear aM
      try clear aN
      try clear a0
      try clear aO
      try clear aP
      try clear p13
      try clear q13
      try clear hx13
      try clear c17
      try clear c18
      try clear aE
      try clear p137
      try clear q137
      obtain ⟨ai, al, ac, ab, rfl, HA, HK1, ah, an, af, HB⟩ := hrel
      have hl7_1 := (Kd.V_reads' an.out).1
      rw [hl7_1] at an
      (try simp only [hl7_1])
      (try simp only [hl7_1] at ah)
      (try simp only [hl7_1] at af)
      have hl8_1 := (Kd.R_reads' af.out).1
      rw [hl8_1] at af
      (try simp only [hl8_1])
      (try simp only [hl8_1] at ah)
      (try simp only [hl8_1] at an)
      cases gk with
      | zero => exact absurd HA.out (by simp [nat_longw.l0])
      | succ k1 =>
       have H := HA.out
       clear HA
       simp only [nat_longw.l0] at H
       by_cases a1 : ab ≥ 0
       ·
        rw [if_pos a1] at H
        have aR : decide (0 ≤ ab) = true := decide_eq_true a1
        clear a1
        replace H := Option.bind_eq_some_iff.mp H
        obtain ⟨⟨aL, bw⟩, bx, H⟩ := H
        (try dsimp -simprocs only at H)
        have ci := Aside0.mk bx
        clear bx
        by_cases bz : 0 ≤ ab
        ·
         rw [if_pos bz] at H
         have bA : decide (0 ≤ ab) = true := decide_eq_true bz
         clear bz
         by_cases bB : ab < (ai.length : Int)
         ·
          rw [if_pos bB] at H
          have aS : decide (ab < (ai.length : Int)) = true := decide_eq_true bB
          clear bB
          (try (have a2 := aS; simp only [hl7_1, hl8_1] at a2))
          obtain ⟨a3, az⟩ : ∃ y_ : List Int, y_ = (ai.set (ab : Int).toNat aL) := ⟨_, rfl⟩
          replace H : (nat_longw.l0 k1 a3 ad al bw (ae.length : Int) (wrap64 (ab - 1))) = some (r1, r2) := by first | (rw [az]; with_reducible exact H) | (have H2_ := (Option.bind_some _ _).symm.trans H; rw [az]; with_reducible exact H2_) | (have H2_ := (Option.bind_some _ _).symm.trans H; with_reducible exact H2_) | with_reducible exact H | (rw [az]; exact H) | exact H
          have bC := Aside0.mk az
          clear az
          have H' := Aside0.mk H
          clear H
          obtain ⟨hj18, cj, hle18_, hbig18, xs18, hst18_, hsp18_⟩ := stepat_parts ci.out
          obtain ⟨xw18, hxw18_⟩ : ∃ l_ : List Int, l_ = (ac.drop (ab : Int).toNat).take (al.length + 1) := ⟨_, rfl⟩
          rw [← hxw18_] at hst18_
          have hst18 := Aside0.mk hst18_
          have hsp18 := Aside0.mk hsp18_
          have hroom18 : ac.length ≤ aj := (Kd.R_reads' af.out).2.1
          obtain ⟨gz18, cz18, ez18, bW, gl18, cl18, HG18⟩ := Kd.R_form af.out (by omega)
          (first | cases ez18 | (injection ez18 with ea_ en_ ec_; (first | subst ea_ | (injection ea_ with ea_; subst ea_)); subst ec_; clear en_))
          clear bW gl18 cl18 HG18 hst18_ hsp18_
          have hle18 := Aside0.mk (show (ab : Int).toNat + (al.length + 1) ≤ ac.length from by omega)
          have hlc18 := Aside0.mk (show xw18.length ≤ aj - (ab : Int).toNat from by rw [hxw18_, win_len _ _ _ hle18.out]; omega)
          obtain ⟨js18, hjs18⟩ : ∃ j_ : Int, wrap64 (ab + (al.length : Int)) = j_ := ⟨_, rfl⟩
          have hjs18w : (IntKind.i64.wrap (ab + (al.length : Int))) = js18 := (i64_w _).trans hjs18
          obtain ⟨jt18, hjt18⟩ : ∃ j_ : Int, wrap64 (js18 + 1) = j_ := ⟨_, rfl⟩
          have hjt18w : (IntKind.i64.wrap (js18 + 1)) = jt18 := (i64_w _).trans hjt18
          have hcut18 := cut_win (g := gz18) (c := aj) hj18 hle18_ hbig18 hroom18 hjs18 hjt18
          rw [← hxw18_] at hcut18
          have hxw18 := Aside0.mk hxw18_
          clear hxw18_ hle18_ hbig18 hroom18
          go_wp2_with (first | ((with_reducible refine gate_callee (f := 190) rfl ?_); refine goesL_ (some 52) rfl rfl Try.func190 (by kernel_rfl) rfl #[.slice (some ⟨gz18, (ab : Int).toNat, none⟩) xw18.length (aj - (ab : Int).toNat), .slice br al.length bs] rfl lu ?_; (with_reducible refine (nat_step.calls k1 (fun k_ => some k_ = (.slice (some ⟨gz18, 0, none⟩) ac.length aj : Value).ownBlock) gz18 (ab : Int).toNat ac.length aj (aj - (ab : Int).toNat) ac xw18 _ _ al aL xs18 w _ ?side1 ?side2 ?sideC ?side3 ?side4 hst18.out).mono ?_); (case side1 => repeat (first | (with_reducible first | exact HB.out | apply below_alloc | apply pw_below_drewN | apply below_drew1) | exact HB.out)); (case side2 => rw [hxw18.out]; exact Wn_of (Kd.R_tight rfl af.out) hle18.out); (case sideC => exact hlc18.out); (case side3 => exact Kd.C_kept_ownV (an.out) (fun k_ hk_ hs_ => (hk_.2) hs_)); (case side4 => exact (Kd.V_reads' an.out).2.1); rintro e b7 ⟨rfl, bD, hb, hkp⟩; refine ⟨_, rfl, ?_⟩; replace bD := bD.2.2; rw [← hsp18.out] at bD; replace ah := Aside0.mk (Kd.R_mono (ok' := fun k_ => some k_ ≠ (.slice (some ⟨gz18, 0, none⟩) ac.length aj : Value).ownBlock) (Kd.R_keptB (ah.out) hkp (fun k_ hk_ hs_ => (hk_) hs_)) (fun k_ hk_ => hk_.1)); replace an := Aside0.mk (Kd.V_mono (ok' := fun k_ => some k_ ≠ (aC : Value).ownBlock ∧ some k_ ≠ (.slice (some ⟨gz18, 0, none⟩) ac.length aj : Value).ownBlock) (Kd.V_keptB (an.out) hkp (fun k_ hk_ hs_ => (hk_.2) hs_)) (fun k_ hk_ => ⟨hk_.1.1, hk_.1.2⟩)); replace af := Aside0.mk (Kd.R_reok rfl bD (fun k_ e_ => af.out.1 k_ e_)); replace HB := Aside0.mk (hb); (try clear hb); (try clear hkp); (try clear bD); have p25 : 0 ≤ (ab : Int) := of_decide_eq_true (by first | (with_reducible assumption) | assumption); have q25 : (ab : Int) < ((ai.length : Int) : Int) := of_decide_eq_true (by first | (with_reducible assumption) | assumption); obtain ⟨go25, aI, bE, bF, gl25, cl25, HG25⟩ := Kd.R_form ah.out (by omega); (first | cases bE | (injection bE with ea_ en_ ec_; (first | subst ea_ | (injection ea_ with ea_; subst ea_)); subst ec_; clear en_)); have GB25 := Aside0.mk bF; have GG25 := Aside0.mk HG25; clear bF gl25 HG25; obtain ⟨a4, bX⟩ := Kd.R_celln 0 ah.out (ab : Int) p25 q25; replace p25 := eq_true p25; replace q25 := eq_true q25; obtain ⟨b8, hz27_⟩ := Kd.R_celln 0 ah.out (ab : Int) (of_decide_eq_true (by first | (with_reducible assumption) | assumption)) (of_decide_eq_true (by first | (with_reducible assumption) | assumption)); have a5 := Kd.R_putg ah.out (ab : Int) aL) | ((with_reducible refine gate_store (t := 48) (p := 53) rfl ?_); refine store_event (t := 48) (p := 53) (v := ?vo_w28) (w1 := (b7.setCell ⟨go25, (ab : Int).toNat, none⟩ (.int .u32 aL))) ?hg ?ho ?hn ?hr ?_; (case ho => rfl); (case hg => rfl); (case hn => rfl); (case hr => first | (go_simp; done) | (go_simp; rfl)); intro bY hw; have hg : b7.grownBy bY (some go25) := (by rw [hw]; exact a5.2); have hp_ : Kd.R (Kd.int .u32) 48 bY w.heap.size (fun k_ => some k_ ≠ (.slice (some ⟨gz18, 0, none⟩) ac.length aj : Value).ownBlock) (.slice (some ⟨go25, 0, none⟩) ai.length aI) a3 := (by rw [hw, bC.out]; exact a5.1); clear a5; replace ah := Aside0.mk (hp_); replace an := Aside0.mk (Kd.V_afterv (v := (.slice (some ⟨go25, 0, none⟩) ai.length aI)) (v1 := (.slice (some ⟨go25, 0, none⟩) ai.length aI)) (ok := (fun k_ => some k_ ≠ (.slice (some ⟨gz18, 0, none⟩) ac.length aj : Value).ownBlock)) (by (with_reducible repeat (first | apply Kd.V_alloc | apply Kd.V_drewN | apply Kd.V_drew)); exact Kd.V_mono an.out (fun _ hk => ⟨hk.2, hk.1⟩)) hg (.inl rfl)); replace af := Aside0.mk (Kd.R_after (v := (.slice (some ⟨go25, 0, none⟩) ai.length aI)) (v1 := (.slice (some ⟨go25, 0, none⟩) ai.length aI)) (ok := (fun _ => True)) (by (with_reducible repeat (first | apply Kd.R_alloc | apply Kd.R_drewN | apply Kd.R_drew)); exact Kd.R_mono af.out (fun _ hk => ⟨trivial, hk⟩)) hg (.inl rfl)); replace HB := Aside0.mk ((by rw [hw]; exact below_set (HB.out) GB25.out : Below w.heap.size w bY)); clear hg hw hp_))
          (try simp only [← hl7_1, ← hl8_1])
          go_roundg k1
          case measure => have := HK1.out; omega
          case rel => exact ⟨(a3), (al), (bw), (wrap64 (ab - 1)), (by first | rfl | (simp; done) | (simp [*]; done)), H', ⟨by have := HK1.out; omega⟩, ⟨by (try simp only [hl7_1]); (try simp only [hl8_1]); (with_reducible repeat (first | apply Kd.R_alloc | apply Kd.R_drewN | apply Kd.R_drew)); exact ah.out⟩, ⟨by (try simp only [hl7_1]); (try simp only [hl8_1]); exact vz an.out⟩, ⟨by (try simp only [hl7_1]); (try simp only [hl8_1]); (with_reducible repeat (first | apply Kd.R_alloc | apply Kd.R_drewN | apply Kd.R_drew)); exact Kd.R_mono af.out (fun _ hk => hk.2)⟩, ⟨by repeat (first | (with_reducible first | exact HB.out | apply below_alloc | apply pw_below_drewN | apply below_drew1) | exact HB.out)⟩⟩
         ·
          rw [if_neg bB] at H
          exact absurd H (by simp)
        ·
         rw [if_neg bz] at H
         exact absurd H (by simp)
       ·
        rw [if_neg a1] at H
        have aR : decide (0 ≤ ab) = false := decide_eq_false a1
        clear a1
        by_cases bj : 0 ≤ (ae.length : Int)
        ·
         rw [if_pos bj] at H
         have aT := eq_true bj
         have aU : decide (0 ≤ (ae.length : Int)) = true := decide_eq_true bj
         clear bj
         (try (have a6 := aT; simp only [hl7_1, hl8_1] at a6))
         (try (have a7 := aU; simp only [hl7_1, hl8_1] at a7))
         by_cases bk : ((ae.length : Int) : Int).toNat ≤ 70368744177664
         ·
          rw [if_pos bk] at H
          have aV := eq_true bk
          have aW : decide (((ae.length : Int) : Int).toNat ≤ 70368744177664) = true := decide_eq_true bk
          clear bk
          (try (have a8 := aV; simp only [hl7_1, hl8_1] at a8))
          (try (have a9 := aW; simp only [hl7_1, hl8_1] at a9))
          obtain ⟨am, aA⟩ : ∃ y_ : List Int, y_ = (List.replicate ((ae.length : Int) : Int).toNat 0) := ⟨_, rfl⟩
          replace H : (nat_longw.l1 k1 ai am ad ac (am.length : Int) 0) = some (r1, r2) := by first | (rw [aA]; with_reducible exact H) | (have H2_ := (Option.bind_some _ _).symm.trans H; rw [aA]; with_reducible exact H2_) | (have H2_ := (Option.bind_some _ _).symm.trans H; with_reducible exact H2_) | with_reducible exact H | (rw [aA]; exact H) | exact H
          have aX := Aside0.mk aA
          clear aA
          have H' := Aside0.mk H
          clear H
          go_wp2_with (first | ((with_reducible refine gate_dst (N := 55) rfl ?_); refine Kd.R_make (Kd.int .u32) _ 48 rfl (N := 55) rfl 42 _ _ rfl (al.length : Int) rfl rfl Try.underlying42 (.int .u32 0) 4 info48 rfl (by decide) (by omega) 0 (ok := fun _ => True) (okp := fun _ => True) rfl (fun _ hk => hk) trivial (of_decide_eq_true (by first | (with_reducible assumption) | assumption)) (Nat.le_trans (Nat.mul_le_mul_right _ (of_decide_eq_true (by first | (with_reducible assumption) | assumption) : (al.length : Int).toNat ≤ 70368744177664)) (by omega)) (Below.refl _ _) (Nat.le_refl _) ?_; intro ck cr aq hb hg_ hnew_; clear hg_ hnew_; rw [← hl7_1] at aq; (first | rw [← aX.out] at aq | (simp only [Int.reduceToNat] at aq; rw [← aX.out] at aq)); replace an := Aside0.mk (Kd.V_elder' (vu an.out) (Kd.R_base aq) hb); have aY := Aside0.mk (Kd.R_lower (Kd.R_new' (Kd.R_new' aq (Kd.R_lt (by (with_reducible repeat (first | apply Kd.R_alloc | apply Kd.R_drewN | apply Kd.R_drew)); exact ah.out))) (Kd.R_lt (by (with_reducible repeat (first | apply Kd.R_alloc | apply Kd.R_drewN | apply Kd.R_drew)); exact af.out))) (below_size (bu HB.out))); replace ah := Aside0.mk (Kd.R_elder' (by (with_reducible repeat (first | apply Kd.R_alloc | apply Kd.R_drewN | apply Kd.R_drew)); exact ah.out) (Kd.R_base aq) hb); replace af := Aside0.mk (Kd.R_elder' (by (with_reducible repeat (first | apply Kd.R_alloc | apply Kd.R_drewN | apply Kd.R_drew)); exact af.out) (Kd.R_base aq) hb); replace HB := Aside0.mk (below_step (bu HB.out) hb); clear hb aq; obtain ⟨ba, bb, bZ⟩ := Kd.R_slice aY.out; subst bZ))
          go_loopg [58] k1 (fun kq cl w' => ∃ (ao : List Int) (aa : Int), cl = .int .i64 aa ∧ Aside0 (nat_longw.l1 kq ai ao ad ac (am.length : Int) aa = some (r1, r2)) ∧ Aside0 (kq ≤ k1) ∧ Aside0 (Kd.R (Kd.int .u32) 48 w' w.heap.size (fun k_ => some k_ ≠ ((.slice ba am.length bb) : Value).ownBlock ∧ some k_ ≠ ((.slice aH ac.length aj) : Value).ownBlock) aC ai) ∧ Aside0 (Kd.R (Kd.int .u32) 48 w' w.heap.size (fun k_ => some k_ ≠ (aC : Value).ownBlock ∧ some k_ ≠ ((.slice aH ac.length aj) : Value).ownBlock) (.slice ba am.length bb) ao) ∧ Aside0 (Kd.R (Kd.int .u32) 48 w' w.heap.size (fun k_ => some k_ ≠ (aC : Value).ownBlock ∧ some k_ ≠ ((.slice ba am.length bb) : Value).ownBlock) (.slice aH ac.length aj) ac) ∧ Aside0 (Below w.heap.size w w'))
          case atStart => exact ⟨(am), (0), (by first | rfl | (simp; done) | (simp [*]; done)), H', ⟨Nat.le_refl _⟩, ⟨by (try simp only [hl7_1]); (try simp only [hl8_1]); (with_reducible repeat (first | apply Kd.R_alloc | apply Kd.R_drewN | apply Kd.R_drew)); exact Kd.R_mono ah.out (fun _ hk => ⟨hk.2, hk.1⟩)⟩, ⟨by (try simp only [hl7_1]); (try simp only [hl8_1]); (with_reducible repeat (first | apply Kd.R_alloc | apply Kd.R_drewN | apply Kd.R_drew)); exact Kd.R_mono aY.out (fun _ hk => ⟨hk.1.2, hk.2⟩)⟩, ⟨by (try simp only [hl7_1]); (try simp only [hl8_1]); (with_reducible repeat (first | apply Kd.R_alloc | apply Kd.R_drewN | apply Kd.R_drew)); exact af.out⟩, ⟨by repeat (first | (with_reducible first | exact HB.out | apply below_alloc | apply pw_below_drewN | apply below_drew1) | exact HB.out)⟩⟩
          case round =>
           clear H'
           try clear c1
           try clear p1
           try clear q1
           try clear hx1
           try clear c2
           try clear p2
           try clear q2
           try clear hx2
           try clear hf2
           try clear c3
           try clear c4
           try clear bm
           try clear c5
           try clear bn
           try clear p6
           try clear aZ
           try clear aM
           try clear aN
           try clear a0
           try clear aO
           try clear aP
           try clear p13
           try clear q13
           try clear hx13
           try clear c17
           try clear c18
           try clear c19
           try clear a1
           try clear aR
           try clear bz
           try clear bA
           try clear bB
           try clear aS
           try clear p25
           try clear q25
           try clear hx25
           try clear hf25
           try clear bj
           try clear aT
           try clear aU
           try clear bk
           try clear aV
           try clear aW
           try clear aE
           try clear a4
           try clear p1
           try clear p13
           try clear p137
           try clear p2
           try clear p25
           try clear p6
           try clear q1
           try clear q13
           try clear q137
           try clear q25
           obtain ⟨ao, aa, rfl, HA, HK2, ah, au, af, HB⟩ := hrel
           have hl5_2 := (Kd.R_reads' au.out).1
           rw [hl5_2] at au
           (try simp only [hl5_2])
           (try simp only [hl5_2] at ah)
           (try simp only [hl5_2] at af)
           cases gk with
           | zero => exact absurd HA.out (by simp [nat_longw.l1])
           | succ k2 =>
            have H := HA.out
            clear HA
            simp only [nat_longw.l1] at H
            by_cases bl : aa < (am.length : Int)
            ·
             rw [if_pos bl] at H
             have aJ : decide (aa < (am.length : Int)) = true := decide_eq_true bl
             clear bl
             (try (have aD := aJ; simp only [hl7_1, hl8_1, hl5_2] at aD))
             by_cases bO : 0 ≤ aa
             ·
              rw [if_pos bO] at H
              have b9 : decide (0 ≤ aa) = true := decide_eq_true bO
              clear bO
              by_cases bP : aa < (ac.length : Int)
              ·
               rw [if_pos bP] at H
               have bG : decide (aa < (ac.length : Int)) = true := decide_eq_true bP
               clear bP
               (try (have bd := bG; simp only [hl7_1, hl8_1, hl5_2] at bd))
               obtain ⟨ji37, hji37⟩ : ∃ j_ : Int, (wrap64 (aa + 1)) = j_ := ⟨_, rfl⟩
               replace H : (if 0 ≤ (ji37) then (if (ji37) < (ac.length : Int) then (if 0 ≤ ad then (if aa < (ao.length : Int) then (nat_longw.l1 k2 ai (ao.set (aa : Int).toNat ((shr .u64 (Go.bits .or .u64 (IntKind.u64.wrap (rd ac aa)) (IntKind.u64.wrap ((IntKind.u64.wrap (rd ac (ji37))) * 4294967296))) ad) % 4294967296)) ad ac (am.length : Int) ji37) else (none)) else (none)) else (none)) else (none)) = some (r1, r2) := by first | (rw [hji37] at H; exact H) | (simp only [hji37] at H ⊢; exact H)
               have hji37w : (IntKind.i64.wrap (aa + 1)) = ji37 := (i64_w _).trans hji37
               by_cases bQ : 0 ≤ (ji37)
               ·
                rw [if_pos bQ] at H
                have ca : decide (0 ≤ (ji37)) = true := decide_eq_true bQ
                clear bQ
                by_cases bR : (ji37) < (ac.length : Int)
                ·
                 rw [if_pos bR] at H
                 have bH : decide ((ji37) < (ac.length : Int)) = true := decide_eq_true bR
                 clear bR
                 (try (have be := bH; simp only [hl7_1, hl8_1, hl5_2] at be))
                 by_cases bI : 0 ≤ ad
                 ·
                  rw [if_pos bI] at H
                  have cb := eq_true bI
                  have cc : decide (0 ≤ ad) = true := decide_eq_true bI
                  clear bI
                  obtain ⟨ji41, hji41⟩ : ∃ j_ : Int, (shr .u64 (Go.bits .or .u64 (IntKind.u64.wrap (rd ac aa)) (IntKind.u64.wrap ((IntKind.u64.wrap (rd ac (ji37))) * 4294967296))) ad) = j_ := ⟨_, rfl⟩
                  replace H : (if aa < (ao.length : Int) then (nat_longw.l1 k2 ai (ao.set (aa : Int).toNat ((ji41) % 4294967296)) ad ac (am.length : Int) ji37) else (none)) = some (r1, r2) := by first | (rw [hji41] at H; exact H) | (simp only [hji41] at H ⊢; exact H)
                  have hji41_ : ((Go.bits .or .u64 (IntKind.u64.wrap (rd ac aa)) (IntKind.u64.wrap ((IntKind.u64.wrap (rd ac (ji37))) * 4294967296))) / 2 ^ min ad.toNat 64) = ji41 := hji41
                  have hji41z : ad ≤ 64 → ((Go.bits .or .u64 (IntKind.u64.wrap (rd ac aa)) (IntKind.u64.wrap ((IntKind.u64.wrap (rd ac (ji37))) * 4294967296))) / 2 ^ ad.toNat) = ji41 := shr_small hji41
                  by_cases bS : aa < (ao.length : Int)
                  ·
                   rw [if_pos bS] at H
                   have bJ : decide (aa < (ao.length : Int)) = true := decide_eq_true bS
                   clear bS
                   (try (have bf := bJ; simp only [hl7_1, hl8_1, hl5_2] at bf))
                   obtain ⟨bK, aB⟩ : ∃ y_ : List Int, y_ = (ao.set (aa : Int).toNat ((ji41) % 4294967296)) := ⟨_, rfl⟩
                   replace H : (nat_longw.l1 k2 ai bK ad ac (am.length : Int) ji37) = some (r1, r2) := by first | (rw [aB]; with_reducible exact H) | (have H2_ := (Option.bind_some _ _).symm.trans H; rw [aB]; with_reducible exact H2_) | (have H2_ := (Option.bind_some _ _).symm.trans H; with_reducible exact H2_) | with_reducible exact H | (rw [aB]; exact H) | exact H
                   have bL := Aside0.mk aB
                   clear aB
                   have H' := Aside0.mk H
                   clear H
                   try go_wp2
                   replace ah := Aside0.mk (Kd.R_drew ah.out)
                   replace au := Aside0.mk (Kd.R_drew au.out)
                   replace af := Aside0.mk (Kd.R_drew af.out)
                   replace HB := Aside0.mk (below_drew1 HB.out)
                   have p157 : 0 ≤ (aa : Int) := of_decide_eq_true (by first | (with_reducible assumption) | assumption)
                   have q157 : aa < (ac.length : Int) := of_decide_eq_true (by first | (with_reducible assumption) | assumption)
                   obtain ⟨ad157, e157, aF⟩ := Kd.at_int (Kd.R_reads' af.out).2.2 aa p157 q157
                   cases e157
                   replace p157 := eq_true p157
                   replace q157 := eq_true q157
                   have p158 : 0 ≤ ((ji37) : Int) := of_decide_eq_true (by first | (with_reducible assumption) | assumption)
                   have q158 : (ji37) < (ac.length : Int) := of_decide_eq_true (by first | (with_reducible assumption) | assumption)
                   obtain ⟨ad158, e158, aG⟩ := Kd.at_int (Kd.R_reads' af.out).2.2 (ji37) p158 q158
                   obtain rfl : ad157 = ad158 := (by injection e158)
                   replace p158 := eq_true p158
                   replace q158 := eq_true q158
                   have p43 : 0 ≤ (aa : Int) := of_decide_eq_true (by first | (with_reducible assumption) | assumption)
                   have q43 : (aa : Int) < ((ao.length : Int) : Int) := of_decide_eq_true (by first | (with_reducible assumption) | assumption)
                   obtain ⟨go43, cm, bM, bN, gl43, cl43, HG43⟩ := Kd.R_form au.out (by omega)
                   (first | cases bM | (injection bM with ea_ en_ ec_; (first | subst ea_ | (injection ea_ with ea_; subst ea_)); subst ec_; clear en_))
                   have GB43 := Aside0.mk bN
                   have GG43 := Aside0.mk HG43
                   clear bN gl43 HG43
                   obtain ⟨bg, bh⟩ := Kd.R_celln 0 au.out (aa : Int) p43 q43
                   replace p43 := eq_true p43
                   replace q43 := eq_true q43
                   have bi := Kd.R_putn au.out (aa : Int) ((ji41) % 4294967296)
                   rw [← bL.out] at bi
                   have HQ45 := Aside0.mk bi
                   clear bi
                   refine start_ (n := 20) (S := fun w' => w'.cell? (ad157.add (aa).toNat) = some (.int .u32 (rd ac aa)) ∧ w'.cell? (ad157.add ((ji37)).toNat) = some (.int .u32 (rd ac (ji37)))) (ds := [19]) #[false, false, false, false, false, false, false, false, false, false, false, false, false, false, false, false, false, false, false, false] (by kernel_rfl) rfl rfl ⟨aF, aG⟩ (fun hHeld => ?_); refine with_tabW nat_longw.tab14 nat_longw.bits14 (fun HT_ HW_ => ?_)
                   generalize wr.drew = cs at ah au af HB GG43 HQ45 bh aF aG bg hHeld ⊢
                   refine pq 0 (some 61) #[true, false, false, false, false, false, false, false, false, false, false, false, false, false, false, false, false, false, false, false] HT_ ?_
                   refine pq 1 (some 62) #[true, true, false, false, false, false, false, false, false, false, false, false, false, false, false, false, false, false, false, false] HT_ ?_
                   refine pq 2 (some 63) #[true, true, true, false, false, false, false, false, false, false, false, false, false, false, false, false, false, false, false, false] HT_ ?_
                   refine pq 3 (some 64) #[true, true, true, true, false, false, false, false, false, false, false, false, false, false, false, false, false, false, false, false] HT_ ?_
                   refine pq 4 (some 65) #[true, true, true, true, true, false, false, false, false, false, false, false, false, false, false, false, false, false, false, false] HT_ ?_
                   refine pq 7 (some 68) #[true, true, true, true, true, false, false, true, false, false, false, false, false, false, false, false, false, false, false, false] HT_ ?_
                   refine pq 8 (some 69) #[true, true, true, true, true, false, false, true, true, false, false, false, false, false, false, false, false, false, false, false] HT_ ?_
                   refine pq 9 (some 70) #[true, true, true, true, true, false, false, true, true, true, false, false, false, false, false, false, false, false, false, false] HT_ ?_
                   refine pq 10 (some 71) #[true, true, true, true, true, false, false, true, true, true, true, false, false, false, false, false, false, false, false, false] HT_ ?_
                   refine pq 15 (some 76) #[true, true, true, true, true, false, false, true, true, true, true, false, false, false, false, true, false, false, false, false] HT_ ?_
                   refine tq 5 (some 66) #[true, true, true, true, true, true, false, true, true, true, true, false, false, false, false, true, false, false, false, false] HT_ HW_ hHeld ?_
                   refine pq 6 (some 67) #[true, true, true, true, true, true, true, true, true, true, true, false, false, false, false, true, false, false, false, false] HT_ ?_
                   refine tq 11 (some 72) #[true, true, true, true, true, true, true, true, true, true, true, true, false, false, false, true, false, false, false, false] HT_ HW_ hHeld ?_
                   refine pq 12 (some 73) #[true, true, true, true, true, true, true, true, true, true, true, true, true, false, false, true, false, false, false, false] HT_ ?_
                   refine pq 13 (some 74) #[true, true, true, true, true, true, true, true, true, true, true, true, true, true, false, true, false, false, false, false] HT_ ?_
                   refine pq 14 (some 75) #[true, true, true, true, true, true, true, true, true, true, true, true, true, true, true, true, false, false, false, false] HT_ ?_
                   refine pq 16 (some 77) #[true, true, true, true, true, true, true, true, true, true, true, true, true, true, true, true, true, false, false, false] HT_ ?_
                   refine pq 17 (some 78) #[true, true, true, true, true, true, true, true, true, true, true, true, true, true, true, true, true, true, false, false] HT_ ?_
                   refine pq 18 (some 79) #[true, true, true, true, true, true, true, true, true, true, true, true, true, true, true, true, true, true, true, false] HT_ ?_
                   refine last_ (i := 19) (N := none) #[true, true, true, true, true, true, true, true, true, true, true, true, true, true, true, true, true, true, true, true] rfl rfl (one_of HT_.out (by kernel_rfl)) (by decide) (fun K hK => ?_)
                   refine skip_ (w1 := ?_) (by rfl) rfl ?_ ?_
                   rotate_left
                   ·
                    go_simp
                    rfl
                   refine hK.out _ _ ?_
                   clear hK K
                   refine done_ (done_of HT_.out (by kernel_rfl)) ?_
                   try go_wp2
                   (try simp only [← hl5_2])
                   go_roundg k2
                   case measure => have := HK1.out; have := HK2.out; omega
                   case rel => exact ⟨(bK), (ji37), (by first | rfl | (simp; done) | (simp only [← hji37] <;> (first | rfl | simp)) | (simp [*]; done)), H', ⟨by have := HK1.out; have := HK2.out; omega⟩, ⟨by (try simp only [hl7_1]); (try simp only [hl8_1]); (try simp only [hl5_2]); (with_reducible repeat (first | apply Kd.R_alloc | apply Kd.R_drewN | apply Kd.R_drew)); exact Kd.R_mono (Kd.R_far (p := ⟨go43, (aa : Int).toNat, none⟩) (Kd.R_mono ah.out (fun k_ hk => (⟨hk, fun e_ => hk.1 (by rw [e_]; rfl)⟩ : _ ∧ k_ ≠ go43))) (fun _ hk => hk.2) (.int .u32 ((ji41) % 4294967296))) (fun _ hk => ⟨hk.1.1, hk.1.2⟩)⟩, ⟨by (try simp only [hl7_1]); (try simp only [hl8_1]); (try simp only [hl5_2]); (with_reducible repeat (first | apply Kd.R_alloc | apply Kd.R_drewN | apply Kd.R_drew)); exact HQ45.out⟩, ⟨by (try simp only [hl7_1]); (try simp only [hl8_1]); (try simp only [hl5_2]); (with_reducible repeat (first | apply Kd.R_alloc | apply Kd.R_drewN | apply Kd.R_drew)); exact Kd.R_mono (Kd.R_far (p := ⟨go43, (aa : Int).toNat, none⟩) (Kd.R_mono af.out (fun k_ hk => (⟨hk, fun e_ => hk.2 (by rw [e_]; rfl)⟩ : _ ∧ k_ ≠ go43))) (fun _ hk => hk.2) (.int .u32 ((ji41) % 4294967296))) (fun _ hk => ⟨hk.1.1, hk.1.2⟩)⟩, ⟨by repeat (first | (with_reducible first | exact HB.out | apply below_alloc | apply pw_below_drewN | apply below_drew1 | refine below_set ?_ GB43.out) | exact HB.out)⟩⟩
                  ·
                   rw [if_neg bS] at H
                   exact absurd H (by simp)
                 ·
                  rw [if_neg bI] at H
                  exact absurd H (by simp)
                ·
                 rw [if_neg bR] at H
                 exact absurd H (by simp)
               ·
                rw [if_neg bQ] at H
                exact absurd H (by simp)
              ·
               rw [if_neg bP] at H
               exact absurd H (by simp)
             ·
              rw [if_neg bO] at H
              exact absurd H (by simp)
            ·
             rw [if_neg bl] at H
             have aJ : decide (aa < (am.length : Int)) = false := decide_eq_false bl
             clear bl
             (try (have aD := aJ; simp only [hl7_1, hl8_1, hl5_2] at aD))
             simp only [Option.some.injEq, Prod.mk.injEq] at H
             obtain ⟨rfl, rfl⟩ := H
             go_wp2
             go_ret2
             exact ⟨_, _, by first | rfl | (simp [errW_none, errW_some] <;> rfl) | (simp only [← hji3, ← hji10]; first | rfl | (simp [errW_none, errW_some] <;> rfl)) | (simp [*, errW_none, errW_some] <;> rfl), by (with_reducible repeat (first | apply Kd.R_alloc | apply Kd.R_drewN | apply Kd.R_drew)); exact Kd.R_mono ah.out (fun _ hk => hk.1), by (with_reducible repeat (first | apply Kd.R_alloc | apply Kd.R_drewN | apply Kd.R_drew)); exact Kd.R_mono au.out (fun _ hk => hk.1), by repeat (first | (with_reducible first | exact HB.out | apply below_alloc | apply pw_below_drewN | apply below_drew1) | exact HB.out)⟩
         ·
          rw [if_neg bk] at H
          exact absurd H (by simp)
        ·
         rw [if_neg bj] at H
         exact absurd H (by simp)
    ·
     rw [if_neg a0] at H
     exact absurd H (by simp)
   ·
    rw [if_neg aZ] at H
    exact absurd H (by simp)
  ·
   rw [if_neg c5] at H
   exact absurd H (by simp)
 ·
  rw [if_neg c4] at H
  exact absurd H (by simp)
end Go.Proofs.Ytecfdemglbfnoaa.PT
end
