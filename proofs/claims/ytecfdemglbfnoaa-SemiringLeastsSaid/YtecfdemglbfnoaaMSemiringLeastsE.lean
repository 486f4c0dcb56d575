/- Walks and plain facts for the law SemiringLeasts, several texts in one: each theorem says what it shows; no condition beyond those that it names. -/
import Derived.Test.YtecfdemglbfnoaaMSemiringLeastsD
section
namespace Go.Proofs.Ytecfdemglbfnoaa.PT
open Go.RowKit Go.Proofs.YtecfdemglbfnoaaW.PrintWords Go.Proofs.YtecfdemglbfnoaaW.PrintLast Go.Proofs.YtecfdemglbfnoaaW.PrintMore
attribute [local go_sem] max2_int min2_int max_two min_two max_three min_three max_four min_four
set_option linter.unusedVariables false
set_option linter.unusedSimpArgs false
set_option maxHeartbeats 8000000
set_option maxRecDepth 100000
mutual
def codewrightlaw46_SemiringLeasts.j0 : Nat → Bool → Int → List Int → Int → List Int → Int → List Int → Option (Bool)
 | 0, _, _, _, _, _, _, _ => none
 | k + 1, x32, x626000, x626001, x627000, x627001, x628000, x628001 => if x32 = true then (none) else ((semiring_Leasts_Add.f k x626000 x626001 x627000 x627001).bind fun bt654 => ((codewrightref46_LeastAdd.f k x626000 x626001 x627000 x627001).bind fun bt658 => ((codewrightref46_SameLeast.f k bt654.1 bt654.2 bt658.1 bt658.2).bind fun t662 => (if t662 = true then ((semiring_Leasts_Mul.f k x626000 x626001 x627000 x627001).bind fun bt663 => ((codewrightref46_LeastMul.f k x626000 x626001 x627000 x627001).bind fun bt667 => ((codewrightref46_SameLeast.f k bt663.1 bt663.2 bt667.1 bt667.2).bind fun t671 => (codewrightlaw46_SemiringLeasts.j1 k (!t671) x626000 x626001 x627000 x627001 x628000 x628001)))) else (codewrightlaw46_SemiringLeasts.j1 k true x626000 x626001 x627000 x627001 x628000 x628001)))))
def codewrightlaw46_SemiringLeasts.j1 : Nat → Bool → Int → List Int → Int → List Int → Int → List Int → Option (Bool)
 | 0, _, _, _, _, _, _, _ => none
 | k + 1, x52, x626000, x626001, x627000, x627001, x628000, x628001 => if x52 = true then (none) else ((semiring_Leasts_Same.f k x626000 x626001 x627000 x627001).bind fun t672 => ((codewrightref46_Least.f k x626000 x626001).bind fun bt673 => ((codewrightref46_Least.f k x627000 x627001).bind fun bt677 => ((codewrightref46_SameLeast.f k bt673.1 bt673.2 bt677.1 bt677.2).bind fun t681 => (if (t672 != t681) = true then (codewrightlaw46_SemiringLeasts.j2 k true x626000 x626001 x627000 x627001 x628000 x628001) else ((semiring_Leasts_Zero.f).bind fun bt682 => ((semiring_Leasts_Add.f k x626000 x626001 bt682.1 bt682.2).bind fun bt686 => ((semiring_Leasts_Same.f k bt686.1 bt686.2 x626000 x626001).bind fun t690 => (if t690 = true then ((semiring_Leasts_One.f k).bind fun bt691 => ((semiring_Leasts_Mul.f k x626000 x626001 bt691.1 bt691.2).bind fun bt695 => ((semiring_Leasts_Same.f k bt695.1 bt695.2 x626000 x626001).bind fun t699 => (codewrightlaw46_SemiringLeasts.j2 k (!t699) x626000 x626001 x627000 x627001 x628000 x628001)))) else (codewrightlaw46_SemiringLeasts.j2 k true x626000 x626001 x627000 x627001 x628000 x628001))))))))))
def codewrightlaw46_SemiringLeasts.j2 : Nat → Bool → Int → List Int → Int → List Int → Int → List Int → Option (Bool)
 | 0, _, _, _, _, _, _, _ => none
 | k + 1, x84, x626000, x626001, x627000, x627001, x628000, x628001 => if x84 = true then (none) else ((semiring_Leasts_Add.f k x627000 x627001 x628000 x628001).bind fun bt700 => ((semiring_Leasts_Mul.f k x626000 x626001 bt700.1 bt700.2).bind fun bt704 => ((semiring_Leasts_Mul.f k x626000 x626001 x627000 x627001).bind fun bt708 => ((semiring_Leasts_Mul.f k x626000 x626001 x628000 x628001).bind fun bt712 => ((semiring_Leasts_Add.f k bt708.1 bt708.2 bt712.1 bt712.2).bind fun bt716 => ((codewrightref46_SameLeast.f k bt704.1 bt704.2 bt716.1 bt716.2).bind fun t720 => (if t720 = true then ((semiring_Leasts_Add.f k x627000 x627001 x628000 x628001).bind fun bt721 => ((semiring_Leasts_Add.f k x626000 x626001 bt721.1 bt721.2).bind fun bt725 => ((semiring_Leasts_Add.f k x626000 x626001 x627000 x627001).bind fun bt729 => ((semiring_Leasts_Add.f k bt729.1 bt729.2 x628000 x628001).bind fun bt733 => ((codewrightref46_SameLeast.f k bt725.1 bt725.2 bt733.1 bt733.2).bind fun t737 => (if t737 = true then ((semiring_Leasts_Mul.f k x627000 x627001 x628000 x628001).bind fun bt738 => ((semiring_Leasts_Mul.f k x626000 x626001 bt738.1 bt738.2).bind fun bt742 => ((semiring_Leasts_Mul.f k x626000 x626001 x627000 x627001).bind fun bt746 => ((semiring_Leasts_Mul.f k bt746.1 bt746.2 x628000 x628001).bind fun bt750 => ((codewrightref46_SameLeast.f k bt742.1 bt742.2 bt750.1 bt750.2).bind fun t754 => (some t754)))))) else (none))))))) else (none))))))))
end
def codewrightlaw46_SemiringLeasts.f (k : Nat) (a0_0 : Int) (l0_1 : List Int) (a1_0 : Int) (l1_1 : List Int) (a2_0 : Int) (l2_1 : List Int) : Option (Bool) := (codewrightlaw46_short.f k (([(([l0_1, l1_1, l2_1] : List (List Int)))] : List (List (List Int))))).bind fun t635 => (if t635 = true then ((semiring_Leasts_Zero.f).bind fun bt637 => ((codewrightref46_None.f).bind fun bt641 => ((codewrightref46_SameLeast.f k bt637.1 bt637.2 bt641.1 bt641.2).bind fun t645 => (if t645 = true then ((semiring_Leasts_One.f k).bind fun bt646 => ((codewrightref46_SameLeast.f k bt646.1 bt646.2 0 (([1] : List Int))).bind fun t653 => (codewrightlaw46_SemiringLeasts.j0 k (!t653) a0_0 l0_1 a1_0 l1_1 a2_0 l2_1))) else (codewrightlaw46_SemiringLeasts.j0 k true a0_0 l0_1 a1_0 l1_1 a2_0 l2_1))))) else ((codewrightlaw46_alive.f).bind fun t636 => (some t636)))
def codewrightlaw46_SemiringLeasts.T6 : Bool × List (List Nat × List Nat) := (true, [([], []), ([], []), ([], []), ([0, 1, 2], [0, 1, 2]), ([], []), ([], []), ([4, 5, 3], [4, 5]), ([3, 6, 6], [3, 6]), ([7], [7]), ([8, 7], [8]), ([9], [9]), ([9], [9]), ([9], [9]), ([10, 11, 12, 9, 9], [9, 10, 11, 12]), ([9], [9]), ([9], [9]), ([14, 15, 13, 9], [9, 14, 15]), ([13, 16, 16, 9], [9, 13, 16]), ([17, 9], [9, 17]), ([9, 18], [9, 18])])
def codewrightlaw46_SemiringLeasts.B6 : List Nat := [0, 0, 0, 7, 0, 0, 63, 127, 255, 511, 1023, 1023, 1023, 8191, 1023, 1023, 65535, 131071, 262143, 524287]
theorem codewrightlaw46_SemiringLeasts.tab6 : rtab .any (opsOf Try.f8 6) = codewrightlaw46_SemiringLeasts.T6 := by kernel_rfl
theorem codewrightlaw46_SemiringLeasts.bits6 : waitsOk codewrightlaw46_SemiringLeasts.T6.2 codewrightlaw46_SemiringLeasts.B6 = true := by kernel_rfl
def codewrightlaw46_SemiringLeasts.T8 : Bool × List (List Nat × List Nat) := (true, [([], []), ([], []), ([], []), ([0, 1, 2], [0, 1, 2]), ([], []), ([4, 3], [4]), ([], []), ([6, 5], [6]), ([5, 7, 7], [5, 7]), ([3, 8], [3, 8]), ([9, 8], [9]), ([10], [10]), ([10], [10]), ([10], [10]), ([10], [10]), ([14, 10, 10], [10, 14]), ([12, 13, 15, 15, 10], [10, 12, 13, 15]), ([10], [10]), ([11, 16, 17, 16, 10], [10, 11, 16, 17]), ([18, 10], [10, 18]), ([10, 19], [10, 19]), ([20, 18], [20]), ([21], [21]), ([21], [21]), ([21], [21]), ([21], [21]), ([25, 21, 21], [21, 25]), ([23, 24, 26, 26, 21], [21, 23, 24, 26]), ([21], [21]), ([22, 27, 28, 27, 21], [21, 22, 27, 28]), ([29, 21], [21, 29]), ([21, 30], [21, 30])])
def codewrightlaw46_SemiringLeasts.B8 : List Nat := [0, 0, 0, 7, 0, 31, 0, 127, 255, 511, 1023, 2047, 2047, 2047, 2047, 18431, 63487, 2047, 262143, 524287, 1048575, 2097151, 4194303, 4194303, 4194303, 4194303, 37748735, 130023423, 4194303, 536870911, 1073741823, 2147483647]
theorem codewrightlaw46_SemiringLeasts.tab8 : rtab .any (opsOf Try.f8 8) = codewrightlaw46_SemiringLeasts.T8 := by kernel_rfl
theorem codewrightlaw46_SemiringLeasts.bits8 : waitsOk codewrightlaw46_SemiringLeasts.T8.2 codewrightlaw46_SemiringLeasts.B8 = true := by kernel_rfl
def codewrightlaw46_SemiringLeasts.T10 : Bool × List (List Nat × List Nat) := (true, [([], []), ([], []), ([], []), ([], []), ([], []), ([2, 3, 4], [2, 3, 4]), ([0, 1, 5, 5], [0, 1, 5]), ([], []), ([], []), ([], []), ([], []), ([8, 9, 10, 6], [8, 9, 10]), ([], []), ([], []), ([], []), ([12, 13, 14, 11], [12, 13, 14]), ([7, 11, 15, 15], [7, 11, 15]), ([6, 16, 16], [6, 16]), ([17], [17])])
def codewrightlaw46_SemiringLeasts.B10 : List Nat := [0, 0, 0, 0, 0, 28, 63, 0, 0, 0, 0, 1919, 0, 0, 0, 32639, 65535, 131071, 262143]
theorem codewrightlaw46_SemiringLeasts.tab10 : rtab .any (opsOf Try.f8 10) = codewrightlaw46_SemiringLeasts.T10 := by kernel_rfl
theorem codewrightlaw46_SemiringLeasts.bits10 : waitsOk codewrightlaw46_SemiringLeasts.T10.2 codewrightlaw46_SemiringLeasts.B10 = true := by kernel_rfl
def codewrightlaw46_SemiringLeasts.T12 : Bool × List (List Nat × List Nat) := (true, [([], []), ([], []), ([], []), ([], []), ([], []), ([2, 3, 4], [2, 3, 4]), ([0, 1, 5, 5], [0, 1, 5]), ([], []), ([], []), ([], []), ([], []), ([8, 9, 10, 6], [8, 9, 10]), ([], []), ([7, 11, 12, 11], [7, 11, 12]), ([6, 13, 13], [6, 13]), ([14, 14], [14]), ([15], [15]), ([15], [15]), ([15], [15]), ([15], [15]), ([15], [15]), ([18, 19, 20, 15, 15], [15, 18, 19, 20]), ([16, 17, 21, 21, 15], [15, 16, 17, 21]), ([15], [15]), ([15], [15]), ([15], [15]), ([15], [15]), ([24, 25, 26, 22, 15], [15, 24, 25, 26]), ([15], [15]), ([23, 27, 28, 27, 15], [15, 23, 27, 28]), ([22, 29, 29, 15], [15, 22, 29]), ([15, 30], [15, 30]), ([31, 30, 0, 1, 2, 3, 4, 5, 6, 7, 8, 9, 10, 11, 12, 13, 14, 15, 16, 17, 18, 19, 20, 21, 22, 23, 24, 25, 26, 27, 28, 29, 30, 31], [31])])
def codewrightlaw46_SemiringLeasts.B12 : List Nat := [0, 0, 0, 0, 0, 28, 63, 0, 0, 0, 0, 1919, 0, 8191, 16383, 32767, 65535, 65535, 65535, 65535, 65535, 1900543, 4194303, 65535, 65535, 65535, 65535, 125829119, 65535, 536870911, 1073741823, 2147483647, 4294967295]
theorem codewrightlaw46_SemiringLeasts.tab12 : rtab .any (opsOf Try.f8 12) = codewrightlaw46_SemiringLeasts.T12 := by kernel_rfl
theorem codewrightlaw46_SemiringLeasts.bits12 : waitsOk codewrightlaw46_SemiringLeasts.T12.2 codewrightlaw46_SemiringLeasts.B12 = true := by kernel_rfl
theorem codewrightlaw46_SemiringLeasts.calls (k : Nat) (a0_0 : Int) (P0_1_ : Nat → Prop) (A0_1 : Option Addr) (c0_1 : Nat) (l0_1 : List Int) (a1_0 : Int) (P1_1_ : Nat → Prop) (A1_1 : Option Addr) (c1_1 : Nat) (l1_1 : List Int) (a2_0 : Int) (P2_1_ : Nat → Prop) (A2_1 : Option Addr) (c2_1 : Nat) (l2_1 : List Int) (r : Bool) (w : World) (hs0_1 : Kd.V (Kd.int .u32) 48 w w.heap.size (fun k_ => P0_1_ k_) (.slice A0_1 l0_1.length c0_1) l0_1) (hs1_1 : Kd.V (Kd.int .u32) 48 w w.heap.size (fun k_ => P1_1_ k_) (.slice A1_1 l1_1.length c1_1) l1_1) (hs2_1 : Kd.V (Kd.int .u32) 48 w w.heap.size (fun k_ => P2_1_ k_) (.slice A2_1 l2_1.length c2_1) l2_1) (h : codewrightlaw46_SemiringLeasts.f k a0_0 l0_1 a1_0 l1_1 a2_0 l2_1 = some r) :
 Calls Try.prog 8 #[.agg #[.int .i64 a0_0, .slice A0_1 l0_1.length c0_1], .agg #[.int .i64 a1_0, .slice A1_1 l1_1.length c1_1], .agg #[.int .i64 a2_0, .slice A2_1 l2_1.length c2_1]] w fun e w' => e = .returned (.bool r) ∧ Below w.heap.size w w' := by
 have hn := Try.underlying53
 have ho := Try.underlying54
 have aq := am (show Kd.V (Kd.int .u32) 48 w w.heap.size (fun k_ => ((P0_1_ k_ ∨ P1_1_ k_ ∨ P2_1_ k_) ∨ w.heap.size ≤ k_)) (.slice A0_1 l0_1.length c0_1) l0_1 from Kd.V_mono hs0_1 (fun k_ hk => .inl (.inl hk)))
 have au := am (show Kd.V (Kd.int .u32) 48 w w.heap.size (fun k_ => ((P0_1_ k_ ∨ P1_1_ k_ ∨ P2_1_ k_) ∨ w.heap.size ≤ k_)) (.slice A1_1 l1_1.length c1_1) l1_1 from Kd.V_mono hs1_1 (fun k_ hk => .inl (.inr (.inl hk))))
 have av := am (show Kd.V (Kd.int .u32) 48 w w.heap.size (fun k_ => ((P0_1_ k_ ∨ P1_1_ k_ ∨ P2_1_ k_) ∨ w.heap.size ≤ k_)) (.slice A2_1 l2_1.length c2_1) l2_1 from Kd.V_mono hs2_1 (fun k_ hk => .inl (.inr (.inr hk))))
 have HB := am (Below.refl w.heap.size w)
 have H : ((codewrightlaw46_short.f k (([(([l0_1, l1_1, l2_1] : List (List Int)))] : List (List (List Int))))).bind fun dh => (if dh = true then ((semiring_Leasts_Zero.f).bind fun bw => ((codewrightref46_None.f).bind fun bx => ((codewrightref46_SameLeast.f k bw.1 bw.2 bx.1 bx.2).bind fun ca => (if ca = true then ((semiring_Leasts_One.f k).bind fun a6 => ((codewrightref46_SameLeast.f k a6.1 a6.2 0 (([1] : List Int))).bind fun bk => (codewrightlaw46_SemiringLeasts.j0 k (!bk) a0_0 l0_1 a1_0 l1_1 a2_0 l2_1))) else (codewrightlaw46_SemiringLeasts.j0 k true a0_0 l0_1 a1_0 l1_1 a2_0 l2_1))))) else ((codewrightlaw46_alive.f).bind fun bV => (some bV)))) = some r := h
 clear h
 obtain ⟨bl, cb⟩ : ∃ y_ : List (List Int), y_ = (([l0_1, l1_1, l2_1] : List (List Int))) := ⟨_, rfl⟩
 rw [← cb] at H
 have bS := am cb
 clear cb
 obtain ⟨bm, cc⟩ : ∃ y_ : List (List (List Int)), y_ = (([bl] : List (List (List Int)))) := ⟨_, rfl⟩
 rw [← cc] at H
 have bT := am cc
 clear cc
 obtain ⟨dh, A4, H⟩ := bs H
 (try dsimp -simprocs only at H)
 by_cases c5 : dh = true
 ·
  subst c5
  have H1 : ((semiring_Leasts_Zero.f).bind fun bw => ((codewrightref46_None.f).bind fun bx => ((codewrightref46_SameLeast.f k bw.1 bw.2 bx.1 bx.2).bind fun ca => (if ca = true then ((semiring_Leasts_One.f k).bind fun a6 => ((codewrightref46_SameLeast.f k a6.1 a6.2 0 (([1] : List Int))).bind fun bk => (codewrightlaw46_SemiringLeasts.j0 k (!bk) a0_0 l0_1 a1_0 l1_1 a2_0 l2_1))) else (codewrightlaw46_SemiringLeasts.j0 k true a0_0 l0_1 a1_0 l1_1 a2_0 l2_1))))) = some r := by rw [if_pos rfl] at H; exact H
  clear H
  have H := H1
  clear H1
  have fp := am H
  clear H
  go_enter Try.func8, Try.ntmps8
  go_upto_region 4 with (first | ((with_reducible refine gate_dst (N := 3) rfl ?_); (try (refine gate_guard (by rfl) ?_; dsimp only)); refine box_event ?hg (N := 3) ?hd (cs := #[.int .i64 a0_0, .slice A0_1 l0_1.length c0_1]) (t := 53) ?hr ?_; (case hd => rfl); (case hg => rfl); (case hr => first | (go_simp; done) | (go_simp; rfl)); intro al hg w7 hbox hb; replace aq := ke aq hg hb; replace au := ke au hg hb; replace av := ke av hg hb; have ac := am (hbox); have dY := ng hg (bu HB.out); have ah := ng hg (bu HB.out); replace HB := be HB hb; clear hb hbox hg) | ((with_reducible refine gate_dst (N := 4) rfl ?_); (try (refine gate_guard (by rfl) ?_; dsimp only)); refine box_event ?hg (N := 4) ?hd (cs := #[.int .i64 a1_0, .slice A1_1 l1_1.length c1_1]) (t := 53) ?hr ?_; (case hd => rfl); (case hg => rfl); (case hr => first | (go_simp; done) | (go_simp; rfl)); intro an hg w8 hbox hb; replace aq := ke aq hg hb; replace au := ke au hg hb; replace av := ke av hg hb; have ad := am (hbox); have dZ := ng hg (bu1 HB.out ah.out); have ai := ng hg (bu1 HB.out ah.out); replace HB := be1 HB ah hb; have aY := nl hg ac; have aZ := nr hg ac; replace ac := kb ac hb; clear hb hbox hg) | ((with_reducible refine gate_dst (N := 5) rfl ?_); (try (refine gate_guard (by rfl) ?_; dsimp only)); refine box_event ?hg (N := 5) ?hd (cs := #[.int .i64 a2_0, .slice A2_1 l2_1.length c2_1]) (t := 53) ?hr ?_; (case hd => rfl); (case hg => rfl); (case hr => first | (go_simp; done) | (go_simp; rfl)); intro ao hg w9 hbox hb; replace aq := ke aq hg hb; replace au := ke au hg hb; replace av := ke av hg hb; have af := am (hbox); have d0 := ng hg (bu2 HB.out ah.out ai.out); have aj := ng hg (bu2 HB.out ah.out ai.out); replace HB := be2 HB ah ai hb; have a0 := nl hg ac; have a1 := nr hg ac; replace ac := kb ac hb; have a2 := nl hg ad; have a3 := nr hg ad; replace ad := kb ad hb; clear hb hbox hg) | ((with_reducible refine gate_dst (N := 7) rfl ?_); (try (refine gate_guard (by rfl) ?_; dsimp only)); refine box_event ?hg (N := 7) ?hd (cs := #[]) (t := 54) ?hr ?_; (case hd => rfl); (case hg => rfl); (case hr => first | (go_simp; done) | (go_simp; rfl)); intro ap hg di hbox hb; replace aq := ke aq hg hb; replace au := ke au hg hb; replace av := ke av hg hb; have ag := am (hbox); have d1 := ng hg (bu3 HB.out ah.out ai.out aj.out); have ak := ng hg (bu3 HB.out ah.out ai.out aj.out); replace HB := be3 HB ah ai aj hb; have aP := nl hg ac; have aQ := nr hg ac; replace ac := kb ac hb; have aR := nl hg ad; have aS := nr hg ad; replace ad := kb ad hb; have aT := nl hg af; have aU := nr hg af; replace af := kb af hb; clear hb hbox hg; have gK := aY.out; have gL := aZ.out; have gM := a0.out; have gN := a1.out; have gO := aP.out; have gP := aQ.out; have ci : di.cell? ⟨al, 0, none⟩ = some (.int .i64 a0_0) := bc ac 0; have cj : di.cell? ⟨al, 1, none⟩ = some (.slice A0_1 l0_1.length c0_1) := bc ac 1; have ck := blk_frozen ac.out 0; have cl := blk_frozen ac.out 1; have gQ := a2.out; have gR := a3.out; have gS := aR.out; have gT := aS.out; have cm : di.cell? ⟨an, 0, none⟩ = some (.int .i64 a1_0) := bc ad 0; have cn : di.cell? ⟨an, 1, none⟩ = some (.slice A1_1 l1_1.length c1_1) := bc ad 1; have co := blk_frozen ad.out 0; have cp := blk_frozen ad.out 1; have gU := aT.out; have gV := aU.out; have cq : di.cell? ⟨ao, 0, none⟩ = some (.int .i64 a2_0) := bc af 0; have cr : di.cell? ⟨ao, 1, none⟩ = some (.slice A2_1 l2_1.length c2_1) := bc af 1; have ct := blk_frozen af.out 0; have cv := blk_frozen af.out 1) | ((with_reducible refine gate_dst (N := 15) rfl ?_); (try (refine gate_guard (by rfl) ?_; dsimp only)); refine Kd.N_lit (Kd.slice 48 (Kd.int .u32)) _ 42 ?hg (N' := 15) ?hd (xs := ([l0_1, l1_1, l2_1] : List (List Int))) (inner := [.slice A0_1 l0_1.length c0_1, .slice A1_1 l1_1.length c1_1, .slice A2_1 l2_1.length c2_1]) (ok := (fun k_ => ((P0_1_ k_ ∨ P1_1_ k_ ∨ P2_1_ k_) ∨ w.heap.size ≤ k_) ∧ k_ ≠ al ∧ k_ ≠ an ∧ k_ ≠ ao ∧ k_ ≠ ap)) (okp := (fun k_ => ((P0_1_ k_ ∨ P1_1_ k_ ∨ P2_1_ k_) ∨ w.heap.size ≤ k_) ∧ k_ ≠ al ∧ k_ ≠ an ∧ k_ ≠ ao ∧ k_ ≠ ap)) ?hr ?hp (fun _ hk => hk) ((show ∀ k_, di.heap.size ≤ k_ → (fun k_ => ((P0_1_ k_ ∨ P1_1_ k_ ∨ P2_1_ k_) ∨ w.heap.size ≤ k_) ∧ k_ ≠ al ∧ k_ ≠ an ∧ k_ ≠ ao ∧ k_ ≠ ap) k_ from fun k_ hk => ⟨(.inr (Nat.le_trans (below_size (bu4 HB.out ah.out ai.out aj.out ak.out)) hk)), Kd.freshB (g := al) (o := .cells #[.int .i64 a0_0, .slice A0_1 l0_1.length c0_1] 53 (0, 0)) (ku ac.out) k_ hk, Kd.freshB (g := an) (o := .cells #[.int .i64 a1_0, .slice A1_1 l1_1.length c1_1] 53 (0, 0)) (ku ad.out) k_ hk, Kd.freshB (g := ao) (o := .cells #[.int .i64 a2_0, .slice A2_1 l2_1.length c2_1] 53 (0, 0)) (ku af.out) k_ hk, Kd.freshB (g := ap) (o := .cells #[] 54 (0, 0)) (ku ag.out) k_ hk⟩) _ (Nat.le_refl _)) (Below.refl _ _) (Nat.le_refl _) (by simp) ?_; (case hd => rfl); (case hg => rfl); (case hr => first | (go_simp; done) | (go_simp; rfl)); (case hp => exact (Reps.one (show Kd.FK (Kd.slice 48 (Kd.int .u32)) _ _ l0_1 [.slice A0_1 l0_1.length c0_1] from (Kd.FK_slice_mk (Kd.V_reads' (vy ((fun k_ => ((P0_1_ k_ ∨ P1_1_ k_ ∨ P2_1_ k_) ∨ w.heap.size ≤ k_) ∧ k_ ≠ al ∧ k_ ≠ an ∧ k_ ≠ ao ∧ k_ ≠ ap)) aq.out)).2.1 (Kd.V_F (vy ((fun k_ => ((P0_1_ k_ ∨ P1_1_ k_ ∨ P2_1_ k_) ∨ w.heap.size ≤ k_) ∧ k_ ≠ al ∧ k_ ≠ an ∧ k_ ≠ ao ∧ k_ ≠ ap)) aq.out)))) (Reps.one (show Kd.FK (Kd.slice 48 (Kd.int .u32)) _ _ l1_1 [.slice A1_1 l1_1.length c1_1] from (Kd.FK_slice_mk (Kd.V_reads' (vy ((fun k_ => ((P0_1_ k_ ∨ P1_1_ k_ ∨ P2_1_ k_) ∨ w.heap.size ≤ k_) ∧ k_ ≠ al ∧ k_ ≠ an ∧ k_ ≠ ao ∧ k_ ≠ ap)) au.out)).2.1 (Kd.V_F (vy ((fun k_ => ((P0_1_ k_ ∨ P1_1_ k_ ∨ P2_1_ k_) ∨ w.heap.size ≤ k_) ∧ k_ ≠ al ∧ k_ ≠ an ∧ k_ ≠ ao ∧ k_ ≠ ap)) au.out)))) (Reps.one (show Kd.FK (Kd.slice 48 (Kd.int .u32)) _ _ l2_1 [.slice A2_1 l2_1.length c2_1] from (Kd.FK_slice_mk (Kd.V_reads' (vy ((fun k_ => ((P0_1_ k_ ∨ P1_1_ k_ ∨ P2_1_ k_) ∨ w.heap.size ≤ k_) ∧ k_ ≠ al ∧ k_ ≠ an ∧ k_ ≠ ao ∧ k_ ≠ ap)) av.out)).2.1 (Kd.V_F (vy ((fun k_ => ((P0_1_ k_ ∨ P1_1_ k_ ∨ P2_1_ k_) ∨ w.heap.size ≤ k_) ∧ k_ ≠ al ∧ k_ ≠ an ∧ k_ ≠ ao ∧ k_ ≠ ap)) av.out)))) (Reps.none _ _))))); intro fq hq bz hb hg_ hnew_; clear hg_ hnew_; (first | rw [← bS.out] at bz | (simp only [Int.reduceToNat] at bz; rw [← bS.out] at bz)); replace aq := el aq bz hb; replace au := el au bz hb; replace av := el av bz hb; have aW := am (Kd.N_lower bz (below_size (bu4 HB.out ah.out ai.out aj.out ak.out))); replace ac := kb ac hb; replace ad := kb ad hb; replace af := kb af hb; replace ag := kb ag hb; replace HB := be4 HB ah ai aj ak hb; clear hb bz; obtain ⟨d2, d3, fr⟩ := Kd.N_slice aW.out; subst fr) | ((with_reducible refine gate_dst (N := 16) rfl ?_); (try (refine gate_guard (by rfl) ?_; dsimp only)); refine Kd.N_lit (Kd.slice 42 (Kd.slice 48 (Kd.int .u32))) _ 45 ?hg (N' := 16) ?hd (xs := ([bl] : List (List (List Int)))) (inner := [.slice d2 bl.length d3]) (ok := (fun k_ => ((P0_1_ k_ ∨ P1_1_ k_ ∨ P2_1_ k_) ∨ w.heap.size ≤ k_) ∧ k_ ≠ al ∧ k_ ≠ an ∧ k_ ≠ ao ∧ k_ ≠ ap)) (okp := (fun k_ => ((P0_1_ k_ ∨ P1_1_ k_ ∨ P2_1_ k_) ∨ w.heap.size ≤ k_) ∧ k_ ≠ al ∧ k_ ≠ an ∧ k_ ≠ ao ∧ k_ ≠ ap)) ?hr ?hp (fun _ hk => hk) ((show ∀ k_, hq.heap.size ≤ k_ → (fun k_ => ((P0_1_ k_ ∨ P1_1_ k_ ∨ P2_1_ k_) ∨ w.heap.size ≤ k_) ∧ k_ ≠ al ∧ k_ ≠ an ∧ k_ ≠ ao ∧ k_ ≠ ap) k_ from fun k_ hk => ⟨(.inr (Nat.le_trans (below_size (bu4 HB.out ah.out ai.out aj.out ak.out)) hk)), Kd.freshB (g := al) (o := .cells #[.int .i64 a0_0, .slice A0_1 l0_1.length c0_1] 53 (0, 0)) (ku ac.out) k_ hk, Kd.freshB (g := an) (o := .cells #[.int .i64 a1_0, .slice A1_1 l1_1.length c1_1] 53 (0, 0)) (ku ad.out) k_ hk, Kd.freshB (g := ao) (o := .cells #[.int .i64 a2_0, .slice A2_1 l2_1.length c2_1] 53 (0, 0)) (ku af.out) k_ hk, Kd.freshB (g := ap) (o := .cells #[] 54 (0, 0)) (ku ag.out) k_ hk⟩) _ (Nat.le_refl _)) (Below.refl _ _) (Nat.le_refl _) (by simp) ?_; (case hd => rfl); (case hg => rfl); (case hr => first | (go_simp; done) | (go_simp; rfl)); (case hp => exact (Reps.one (show Kd.FK (Kd.slice 42 (Kd.slice 48 (Kd.int .u32))) _ _ bl [.slice d2 bl.length d3] from (Kd.FK_slice_mk (Kd.N_reads' (Kd.N_mono (ok' := (fun k_ => ((P0_1_ k_ ∨ P1_1_ k_ ∨ P2_1_ k_) ∨ w.heap.size ≤ k_) ∧ k_ ≠ al ∧ k_ ≠ an ∧ k_ ≠ ao ∧ k_ ≠ ap)) (aW.out) (fun k_ hk => ⟨hk.1, ⟨hk.2.1, ⟨hk.2.2.1, ⟨hk.2.2.2.1, hk.2.2.2.2⟩⟩⟩⟩))).2.1 (Kd.N_F (Kd.N_mono (ok' := (fun k_ => ((P0_1_ k_ ∨ P1_1_ k_ ∨ P2_1_ k_) ∨ w.heap.size ≤ k_) ∧ k_ ≠ al ∧ k_ ≠ an ∧ k_ ≠ ao ∧ k_ ≠ ap)) (aW.out) (fun k_ hk => ⟨hk.1, ⟨hk.2.1, ⟨hk.2.2.1, ⟨hk.2.2.2.1, hk.2.2.2.2⟩⟩⟩⟩))))) (Reps.none _ _))); intro ft iH bA hb hg_ hnew_; clear hg_ hnew_; (first | rw [← bT.out] at bA | (simp only [Int.reduceToNat] at bA; rw [← bT.out] at bA)); replace aq := el aq bA hb; replace au := el au bA hb; replace av := el av bA hb; have aB := am (Kd.N_lower bA (below_size (bu4 HB.out ah.out ai.out aj.out ak.out))); replace ac := kb ac hb; replace ad := kb ad hb; replace af := kb af hb; replace ag := kb ag hb; replace HB := be4 HB ah ai aj ak hb; clear aW hb bA; obtain ⟨bW, bX, fu⟩ := Kd.N_slice aB.out; subst fu) | ((with_reducible refine gate_callee (f := 49) rfl ?_); refine goesL_ (some 17) rfl rfl Try.func49 (by kernel_rfl) rfl #[.slice bW bm.length bX] rfl lu ?_; (with_reducible refine (codewrightlaw46_short.calls k _ _ bm true _ ?side1 ?side2 A4.out).mono ?_); (case side1 => exact cu (Kd.N_reads' aB.out).2.2); (case side2 => exact (Kd.N_reads' aB.out).2.1); rintro e w' ⟨rfl, ⟨nd, rfl⟩⟩; refine ⟨_, rfl, ?_⟩))
  (try simp only [Act.put, List.setIfInBounds_toArray, List.set_cons_zero, List.set_cons_succ])
  go_cut [32] (fun hs wc => ∃ (kq : Nat) (bU : Bool), hs = .bool bU ∧ Aside0 (codewrightlaw46_SemiringLeasts.j0 kq bU a0_0 l0_1 a1_0 l1_1 a2_0 l2_1 = some r) ∧ Aside0 (kq ≤ k) ∧ Aside0 (Kd.V (Kd.int .u32) 48 wc w.heap.size (fun k_ => ((P0_1_ k_ ∨ P1_1_ k_ ∨ P2_1_ k_) ∨ w.heap.size ≤ k_) ∧ k_ ≠ al ∧ k_ ≠ an ∧ k_ ≠ ao ∧ k_ ≠ ap) (.slice A0_1 l0_1.length c0_1) l0_1) ∧ Aside0 (Kd.V (Kd.int .u32) 48 wc w.heap.size (fun k_ => ((P0_1_ k_ ∨ P1_1_ k_ ∨ P2_1_ k_) ∨ w.heap.size ≤ k_) ∧ k_ ≠ al ∧ k_ ≠ an ∧ k_ ≠ ao ∧ k_ ≠ ap) (.slice A1_1 l1_1.length c1_1) l1_1) ∧ Aside0 (Kd.V (Kd.int .u32) 48 wc w.heap.size (fun k_ => ((P0_1_ k_ ∨ P1_1_ k_ ∨ P2_1_ k_) ∨ w.heap.size ≤ k_) ∧ k_ ≠ al ∧ k_ ≠ an ∧ k_ ≠ ao ∧ k_ ≠ ap) (.slice A2_1 l2_1.length c2_1) l2_1) ∧ Aside0 (wc.heap[al]? = some (.cells #[.int .i64 a0_0, (.slice A0_1 l0_1.length c0_1)] 53 (0, 0))) ∧ Aside0 (wc.heap[an]? = some (.cells #[.int .i64 a1_0, (.slice A1_1 l1_1.length c1_1)] 53 (0, 0))) ∧ Aside0 (wc.heap[ao]? = some (.cells #[.int .i64 a2_0, (.slice A2_1 l2_1.length c2_1)] 53 (0, 0))) ∧ Aside0 (wc.heap[ap]? = some (.cells #[] 54 (0, 0))) ∧ Aside0 (Below w.heap.size w wc))
  case first =>
   have H := fp.out
   clear fp
   obtain ⟨⟨bY, bZ⟩, gW, H⟩ := bs H
   (try dsimp -simprocs only at H)
   obtain ⟨⟨b0, b1⟩, gX, H⟩ := bs H
   (try dsimp -simprocs only at H)
   obtain ⟨ca, gY, H⟩ := bs H
   (try dsimp -simprocs only at H)
   by_cases d4 : ca = true
   ·
    subst d4
    have H1 : ((semiring_Leasts_One.f k).bind fun a6 => ((codewrightref46_SameLeast.f k a6.1 a6.2 0 (([1] : List Int))).bind fun bk => (codewrightlaw46_SemiringLeasts.j0 k (!bk) a0_0 l0_1 a1_0 l1_1 a2_0 l2_1))) = some r := by rw [if_pos rfl] at H; exact H
    clear H
    have H := H1
    clear H1
    obtain ⟨⟨d5, d6⟩, ht, H⟩ := bs H
    (try dsimp -simprocs only at H)
    obtain ⟨fv, cd⟩ : ∃ y_ : List Int, y_ = (([1] : List Int)) := ⟨_, rfl⟩
    rw [← cd] at H
    have cz := am cd
    clear cd
    obtain ⟨bk, hu, H⟩ := bs H
    (try dsimp -simprocs only at H)
    have H' := am H
    clear H
    have gZ := aQ.out
    have g0 := aP.out
    have g1 := aS.out
    have g2 := aR.out
    have g3 := aU.out
    have g4 := aT.out
    go_wp2_with (first | ((with_reducible refine gate_callee (f := 61) rfl ?_); refine goesL_ (some 21) rfl rfl Try.func61 (by kernel_rfl) rfl #[.agg #[]] rfl lu ?_; (with_reducible refine (semiring_Leasts_Zero.calls  bY bZ _ gW.out).mono ?_); rintro e iI ⟨fw, rfl, ax, hb⟩; refine ⟨_, rfl, ?_⟩; replace ax := R_V_base rfl ax; replace aq := kv aq hb; replace au := kv au hb; replace av := kv av hb; have aF := ar0 w.heap.size (ok' := fun k_ => ((P0_1_ k_ ∨ P1_1_ k_ ∨ P2_1_ k_) ∨ w.heap.size ≤ k_) ∧ some k_ ≠ (.slice bW bm.length bX : Value).ownBlock ∧ k_ ≠ al ∧ k_ ≠ an ∧ k_ ≠ ao ∧ k_ ≠ ap) ax (fa (fz4 HB ah ai aj ak) (fa (fo aB) (fa (fb ac) (fa (fb ad) (fa (fb af) (fb ag)))))); replace aB := kn aB hb; replace ac := kb ac hb; replace ad := kb ad hb; replace af := kb af hb; replace ag := kb ag hb; replace HB := be4 HB ah ai aj ak hb; (try clear hb); (try clear hk); (try clear ax)) | ((with_reducible refine gate_callee (f := 62) rfl ?_); refine goesL_ (some 22) rfl rfl Try.func62 (by kernel_rfl) rfl #[] rfl lu ?_; (with_reducible refine (codewrightref46_None.calls  b0 b1 _ gX.out).mono ?_); rintro e iJ ⟨fx, rfl, ax, hb⟩; refine ⟨_, rfl, ?_⟩; replace ax := R_V_base rfl ax; replace aq := kv aq hb; replace au := kv au hb; replace av := kv av hb; replace aF := kv aF hb; have aK := ar0 w.heap.size (ok' := fun k_ => ((P0_1_ k_ ∨ P1_1_ k_ ∨ P2_1_ k_) ∨ w.heap.size ≤ k_) ∧ some k_ ≠ (.slice bW bm.length bX : Value).ownBlock ∧ k_ ≠ al ∧ k_ ≠ an ∧ k_ ≠ ao ∧ k_ ≠ ap) ax (fa (fz4 HB ah ai aj ak) (fa (fo aB) (fa (fb ac) (fa (fb ad) (fa (fb af) (fb ag)))))); replace aB := kn aB hb; replace ac := kb ac hb; replace ad := kb ad hb; replace af := kb af hb; replace ag := kb ag hb; replace HB := be4 HB ah ai aj ak hb; (try clear hb); (try clear hk); (try clear ax); obtain ⟨fy, fz, fA⟩ := Kd.V_slice aF.out; subst fA; obtain ⟨fB, fC, fD⟩ := Kd.V_slice aK.out; subst fD) | ((with_reducible refine gate_callee (f := 60) rfl ?_); refine goesL_ (some 23) rfl rfl Try.func60 (by kernel_rfl) rfl #[.agg #[.int .i64 bY, .slice fy bZ.length fz], .agg #[.int .i64 b0, .slice fB b1.length fC]] rfl lu ?_; (with_reducible refine (codewrightref46_SameLeast.calls k bY _ _ bZ b0 _ _ b1 true _ ?side1 ?side2 ?side3 ?side4 gY.out).mono ?_); (case side1 => exact cu (Kd.V_reads' aF.out).2.2); (case side2 => exact (Kd.V_reads' aF.out).2.1); (case side3 => exact cu (Kd.V_reads' aK.out).2.2); (case side4 => exact (Kd.V_reads' aK.out).2.1); rintro e iK ⟨rfl, hb⟩; refine ⟨_, rfl, ?_⟩; replace aq := kv aq hb; replace au := kv au hb; replace av := kv av hb; replace aB := kn aB hb; replace aF := kv aF hb; replace aK := kv aK hb; replace ac := kb ac hb; replace ad := kb ad hb; replace af := kb af hb; replace ag := kb ag hb; replace HB := be4 HB ah ai aj ak hb; (try clear hb); (try clear hk)) | (go_at_call 63; (with_reducible refine (semiring_Leasts_One.calls k  d5 d6 _ ht.out).mono ?_); rintro e iL ⟨hv, rfl, ax, hb⟩; replace ax := R_V_base rfl ax; replace aq := kv aq hb; replace au := kv au hb; replace av := kv av hb; replace aF := kv aF hb; replace aK := kv aK hb; have bg := ar0 w.heap.size (ok' := fun k_ => ((P0_1_ k_ ∨ P1_1_ k_ ∨ P2_1_ k_) ∨ w.heap.size ≤ k_) ∧ some k_ ≠ (.slice bW bm.length bX : Value).ownBlock ∧ k_ ≠ al ∧ k_ ≠ an ∧ k_ ≠ ao ∧ k_ ≠ ap) ax (fa (fz4 HB ah ai aj ak) (fa (fo aB) (fa (fb ac) (fa (fb ad) (fa (fb af) (fb ag)))))); replace aB := kn aB hb; replace ac := kb ac hb; replace ad := kb ad hb; replace af := kb af hb; replace ag := kb ag hb; replace HB := be4 HB ah ai aj ak hb; (try clear hb); (try clear hk); (try clear ax)) | ((with_reducible refine gate_dst (N := 28) rfl ?_); (try (refine gate_guard (by rfl) ?_; dsimp only)); refine Kd.R_lit (Kd.int .u32) _ 48 ?hg (N := 28) ?hd (xs := ([1] : List Int)) (inner := [.int .u32 1]) (ok := fun _ => True) (okp := fun _ => True) ?hr ?hp (fun _ hk => hk) trivial (Below.refl _ _) (Nat.le_refl _) (by simp) ?_; (case hd => rfl); (case hg => rfl); (case hr => first | (go_simp; done) | (go_simp; rfl)); (case hp => exact (Reps.one (show Kd.M (Kd.int .u32) _ _ _ 1 [.int .u32 1] from rfl) (Reps.none _ _))); intro hw iM bf hb hg_ hnew_; clear hg_ hnew_; (first | rw [← cz.out] at bf | (simp only [Int.reduceToNat] at bf; rw [← cz.out] at bf)); replace aq := am (Kd.V_elder' (vu aq.out) (Kd.R_base bf) hb); replace au := am (Kd.V_elder' (vu au.out) (Kd.R_base bf) hb); replace av := am (Kd.V_elder' (vu av.out) (Kd.R_base bf) hb); replace aB := am (Kd.N_elder' (nu aB.out) (Kd.R_base bf) hb); replace aF := am (Kd.V_elder' (vu aF.out) (Kd.R_base bf) hb); replace aK := am (Kd.V_elder' (vu aK.out) (Kd.R_base bf) hb); replace bg := am (Kd.V_elder' (vu bg.out) (Kd.R_base bf) hb); have bB := am (Kd.R_lower (Kd.R_newM (M := fun k_ => (w.heap.size ≤ k_)) bf (below_size (bu4 HB.out ah.out ai.out aj.out ak.out)) (fun k_ h_ => h_)) (below_size (bu4 HB.out ah.out ai.out aj.out ak.out))); replace ac := kb ac hb; replace ad := kb ad hb; replace af := kb af hb; replace ag := kb ag hb; replace HB := be4 HB ah ai aj ak hb; clear hb bf; obtain ⟨hx, hy, fE⟩ := Kd.R_slice bB.out; subst fE; obtain ⟨hz, hA, fF⟩ := Kd.V_slice bg.out; subst fF) | (go_at_call 60; (with_reducible refine (codewrightref46_SameLeast.calls k d5 _ _ d6 0 _ _ fv bk _ ?side1 ?side2 ?side3 ?side4 hu.out).mono ?_); (case side1 => exact cu (Kd.V_reads' bg.out).2.2); (case side2 => exact (Kd.V_reads' bg.out).2.1); (case side3 => exact cu (Kd.R_reads' bB.out).2.2); (case side4 => exact (Kd.R_reads' bB.out).2.1); rintro e iN ⟨rfl, hb⟩; replace aq := kv aq hb; replace au := kv au hb; replace av := kv av hb; replace aB := kn aB hb; replace aF := kv aF hb; replace aK := kv aK hb; replace bg := kv bg hb; replace bB := am (Kd.R_below (by (with_reducible repeat (first | apply Kd.R_alloc | apply Kd.R_drewN | apply Kd.R_drew)); exact bB.out) hb); replace ac := kb ac hb; replace ad := kb ad hb; replace af := kb af hb; replace ag := kb ag hb; replace HB := be4 HB ah ai aj ak hb; (try clear hb); (try clear hk)))
    go_meet
    case rel => exact ⟨_, (!bk), (by first | rfl | (simp; done) | (simp [*]; done) | (cases bk <;> first | rfl | (simp; done))), H', ⟨by first | omega | exact Nat.le_refl _⟩, ⟨by exact vz aq.out⟩, ⟨by exact vz au.out⟩, ⟨by exact vz av.out⟩, ⟨by (with_reducible repeat (first | refine blk_drewN ?_ _ | refine blk_drew ?_ | refine blk_alloc ?_ _)); exact ac.out⟩, ⟨by (with_reducible repeat (first | refine blk_drewN ?_ _ | refine blk_drew ?_ | refine blk_alloc ?_ _)); exact ad.out⟩, ⟨by (with_reducible repeat (first | refine blk_drewN ?_ _ | refine blk_drew ?_ | refine blk_alloc ?_ _)); exact af.out⟩, ⟨by (with_reducible repeat (first | refine blk_drewN ?_ _ | refine blk_drew ?_ | refine blk_alloc ?_ _)); exact ag.out⟩, ⟨by repeat (first | (with_reducible first | exact HB.out | apply below_alloc | apply pw_below_drewN | apply below_drew1 | refine below_set ?_ ah.out | refine below_set ?_ ai.out | refine below_set ?_ aj.out | refine below_set ?_ ak.out) | exact HB.out)⟩⟩
   ·
    replace d4 := Bool.eq_false_iff.mpr d4
    subst d4
    have H1 : (codewrightlaw46_SemiringLeasts.j0 k true a0_0 l0_1 a1_0 l1_1 a2_0 l2_1) = some r := by rw [if_neg (show ¬ (false = true) by decide)] at H; exact H
    clear H
    have H := H1
    clear H1
    have H' := am H
    clear H
    have g5 := aQ.out
    have g6 := aP.out
    have g7 := aS.out
    have g8 := aR.out
    have g9 := aU.out
    have ha := aT.out
    go_wp2_with (first | ((with_reducible refine gate_callee (f := 61) rfl ?_); refine goesL_ (some 21) rfl rfl Try.func61 (by kernel_rfl) rfl #[.agg #[]] rfl lu ?_; (with_reducible refine (semiring_Leasts_Zero.calls  bY bZ _ gW.out).mono ?_); rintro e iO ⟨fw, rfl, ax, hb⟩; refine ⟨_, rfl, ?_⟩; replace ax := R_V_base rfl ax; replace aq := kv aq hb; replace au := kv au hb; replace av := kv av hb; have aF := ar0 w.heap.size (ok' := fun k_ => ((P0_1_ k_ ∨ P1_1_ k_ ∨ P2_1_ k_) ∨ w.heap.size ≤ k_) ∧ some k_ ≠ (.slice bW bm.length bX : Value).ownBlock ∧ k_ ≠ al ∧ k_ ≠ an ∧ k_ ≠ ao ∧ k_ ≠ ap) ax (fa (fz4 HB ah ai aj ak) (fa (fo aB) (fa (fb ac) (fa (fb ad) (fa (fb af) (fb ag)))))); replace aB := kn aB hb; replace ac := kb ac hb; replace ad := kb ad hb; replace af := kb af hb; replace ag := kb ag hb; replace HB := be4 HB ah ai aj ak hb; (try clear hb); (try clear ax)) | ((with_reducible refine gate_callee (f := 62) rfl ?_); refine goesL_ (some 22) rfl rfl Try.func62 (by kernel_rfl) rfl #[] rfl lu ?_; (with_reducible refine (codewrightref46_None.calls  b0 b1 _ gX.out).mono ?_); rintro e iP ⟨fx, rfl, ax, hb⟩; refine ⟨_, rfl, ?_⟩; replace ax := R_V_base rfl ax; replace aq := kv aq hb; replace au := kv au hb; replace av := kv av hb; replace aF := kv aF hb; have aK := ar0 w.heap.size (ok' := fun k_ => ((P0_1_ k_ ∨ P1_1_ k_ ∨ P2_1_ k_) ∨ w.heap.size ≤ k_) ∧ some k_ ≠ (.slice bW bm.length bX : Value).ownBlock ∧ k_ ≠ al ∧ k_ ≠ an ∧ k_ ≠ ao ∧ k_ ≠ ap) ax (fa (fz4 HB ah ai aj ak) (fa (fo aB) (fa (fb ac) (fa (fb ad) (fa (fb af) (fb ag)))))); replace aB := kn aB hb; replace ac := kb ac hb; replace ad := kb ad hb; replace af := kb af hb; replace ag := kb ag hb; replace HB := be4 HB ah ai aj ak hb; (try clear hb); (try clear ax); obtain ⟨fG, fH, fI⟩ := Kd.V_slice aF.out; subst fI; obtain ⟨fJ, fK, fL⟩ := Kd.V_slice aK.out; subst fL) | ((with_reducible refine gate_callee (f := 60) rfl ?_); refine goesL_ (some 23) rfl rfl Try.func60 (by kernel_rfl) rfl #[.agg #[.int .i64 bY, .slice fG bZ.length fH], .agg #[.int .i64 b0, .slice fJ b1.length fK]] rfl lu ?_; (with_reducible refine (codewrightref46_SameLeast.calls k bY _ _ bZ b0 _ _ b1 false _ ?side1 ?side2 ?side3 ?side4 gY.out).mono ?_); (case side1 => exact cu (Kd.V_reads' aF.out).2.2); (case side2 => exact (Kd.V_reads' aF.out).2.1); (case side3 => exact cu (Kd.V_reads' aK.out).2.2); (case side4 => exact (Kd.V_reads' aK.out).2.1); rintro e iQ ⟨rfl, hb⟩; refine ⟨_, rfl, ?_⟩; replace aq := kv aq hb; replace au := kv au hb; replace av := kv av hb; replace aB := kn aB hb; replace aF := kv aF hb; replace aK := kv aK hb; replace ac := kb ac hb; replace ad := kb ad hb; replace af := kb af hb; replace ag := kb ag hb; replace HB := be4 HB ah ai aj ak hb; (try clear hb)))
    go_meet
    case rel => exact ⟨_, (true), (by first | rfl | (simp; done) | (simp [*]; done)), H', ⟨by first | omega | exact Nat.le_refl _⟩, ⟨by exact vz aq.out⟩, ⟨by exact vz au.out⟩, ⟨by exact vz av.out⟩, ⟨by (with_reducible repeat (first | refine blk_drewN ?_ _ | refine blk_drew ?_ | refine blk_alloc ?_ _)); exact ac.out⟩, ⟨by (with_reducible repeat (first | refine blk_drewN ?_ _ | refine blk_drew ?_ | refine blk_alloc ?_ _)); exact ad.out⟩, ⟨by (with_reducible repeat (first | refine blk_drewN ?_ _ | refine blk_drew ?_ | refine blk_alloc ?_ _)); exact af.out⟩, ⟨by (with_reducible repeat (first | refine blk_drewN ?_ _ | refine blk_drew ?_ | refine blk_alloc ?_ _)); exact ag.out⟩, ⟨by repeat (first | (with_reducible first | exact HB.out | apply below_alloc | apply pw_below_drewN | apply below_drew1 | refine below_set ?_ ah.out | refine below_set ?_ ai.out | refine below_set ?_ aj.out | refine below_set ?_ ak.out) | exact HB.out)⟩⟩
  case rest =>
   clear fp
   try clear c1
   try clear c2
   try clear p2
   try clear c3
   try clear c4
   try clear c5
   try clear c6
   try clear c8
   try clear c11
   try clear c12
   try clear c13
   try clear c15
   try clear c16
   try clear c18
   try clear d4
   try clear c32
   try clear c33
   try clear c34
   try clear c48
   try clear c49
   try clear c50
   try clear ci
   try clear cj
   try clear cm
   try clear cn
   try clear cq
   try clear cr
   try clear ck
   try clear cl
   try clear co
   try clear cp
   try clear ct
   try clear cv
   obtain ⟨kq, bU, rfl, HA, HJ5, aa, ab, ae, ac, ad, af, ag, HB⟩ := hcut
   cases kq with
   | zero => exact absurd HA.out (by simp [codewrightlaw46_SemiringLeasts.j0])
   | succ kj5 =>
    have H := HA.out
    clear HA
    simp only [codewrightlaw46_SemiringLeasts.j0] at H
    by_cases fm : bU = true
    ·
     subst fm
     have H1 : (none) = some r := by rw [if_pos rfl] at H; exact H
     clear H
     have H := H1
     clear H1
     exact absurd H (by simp)
    ·
     replace fm := Bool.eq_false_iff.mpr fm
     subst fm
     have H1 : ((semiring_Leasts_Add.f kj5 a0_0 l0_1 a1_0 l1_1).bind fun cA => ((codewrightref46_LeastAdd.f kj5 a0_0 l0_1 a1_0 l1_1).bind fun cB => ((codewrightref46_SameLeast.f kj5 cA.1 cA.2 cB.1 cB.2).bind fun dj => (if dj = true then ((semiring_Leasts_Mul.f kj5 a0_0 l0_1 a1_0 l1_1).bind fun bC => ((codewrightref46_LeastMul.f kj5 a0_0 l0_1 a1_0 l1_1).bind fun bD => ((codewrightref46_SameLeast.f kj5 bC.1 bC.2 bD.1 bD.2).bind fun bP => (codewrightlaw46_SemiringLeasts.j1 kj5 (!bP) a0_0 l0_1 a1_0 l1_1 a2_0 l2_1)))) else (codewrightlaw46_SemiringLeasts.j1 kj5 true a0_0 l0_1 a1_0 l1_1 a2_0 l2_1))))) = some r := by rw [if_neg (show ¬ (false = true) by decide)] at H; exact H
     clear H
     have H := H1
     clear H1
     have dk := am H
     clear H
     go_upto_region 6 with (fail)
     go_cut [52] (fun hB wc => ∃ (kq : Nat) (bn : Bool), hB = .bool bn ∧ Aside0 (codewrightlaw46_SemiringLeasts.j1 kq bn a0_0 l0_1 a1_0 l1_1 a2_0 l2_1 = some r) ∧ Aside0 (kq ≤ kj5) ∧ Aside0 (Kd.V (Kd.int .u32) 48 wc w.heap.size (fun k_ => ((P0_1_ k_ ∨ P1_1_ k_ ∨ P2_1_ k_) ∨ w.heap.size ≤ k_) ∧ k_ ≠ al ∧ k_ ≠ an ∧ k_ ≠ ao ∧ k_ ≠ ap) (.slice A0_1 l0_1.length c0_1) l0_1) ∧ Aside0 (Kd.V (Kd.int .u32) 48 wc w.heap.size (fun k_ => ((P0_1_ k_ ∨ P1_1_ k_ ∨ P2_1_ k_) ∨ w.heap.size ≤ k_) ∧ k_ ≠ al ∧ k_ ≠ an ∧ k_ ≠ ao ∧ k_ ≠ ap) (.slice A1_1 l1_1.length c1_1) l1_1) ∧ Aside0 (Kd.V (Kd.int .u32) 48 wc w.heap.size (fun k_ => ((P0_1_ k_ ∨ P1_1_ k_ ∨ P2_1_ k_) ∨ w.heap.size ≤ k_) ∧ k_ ≠ al ∧ k_ ≠ an ∧ k_ ≠ ao ∧ k_ ≠ ap) (.slice A2_1 l2_1.length c2_1) l2_1) ∧ Aside0 (wc.heap[al]? = some (.cells #[.int .i64 a0_0, (.slice A0_1 l0_1.length c0_1)] 53 (0, 0))) ∧ Aside0 (wc.heap[an]? = some (.cells #[.int .i64 a1_0, (.slice A1_1 l1_1.length c1_1)] 53 (0, 0))) ∧ Aside0 (wc.heap[ao]? = some (.cells #[.int .i64 a2_0, (.slice A2_1 l2_1.length c2_1)] 53 (0, 0))) ∧ Aside0 (wc.heap[ap]? = some (.cells #[] 54 (0, 0))) ∧ Aside0 (Below w.heap.size w wc))
     case first =>
      have H := dk.out
      clear dk
      obtain ⟨⟨b2, b3⟩, hc, H⟩ := bs H
      (try dsimp -simprocs only at H)
      obtain ⟨⟨b4, b5⟩, he, H⟩ := bs H
      (try dsimp -simprocs only at H)
      obtain ⟨dj, hf, H⟩ := bs H
      (try dsimp -simprocs only at H)
      by_cases d7 : dj = true
      ·
       subst d7
       have H1 : ((semiring_Leasts_Mul.f kj5 a0_0 l0_1 a1_0 l1_1).bind fun bC => ((codewrightref46_LeastMul.f kj5 a0_0 l0_1 a1_0 l1_1).bind fun bD => ((codewrightref46_SameLeast.f kj5 bC.1 bC.2 bD.1 bD.2).bind fun bP => (codewrightlaw46_SemiringLeasts.j1 kj5 (!bP) a0_0 l0_1 a1_0 l1_1 a2_0 l2_1)))) = some r := by rw [if_pos rfl] at H; exact H
       clear H
       have H := H1
       clear H1
       obtain ⟨⟨dl, dm⟩, hC, H⟩ := bs H
       (try dsimp -simprocs only at H)
       obtain ⟨⟨dn, dp⟩, hD, H⟩ := bs H
       (try dsimp -simprocs only at H)
       obtain ⟨bP, hE, H⟩ := bs H
       (try dsimp -simprocs only at H)
       have H' := am H
       clear H
       try go_wp2
       replace aa := am (Kd.V_drew aa.out)
       replace ab := am (Kd.V_drew ab.out)
       replace ae := am (Kd.V_drew ae.out)
       replace ac := am (blk_drew ac.out)
       replace ad := am (blk_drew ad.out)
       replace af := am (blk_drew af.out)
       replace ag := am (blk_drew ag.out)
       replace HB := am (below_drew1 HB.out)
       refine start_ (n := 20) (S := fun w' => w'.cell? ⟨al, 0, none⟩ = some (.int .i64 a0_0) ∧ w'.cell? ⟨al, 1, none⟩ = some (.slice A0_1 l0_1.length c0_1) ∧ w'.cell? ⟨an, 0, none⟩ = some (.int .i64 a1_0) ∧ w'.cell? ⟨an, 1, none⟩ = some (.slice A1_1 l1_1.length c1_1)) (ds := []) #[false, false, false, false, false, false, false, false, false, false, false, false, false, false, false, false, false, false, false, false] (by kernel_rfl) rfl rfl ⟨bc ac 0, bc ac 1, bc ad 0, bc ad 1⟩ (fun hHeld => ?_); refine with_tabW codewrightlaw46_SemiringLeasts.tab6 codewrightlaw46_SemiringLeasts.bits6 (fun HT_ HW_ => ?_)
       generalize wc.drew = iR at aa ab ae ac ad af ag HB hHeld ⊢
       refine tq 0 (some 33) #[true, false, false, false, false, false, false, false, false, false, false, false, false, false, false, false, false, false, false, false] HT_ HW_ hHeld ?_
       refine tq 1 (some 34) #[true, true, false, false, false, false, false, false, false, false, false, false, false, false, false, false, false, false, false, false] HT_ HW_ hHeld ?_
       refine tq 2 (some 35) #[true, true, true, false, false, false, false, false, false, false, false, false, false, false, false, false, false, false, false, false] HT_ HW_ hHeld ?_
       refine tq 4 (some 37) #[true, true, true, false, true, false, false, false, false, false, false, false, false, false, false, false, false, false, false, false] HT_ HW_ hHeld ?_
       refine tq 5 (some 38) #[true, true, true, false, true, true, false, false, false, false, false, false, false, false, false, false, false, false, false, false] HT_ HW_ hHeld ?_
       refine one_ (i := 3) (N := some 36) #[true, true, true, true, true, true, false, false, false, false, false, false, false, false, false, false, false, false, false, false] rfl rfl (one_of HT_.out (by kernel_rfl)) (by decide) (fun K hK => ?_)
       refine goes_ Try.func64 (by kernel_rfl) rfl #[.agg #[], .agg #[.int .i64 a0_0, .slice A0_1 l0_1.length c0_1], .agg #[.int .i64 a1_0, .slice A1_1 l1_1.length c1_1]] (by rfl) rfl rfl lu ?_
       with_reducible refine (semiring_Leasts_Add.calls kj5  a0_0 _ _ l0_1 a1_0 _ _ l1_1 b2 b3 _ ?side1 ?side2 ?side3 ?side4 hc.out).mono ?_
       (case side1 => exact cu (Kd.V_reads' aa.out).2.2)
       (case side2 => exact (Kd.V_reads' aa.out).2.1)
       (case side3 => exact cu (Kd.V_reads' ab.out).2.2)
       (case side4 => exact (Kd.V_reads' ab.out).2.1)
       rintro e iS ⟨fM, rfl, ax, hb⟩
       refine ⟨_, rfl, ?_⟩
       replace aa := kv aa hb
       replace ab := kv ab hb
       replace ae := kv ae hb
       have aG := ar0 w.heap.size (ok' := fun k_ => ((P0_1_ k_ ∨ P1_1_ k_ ∨ P2_1_ k_) ∨ w.heap.size ≤ k_) ∧ k_ ≠ al ∧ k_ ≠ an ∧ k_ ≠ ao ∧ k_ ≠ ap) ax (fa (fz4 HB ah ai aj ak) (fa (fb ac) (fa (fb ad) (fa (fb af) (fb ag)))))
       replace ac := kb ac hb
       replace ad := kb ad hb
       replace af := kb af hb
       replace ag := kb ag hb
       replace HB := be4 HB ah ai aj ak hb
       (try clear hb)
       (try clear hb2)
       (try clear hk)
       (try clear hi)
       (try clear ax)
       refine hK.out _ _ ⟨bc ac 0, bc ac 1, bc ad 0, bc ad 1⟩ (fun hHeld => ?_)
       clear hK K
       refine nq 36 ?_
       refine one_ (i := 6) (N := some 39) #[true, true, true, true, true, true, true, false, false, false, false, false, false, false, false, false, false, false, false, false] rfl rfl (one_of HT_.out (by kernel_rfl)) (by decide) (fun K hK => ?_)
       refine goes_ Try.func65 (by kernel_rfl) rfl #[.agg #[.int .i64 a0_0, .slice A0_1 l0_1.length c0_1], .agg #[.int .i64 a1_0, .slice A1_1 l1_1.length c1_1]] (by rfl) rfl rfl lu ?_
       with_reducible refine (codewrightref46_LeastAdd.calls kj5 a0_0 _ _ l0_1 a1_0 _ _ l1_1 b4 b5 _ ?side1 ?side2 ?side3 ?side4 he.out).mono ?_
       (case side1 => exact cu (Kd.V_reads' aa.out).2.2)
       (case side2 => exact (Kd.V_reads' aa.out).2.1)
       (case side3 => exact cu (Kd.V_reads' ab.out).2.2)
       (case side4 => exact (Kd.V_reads' ab.out).2.1)
       rintro e iT ⟨fN, rfl, ax, hb⟩
       refine ⟨_, rfl, ?_⟩
       replace aa := kv aa hb
       replace ab := kv ab hb
       replace ae := kv ae hb
       replace aG := kv aG hb
       have aL := ar0 w.heap.size (ok' := fun k_ => ((P0_1_ k_ ∨ P1_1_ k_ ∨ P2_1_ k_) ∨ w.heap.size ≤ k_) ∧ k_ ≠ al ∧ k_ ≠ an ∧ k_ ≠ ao ∧ k_ ≠ ap) ax (fa (fz4 HB ah ai aj ak) (fa (fb ac) (fa (fb ad) (fa (fb af) (fb ag)))))
       replace ac := kb ac hb
       replace ad := kb ad hb
       replace af := kb af hb
       replace ag := kb ag hb
       replace HB := be4 HB ah ai aj ak hb
       (try clear hb)
       (try clear hb2)
       (try clear hk)
       (try clear hi)
       (try clear ax)
       obtain ⟨fO, fP, d8⟩ := Kd.V_slice aG.out
       (first | subst d8 | (injection d8 with f1_ f2_ f3_; have f4_ := f1_.symm; have f5_ := f3_.symm; clear f1_ f2_ f3_; subst f4_; subst f5_))
       obtain ⟨fQ, fR, d9⟩ := Kd.V_slice aL.out
       (first | subst d9 | (injection d9 with f1_ f2_ f3_; have f4_ := f1_.symm; have f5_ := f3_.symm; clear f1_ f2_ f3_; subst f4_; subst f5_))
       refine hK.out _ _ ⟨bc ac 0, bc ac 1, bc ad 0, bc ad 1⟩ (fun hHeld => ?_)
       clear hK K
       refine nq 39 ?_
       refine one_ (i := 7) (N := some 40) #[true, true, true, true, true, true, true, true, false, false, false, false, false, false, false, false, false, false, false, false] rfl rfl (one_of HT_.out (by kernel_rfl)) (by decide) (fun K hK => ?_)
       refine goes_ Try.func60 (by kernel_rfl) rfl #[.agg #[.int .i64 b2, .slice fO b3.length fP], .agg #[.int .i64 b4, .slice fQ b5.length fR]] (by rfl) rfl rfl lu ?_
       with_reducible refine (codewrightref46_SameLeast.calls kj5 b2 _ _ b3 b4 _ _ b5 true _ ?side1 ?side2 ?side3 ?side4 hf.out).mono ?_
       (case side1 => exact cu (Kd.V_reads' aG.out).2.2)
       (case side2 => exact (Kd.V_reads' aG.out).2.1)
       (case side3 => exact cu (Kd.V_reads' aL.out).2.2)
       (case side4 => exact (Kd.V_reads' aL.out).2.1)
       rintro e iU ⟨rfl, hb⟩
       refine ⟨_, rfl, ?_⟩
       replace aa := kv aa hb
       replace ab := kv ab hb
       replace ae := kv ae hb
       replace aG := kv aG hb
       replace aL := kv aL hb
       replace ac := kb ac hb
       replace ad := kb ad hb
       replace af := kb af hb
       replace ag := kb ag hb
       replace HB := be4 HB ah ai aj ak hb
       (try clear hb)
       (try clear hb2)
       (try clear hk)
       (try clear hi)
       refine hK.out _ _ ⟨bc ac 0, bc ac 1, bc ad 0, bc ad 1⟩ (fun hHeld => ?_)
       clear hK K
       refine nq 40 ?_
       refine pq 8 (some 41) #[true, true, true, true, true, true, true, true, true, false, false, false, false, false, false, false, false, false, false, false] HT_ ?_
       refine pq 9 (some 42) #[true, true, true, true, true, true, true, true, true, true, false, false, false, false, false, false, false, false, false, false] HT_ ?_
       refine tq 10 (some 43) #[true, true, true, true, true, true, true, true, true, true, true, false, false, false, false, false, false, false, false, false] HT_ HW_ hHeld ?_
       refine tq 11 (some 44) #[true, true, true, true, true, true, true, true, true, true, true, true, false, false, false, false, false, false, false, false] HT_ HW_ hHeld ?_
       refine tq 12 (some 45) #[true, true, true, true, true, true, true, true, true, true, true, true, true, false, false, false, false, false, false, false] HT_ HW_ hHeld ?_
       refine tq 14 (some 47) #[true, true, true, true, true, true, true, true, true, true, true, true, true, false, true, false, false, false, false, false] HT_ HW_ hHeld ?_
       refine tq 15 (some 48) #[true, true, true, true, true, true, true, true, true, true, true, true, true, false, true, true, false, false, false, false] HT_ HW_ hHeld ?_
       refine one_ (i := 13) (N := some 46) #[true, true, true, true, true, true, true, true, true, true, true, true, true, true, true, true, false, false, false, false] rfl rfl (one_of HT_.out (by kernel_rfl)) (by decide) (fun K hK => ?_)
       refine goes_ Try.func66 (by kernel_rfl) rfl #[.agg #[], .agg #[.int .i64 a0_0, .slice A0_1 l0_1.length c0_1], .agg #[.int .i64 a1_0, .slice A1_1 l1_1.length c1_1]] (by rfl) rfl rfl lu ?_
       with_reducible refine (semiring_Leasts_Mul.calls kj5  a0_0 _ _ l0_1 a1_0 _ _ l1_1 dl dm _ ?side1 ?side2 ?side3 ?side4 hC.out).mono ?_
       (case side1 => exact cu (Kd.V_reads' aa.out).2.2)
       (case side2 => exact (Kd.V_reads' aa.out).2.1)
       (case side3 => exact cu (Kd.V_reads' ab.out).2.2)
       (case side4 => exact (Kd.V_reads' ab.out).2.1)
       rintro e iV ⟨hF, rfl, ax, hb⟩
       refine ⟨_, rfl, ?_⟩
       replace aa := kv aa hb
       replace ab := kv ab hb
       replace ae := kv ae hb
       replace aG := kv aG hb
       replace aL := kv aL hb
       have bh := ar0 w.heap.size (ok' := fun k_ => ((P0_1_ k_ ∨ P1_1_ k_ ∨ P2_1_ k_) ∨ w.heap.size ≤ k_) ∧ k_ ≠ al ∧ k_ ≠ an ∧ k_ ≠ ao ∧ k_ ≠ ap) ax (fa (fz4 HB ah ai aj ak) (fa (fb ac) (fa (fb ad) (fa (fb af) (fb ag)))))
       replace ac := kb ac hb
       replace ad := kb ad hb
       replace af := kb af hb
       replace ag := kb ag hb
       replace HB := be4 HB ah ai aj ak hb
       (try clear hb)
       (try clear hb2)
       (try clear hk)
       (try clear hi)
       (try clear ax)
       refine hK.out _ _ ⟨bc ac 0, bc ac 1, bc ad 0, bc ad 1⟩ (fun hHeld => ?_)
       clear hK K
       refine nq 46 ?_
       refine one_ (i := 16) (N := some 49) #[true, true, true, true, true, true, true, true, true, true, true, true, true, true, true, true, true, false, false, false] rfl rfl (one_of HT_.out (by kernel_rfl)) (by decide) (fun K hK => ?_)
       refine goes_ Try.func67 (by kernel_rfl) rfl #[.agg #[.int .i64 a0_0, .slice A0_1 l0_1.length c0_1], .agg #[.int .i64 a1_0, .slice A1_1 l1_1.length c1_1]] (by rfl) rfl rfl lu ?_
       with_reducible refine (codewrightref46_LeastMul.calls kj5 a0_0 _ _ l0_1 a1_0 _ _ l1_1 dn dp _ ?side1 ?side2 ?side3 ?side4 hD.out).mono ?_
       (case side1 => exact cu (Kd.V_reads' aa.out).2.2)
       (case side2 => exact (Kd.V_reads' aa.out).2.1)
       (case side3 => exact cu (Kd.V_reads' ab.out).2.2)
       (case side4 => exact (Kd.V_reads' ab.out).2.1)
       rintro e iW ⟨hG, rfl, ax, hb⟩
       refine ⟨_, rfl, ?_⟩
       replace aa := kv aa hb
       replace ab := kv ab hb
       replace ae := kv ae hb
       replace aG := kv aG hb
       replace aL := kv aL hb
       replace bh := kv bh hb
       have bE := ar0 w.heap.size (ok' := fun k_ => ((P0_1_ k_ ∨ P1_1_ k_ ∨ P2_1_ k_) ∨ w.heap.size ≤ k_) ∧ k_ ≠ al ∧ k_ ≠ an ∧ k_ ≠ ao ∧ k_ ≠ ap) ax (fa (fz4 HB ah ai aj ak) (fa (fb ac) (fa (fb ad) (fa (fb af) (fb ag)))))
       replace ac := kb ac hb
       replace ad := kb ad hb
       replace af := kb af hb
       replace ag := kb ag hb
       replace HB := be4 HB ah ai aj ak hb
       (try clear hb)
       (try clear hb2)
       (try clear hk)
       (try clear hi)
       (try clear ax)
       obtain ⟨fS, fT, ea⟩ := Kd.V_slice bh.out
       (first | subst ea | (injection ea with f1_ f2_ f3_; have f4_ := f1_.symm; have f5_ := f3_.symm; clear f1_ f2_ f3_; subst f4_; subst f5_))
       obtain ⟨fU, fV, eb⟩ := Kd.V_slice bE.out
       (first | subst eb | (injection eb with f1_ f2_ f3_; have f4_ := f1_.symm; have f5_ := f3_.symm; clear f1_ f2_ f3_; subst f4_; subst f5_))
       refine hK.out _ _ ⟨bc ac 0, bc ac 1, bc ad 0, bc ad 1⟩ (fun hHeld => ?_)
       clear hK K
       refine nq 49 ?_
       refine one_ (i := 17) (N := some 50) #[true, true, true, true, true, true, true, true, true, true, true, true, true, true, true, true, true, true, false, false] rfl rfl (one_of HT_.out (by kernel_rfl)) (by decide) (fun K hK => ?_)
       refine goes_ Try.func60 (by kernel_rfl) rfl #[.agg #[.int .i64 dl, .slice fS dm.length fT], .agg #[.int .i64 dn, .slice fU dp.length fV]] (by rfl) rfl rfl lu ?_
       with_reducible refine (codewrightref46_SameLeast.calls kj5 dl _ _ dm dn _ _ dp bP _ ?side1 ?side2 ?side3 ?side4 hE.out).mono ?_
       (case side1 => exact cu (Kd.V_reads' bh.out).2.2)
       (case side2 => exact (Kd.V_reads' bh.out).2.1)
       (case side3 => exact cu (Kd.V_reads' bE.out).2.2)
       (case side4 => exact (Kd.V_reads' bE.out).2.1)
       rintro e iX ⟨rfl, hb⟩
       refine ⟨_, rfl, ?_⟩
       replace aa := kv aa hb
       replace ab := kv ab hb
       replace ae := kv ae hb
       replace aG := kv aG hb
       replace aL := kv aL hb
       replace bh := kv bh hb
       replace bE := kv bE hb
       replace ac := kb ac hb
       replace ad := kb ad hb
       replace af := kb af hb
       replace ag := kb ag hb
       replace HB := be4 HB ah ai aj ak hb
       (try clear hb)
       (try clear hb2)
       (try clear hk)
       (try clear hi)
       refine hK.out _ _ ⟨bc ac 0, bc ac 1, bc ad 0, bc ad 1⟩ (fun hHeld => ?_)
       clear hK K
       refine nq 50 ?_
       refine pq 18 (some 51) #[true, true, true, true, true, true, true, true, true, true, true, true, true, true, true, true, true, true, true, false] HT_ ?_
       refine pq 19 (some 52) #[true, true, true, true, true, true, true, true, true, true, true, true, true, true, true, true, true, true, true, true] HT_ ?_
       refine done_ (done_of HT_.out (by kernel_rfl)) ?_
       try go_wp2
       go_meet
       case rel => exact ⟨_, (!bP), (by first | rfl | (simp; done) | (simp [*]; done) | (cases bP <;> first | rfl | (simp; done))), H', ⟨by have := HJ5.out; first | omega | exact Nat.le_refl _⟩, ⟨by (with_reducible repeat (first | apply Kd.V_alloc | apply Kd.V_drewN | apply Kd.V_drew)); exact aa.out⟩, ⟨by (with_reducible repeat (first | apply Kd.V_alloc | apply Kd.V_drewN | apply Kd.V_drew)); exact ab.out⟩, ⟨by (with_reducible repeat (first | apply Kd.V_alloc | apply Kd.V_drewN | apply Kd.V_drew)); exact ae.out⟩, ⟨by (with_reducible repeat (first | refine blk_drewN ?_ _ | refine blk_drew ?_ | refine blk_alloc ?_ _)); exact ac.out⟩, ⟨by (with_reducible repeat (first | refine blk_drewN ?_ _ | refine blk_drew ?_ | refine blk_alloc ?_ _)); exact ad.out⟩, ⟨by (with_reducible repeat (first | refine blk_drewN ?_ _ | refine blk_drew ?_ | refine blk_alloc ?_ _)); exact af.out⟩, ⟨by (with_reducible repeat (first | refine blk_drewN ?_ _ | refine blk_drew ?_ | refine blk_alloc ?_ _)); exact ag.out⟩, ⟨by repeat (first | (with_reducible first | exact HB.out | apply below_alloc | apply pw_below_drewN | apply below_drew1 | refine below_set ?_ ah.out | refine below_set ?_ ai.out | refine below_set ?_ aj.out | refine below_set ?_ ak.out) | exact HB.out)⟩⟩
      ·
       replace d7 := Bool.eq_false_iff.mpr d7
       subst d7
       have H1 : (codewrightlaw46_SemiringLeasts.j1 kj5 true a0_0 l0_1 a1_0 l1_1 a2_0 l2_1) = some r := by rw [if_neg (show ¬ (false = true) by decide)] at H; exact H
       clear H
       have H := H1
       clear H1
       have H' := am H
       clear H
       try go_wp2
       replace aa := am (Kd.V_drew aa.out)
       replace ab := am (Kd.V_drew ab.out)
       replace ae := am (Kd.V_drew ae.out)
       replace ac := am (blk_drew ac.out)
       replace ad := am (blk_drew ad.out)
       replace af := am (blk_drew af.out)
       replace ag := am (blk_drew ag.out)
       replace HB := am (below_drew1 HB.out)
       refine start_ (n := 20) (S := fun w' => w'.cell? ⟨al, 0, none⟩ = some (.int .i64 a0_0) ∧ w'.cell? ⟨al, 1, none⟩ = some (.slice A0_1 l0_1.length c0_1) ∧ w'.cell? ⟨an, 0, none⟩ = some (.int .i64 a1_0) ∧ w'.cell? ⟨an, 1, none⟩ = some (.slice A1_1 l1_1.length c1_1)) (ds := []) #[false, false, false, false, false, false, false, false, false, false, false, false, false, false, false, false, false, false, false, false] (by kernel_rfl) rfl rfl ⟨bc ac 0, bc ac 1, bc ad 0, bc ad 1⟩ (fun hHeld => ?_); refine with_tabW codewrightlaw46_SemiringLeasts.tab6 codewrightlaw46_SemiringLeasts.bits6 (fun HT_ HW_ => ?_)
       generalize wc.drew = iY at aa ab ae ac ad af ag HB hHeld ⊢
       refine tq 0 (some 33) #[true, false, false, false, false, false, false, false, false, false, false, false, false, false, false, false, false, false, false, false] HT_ HW_ hHeld ?_
       refine tq 1 (some 34) #[true, true, false, false, false, false, false, false, false, false, false, false, false, false, false, false, false, false, false, false] HT_ HW_ hHeld ?_
       refine tq 2 (some 35) #[true, true, true, false, false, false, false, false, false, false, false, false, false, false, false, false, false, false, false, false] HT_ HW_ hHeld ?_
       refine tq 4 (some 37) #[true, true, true, false, true, false, false, false, false, false, false, false, false, false, false, false, false, false, false, false] HT_ HW_ hHeld ?_
       refine tq 5 (some 38) #[true, true, true, false, true, true, false, false, false, false, false, false, false, false, false, false, false, false, false, false] HT_ HW_ hHeld ?_
       refine one_ (i := 3) (N := some 36) #[true, true, true, true, true, true, false, false, false, false, false, false, false, false, false, false, false, false, false, false] rfl rfl (one_of HT_.out (by kernel_rfl)) (by decide) (fun K hK => ?_)
       refine goes_ Try.func64 (by kernel_rfl) rfl #[.agg #[], .agg #[.int .i64 a0_0, .slice A0_1 l0_1.length c0_1], .agg #[.int .i64 a1_0, .slice A1_1 l1_1.length c1_1]] (by rfl) rfl rfl lu ?_
       with_reducible refine (semiring_Leasts_Add.calls kj5  a0_0 _ _ l0_1 a1_0 _ _ l1_1 b2 b3 _ ?side1 ?side2 ?side3 ?side4 hc.out).mono ?_
       (case side1 => exact cu (Kd.V_reads' aa.out).2.2)
       (case side2 => exact (Kd.V_reads' aa.out).2.1)
       (case side3 => exact cu (Kd.V_reads' ab.out).2.2)
       (case side4 => exact (Kd.V_reads' ab.out).2.1)
       rintro e iZ ⟨fM, rfl, ax, hb⟩
       refine ⟨_, rfl, ?_⟩
       replace aa := kv aa hb
       replace ab := kv ab hb
       replace ae := kv ae hb
       have aG := ar0 w.heap.size (ok' := fun k_ => ((P0_1_ k_ ∨ P1_1_ k_ ∨ P2_1_ k_) ∨ w.heap.size ≤ k_) ∧ k_ ≠ al ∧ k_ ≠ an ∧ k_ ≠ ao ∧ k_ ≠ ap) ax (fa (fz4 HB ah ai aj ak) (fa (fb ac) (fa (fb ad) (fa (fb af) (fb ag)))))
       replace ac := kb ac hb
       replace ad := kb ad hb
       replace af := kb af hb
       replace ag := kb ag hb
       replace HB := be4 HB ah ai aj ak hb
       (try clear hb)
       (try clear hb2)
       (try clear hk)
       (try clear hi)
       (try clear ax)
       refine hK.out _ _ ⟨bc ac 0, bc ac 1, bc ad 0, bc ad 1⟩ (fun hHeld => ?_)
       clear hK K
       refine nq 36 ?_
       refine one_ (i := 6) (N := some 39) #[true, true, true, true, true, true, true, false, false, false, false, false, false, false, false, false, false, false, false, false] rfl rfl (one_of HT_.out (by kernel_rfl)) (by decide) (fun K hK => ?_)
       refine goes_ Try.func65 (by kernel_rfl) rfl #[.agg #[.int .i64 a0_0, .slice A0_1 l0_1.length c0_1], .agg #[.int .i64 a1_0, .slice A1_1 l1_1.length c1_1]] (by rfl) rfl rfl lu ?_
       with_reducible refine (codewrightref46_LeastAdd.calls kj5 a0_0 _ _ l0_1 a1_0 _ _ l1_1 b4 b5 _ ?side1 ?side2 ?side3 ?side4 he.out).mono ?_
       (case side1 => exact cu (Kd.V_reads' aa.out).2.2)
       (case side2 => exact (Kd.V_reads' aa.out).2.1)
       (case side3 => exact cu (Kd.V_reads' ab.out).2.2)
       (case side4 => exact (Kd.V_reads' ab.out).2.1)
       rintro e i0 ⟨fN, rfl, ax, hb⟩
       refine ⟨_, rfl, ?_⟩
       replace aa := kv aa hb
       replace ab := kv ab hb
       replace ae := kv ae hb
       replace aG := kv aG hb
       have aL := ar0 w.heap.size (ok' := fun k_ => ((P0_1_ k_ ∨ P1_1_ k_ ∨ P2_1_ k_) ∨ w.heap.size ≤ k_) ∧ k_ ≠ al ∧ k_ ≠ an ∧ k_ ≠ ao ∧ k_ ≠ ap) ax (fa (fz4 HB ah ai aj ak) (fa (fb ac) (fa (fb ad) (fa (fb af) (fb ag)))))
       replace ac := kb ac hb
       replace ad := kb ad hb
       replace af := kb af hb
       replace ag := kb ag hb
       replace HB := be4 HB ah ai aj ak hb
       (try clear hb)
       (try clear hb2)
       (try clear hk)
       (try clear hi)
       (try clear ax)
       obtain ⟨fW, fX, ec⟩ := Kd.V_slice aG.out
       (first | subst ec | (injection ec with f1_ f2_ f3_; have f4_ := f1_.symm; have f5_ := f3_.symm; clear f1_ f2_ f3_; subst f4_; subst f5_))
       obtain ⟨fY, fZ, ed⟩ := Kd.V_slice aL.out
       (first | subst ed | (injection ed with f1_ f2_ f3_; have f4_ := f1_.symm; have f5_ := f3_.symm; clear f1_ f2_ f3_; subst f4_; subst f5_))
       refine hK.out _ _ ⟨bc ac 0, bc ac 1, bc ad 0, bc ad 1⟩ (fun hHeld => ?_)
       clear hK K
       refine nq 39 ?_
       refine one_ (i := 7) (N := some 40) #[true, true, true, true, true, true, true, true, false, false, false, false, false, false, false, false, false, false, false, false] rfl rfl (one_of HT_.out (by kernel_rfl)) (by decide) (fun K hK => ?_)
       refine goes_ Try.func60 (by kernel_rfl) rfl #[.agg #[.int .i64 b2, .slice fW b3.length fX], .agg #[.int .i64 b4, .slice fY b5.length fZ]] (by rfl) rfl rfl lu ?_
       with_reducible refine (codewrightref46_SameLeast.calls kj5 b2 _ _ b3 b4 _ _ b5 false _ ?side1 ?side2 ?side3 ?side4 hf.out).mono ?_
       (case side1 => exact cu (Kd.V_reads' aG.out).2.2)
       (case side2 => exact (Kd.V_reads' aG.out).2.1)
       (case side3 => exact cu (Kd.V_reads' aL.out).2.2)
       (case side4 => exact (Kd.V_reads' aL.out).2.1)
       rintro e i1 ⟨rfl, hb⟩
       refine ⟨_, rfl, ?_⟩
       replace aa := kv aa hb
       replace ab := kv ab hb
       replace ae := kv ae hb
       replace aG := kv aG hb
       replace aL := kv aL hb
       replace ac := kb ac hb
       replace ad := kb ad hb
       replace af := kb af hb
       replace ag := kb ag hb
       replace HB := be4 HB ah ai aj ak hb
       (try clear hb)
       (try clear hb2)
       (try clear hk)
       (try clear hi)
       refine hK.out _ _ ⟨bc ac 0, bc ac 1, bc ad 0, bc ad 1⟩ (fun hHeld => ?_)
       clear hK K
       refine nq 40 ?_
       refine pq 8 (some 41) #[true, true, true, true, true, true, true, true, true, false, false, false, false, false, false, false, false, false, false, false] HT_ ?_
       refine pq 9 (some 42) #[true, true, true, true, true, true, true, true, true, true, false, false, false, false, false, false, false, false, false, false] HT_ ?_
       refine pure_ (i := 10) (N := some 43) (v := undef) (a' := ?_) #[true, true, true, true, true, true, true, true, true, true, true, false, false, false, false, false, false, false, false, false] rfl rfl (any_of HT_.out (by kernel_rfl)) (fun _ _ _ h => h) (Or.inr ⟨by rfl, rfl⟩) ?_ ?_
       rotate_left
       ·
        simp only [Act.put, List.setIfInBounds_toArray, List.set_cons_zero, List.set_cons_succ, i64_w, i32_w]
        rfl
       refine pure_ (i := 11) (N := some 44) (v := undef) (a' := ?_) #[true, true, true, true, true, true, true, true, true, true, true, true, false, false, false, false, false, false, false, false] rfl rfl (any_of HT_.out (by kernel_rfl)) (fun _ _ _ h => h) (Or.inr ⟨by rfl, rfl⟩) ?_ ?_
       rotate_left
       ·
        simp only [Act.put, List.setIfInBounds_toArray, List.set_cons_zero, List.set_cons_succ, i64_w, i32_w]
        rfl
       refine pure_ (i := 12) (N := some 45) (v := undef) (a' := ?_) #[true, true, true, true, true, true, true, true, true, true, true, true, true, false, false, false, false, false, false, false] rfl rfl (any_of HT_.out (by kernel_rfl)) (fun _ _ _ h => h) (Or.inr ⟨by rfl, rfl⟩) ?_ ?_
       rotate_left
       ·
        simp only [Act.put, List.setIfInBounds_toArray, List.set_cons_zero, List.set_cons_succ, i64_w, i32_w]
        rfl
       refine pure_ (i := 13) (N := some 46) (v := undef) (a' := ?_) #[true, true, true, true, true, true, true, true, true, true, true, true, true, true, false, false, false, false, false, false] rfl rfl (any_of HT_.out (by kernel_rfl)) (fun _ _ _ h => h) (Or.inr ⟨by rfl, rfl⟩) ?_ ?_
       rotate_left
       ·
        simp only [Act.put, List.setIfInBounds_toArray, List.set_cons_zero, List.set_cons_succ, i64_w, i32_w]
        rfl
       refine pure_ (i := 14) (N := some 47) (v := undef) (a' := ?_) #[true, true, true, true, true, true, true, true, true, true, true, true, true, true, true, false, false, false, false, false] rfl rfl (any_of HT_.out (by kernel_rfl)) (fun _ _ _ h => h) (Or.inr ⟨by rfl, rfl⟩) ?_ ?_
       rotate_left
       ·
        simp only [Act.put, List.setIfInBounds_toArray, List.set_cons_zero, List.set_cons_succ, i64_w, i32_w]
        rfl
       refine pure_ (i := 15) (N := some 48) (v := undef) (a' := ?_) #[true, true, true, true, true, true, true, true, true, true, true, true, true, true, true, true, false, false, false, false] rfl rfl (any_of HT_.out (by kernel_rfl)) (fun _ _ _ h => h) (Or.inr ⟨by rfl, rfl⟩) ?_ ?_
       rotate_left
       ·
        simp only [Act.put, List.setIfInBounds_toArray, List.set_cons_zero, List.set_cons_succ, i64_w, i32_w]
        rfl
       refine pure_ (i := 16) (N := some 49) (v := undef) (a' := ?_) #[true, true, true, true, true, true, true, true, true, true, true, true, true, true, true, true, true, false, false, false] rfl rfl (any_of HT_.out (by kernel_rfl)) (fun _ _ _ h => h) (Or.inr ⟨by rfl, rfl⟩) ?_ ?_
       rotate_left
       ·
        simp only [Act.put, List.setIfInBounds_toArray, List.set_cons_zero, List.set_cons_succ, i64_w, i32_w]
        rfl
       refine pure_ (i := 17) (N := some 50) (v := undef) (a' := ?_) #[true, true, true, true, true, true, true, true, true, true, true, true, true, true, true, true, true, true, false, false] rfl rfl (any_of HT_.out (by kernel_rfl)) (fun _ _ _ h => h) (Or.inr ⟨by rfl, rfl⟩) ?_ ?_
       rotate_left
       ·
        simp only [Act.put, List.setIfInBounds_toArray, List.set_cons_zero, List.set_cons_succ, i64_w, i32_w]
        rfl
       refine pure_ (i := 18) (N := some 51) (v := undef) (a' := ?_) #[true, true, true, true, true, true, true, true, true, true, true, true, true, true, true, true, true, true, true, false] rfl rfl (any_of HT_.out (by kernel_rfl)) (fun _ _ _ h => h) (Or.inr ⟨by rfl, rfl⟩) ?_ ?_
       rotate_left
       ·
        simp only [Act.put, List.setIfInBounds_toArray, List.set_cons_zero, List.set_cons_succ, i64_w, i32_w]
        rfl
       refine pq 19 (some 52) #[true, true, true, true, true, true, true, true, true, true, true, true, true, true, true, true, true, true, true, true] HT_ ?_
       refine done_ (done_of HT_.out (by kernel_rfl)) ?_
       try go_wp2
       go_meet
       case rel => exact ⟨_, (true), (by first | rfl | (simp; done) | (simp [*]; done)), H', ⟨by have := HJ5.out; first | omega | exact Nat.le_refl _⟩, ⟨by (with_reducible repeat (first | apply Kd.V_alloc | apply Kd.V_drewN | apply Kd.V_drew)); exact aa.out⟩, ⟨by (with_reducible repeat (first | apply Kd.V_alloc | apply Kd.V_drewN | apply Kd.V_drew)); exact ab.out⟩, ⟨by (with_reducible repeat (first | apply Kd.V_alloc | apply Kd.V_drewN | apply Kd.V_drew)); exact ae.out⟩, ⟨by (with_reducible repeat (first | refine blk_drewN ?_ _ | refine blk_drew ?_ | refine blk_alloc ?_ _)); exact ac.out⟩, ⟨by (with_reducible repeat (first | refine blk_drewN ?_ _ | refine blk_drew ?_ | refine blk_alloc ?_ _)); exact ad.out⟩, ⟨by (with_reducible repeat (first | refine blk_drewN ?_ _ | refine blk_drew ?_ | refine blk_alloc ?_ _)); exact af.out⟩, ⟨by (with_reducible repeat (first | refine blk_drewN ?_ _ | refine blk_drew ?_ | refine blk_alloc ?_ _)); exact ag.out⟩, ⟨by repeat (first | (with_reducible first | exact HB.out | apply below_alloc | apply pw_below_drewN | apply below_drew1 | refine below_set ?_ ah.out | refine below_set ?_ ai.out | refine below_set ?_ aj.out | refine below_set ?_ ak.out) | exact HB.out)⟩⟩
     case rest =>
      clear dk
      try clear c1
      try clear c2
      try clear p2
      try clear c6
      try clear c60
      try clear d7
      try clear c64
      try clear c65
      try clear c66
      try clear c67
      obtain ⟨kq, bn, rfl, HA, HJ57, aa, ab, ae, ac, ad, af, ag, HB⟩ := hcut
      cases kq with
      | zero => exact absurd HA.out (by simp [codewrightlaw46_SemiringLeasts.j1])
      | succ kj57 =>
       have H := HA.out
       clear HA
       simp only [codewrightlaw46_SemiringLeasts.j1] at H
       by_cases fn : bn = true
       ·
        subst fn
        have H1 : (none) = some r := by rw [if_pos rfl] at H; exact H
        clear H
        have H := H1
        clear H1
        exact absurd H (by simp)
       ·
        replace fn := Bool.eq_false_iff.mpr fn
        subst fn
        have H1 : ((semiring_Leasts_Same.f kj57 a0_0 l0_1 a1_0 l1_1).bind fun a4 => ((codewrightref46_Least.f kj57 a0_0 l0_1).bind fun cC => ((codewrightref46_Least.f kj57 a1_0 l1_1).bind fun cD => ((codewrightref46_SameLeast.f kj57 cC.1 cC.2 cD.1 cD.2).bind fun a5 => (if (a4 != a5) = true then (codewrightlaw46_SemiringLeasts.j2 kj57 true a0_0 l0_1 a1_0 l1_1 a2_0 l2_1) else ((semiring_Leasts_Zero.f).bind fun cE => ((semiring_Leasts_Add.f kj57 a0_0 l0_1 cE.1 cE.2).bind fun cF => ((semiring_Leasts_Same.f kj57 cF.1 cF.2 a0_0 l0_1).bind fun dq => (if dq = true then ((semiring_Leasts_One.f kj57).bind fun bF => ((semiring_Leasts_Mul.f kj57 a0_0 l0_1 bF.1 bF.2).bind fun bG => ((semiring_Leasts_Same.f kj57 bG.1 bG.2 a0_0 l0_1).bind fun bQ => (codewrightlaw46_SemiringLeasts.j2 kj57 (!bQ) a0_0 l0_1 a1_0 l1_1 a2_0 l2_1)))) else (codewrightlaw46_SemiringLeasts.j2 kj57 true a0_0 l0_1 a1_0 l1_1 a2_0 l2_1)))))))))) = some r := by rw [if_neg (show ¬ (false = true) by decide)] at H; exact H
        clear H
        have H := H1
        clear H1
        have dr := am H
        clear H
        go_upto_region 8 with (fail)
        go_cut [84] (fun hH wc => ∃ (kq : Nat) (bo : Bool), hH = .bool bo ∧ Aside0 (codewrightlaw46_SemiringLeasts.j2 kq bo a0_0 l0_1 a1_0 l1_1 a2_0 l2_1 = some r) ∧ Aside0 (kq ≤ kj57) ∧ Aside0 (Kd.V (Kd.int .u32) 48 wc w.heap.size (fun k_ => ((P0_1_ k_ ∨ P1_1_ k_ ∨ P2_1_ k_) ∨ w.heap.size ≤ k_) ∧ k_ ≠ al ∧ k_ ≠ an ∧ k_ ≠ ao ∧ k_ ≠ ap) (.slice A0_1 l0_1.length c0_1) l0_1) ∧ Aside0 (Kd.V (Kd.int .u32) 48 wc w.heap.size (fun k_ => ((P0_1_ k_ ∨ P1_1_ k_ ∨ P2_1_ k_) ∨ w.heap.size ≤ k_) ∧ k_ ≠ al ∧ k_ ≠ an ∧ k_ ≠ ao ∧ k_ ≠ ap) (.slice A1_1 l1_1.length c1_1) l1_1) ∧ Aside0 (Kd.V (Kd.int .u32) 48 wc w.heap.size (fun k_ => ((P0_1_ k_ ∨ P1_1_ k_ ∨ P2_1_ k_) ∨ w.heap.size ≤ k_) ∧ k_ ≠ al ∧ k_ ≠ an ∧ k_ ≠ ao ∧ k_ ≠ ap) (.slice A2_1 l2_1.length c2_1) l2_1) ∧ Aside0 (wc.heap[al]? = some (.cells #[.int .i64 a0_0, (.slice A0_1 l0_1.length c0_1)] 53 (0, 0))) ∧ Aside0 (wc.heap[an]? = some (.cells #[.int .i64 a1_0, (.slice A1_1 l1_1.length c1_1)] 53 (0, 0))) ∧ Aside0 (wc.heap[ao]? = some (.cells #[.int .i64 a2_0, (.slice A2_1 l2_1.length c2_1)] 53 (0, 0))) ∧ Aside0 (wc.heap[ap]? = some (.cells #[] 54 (0, 0))) ∧ Aside0 (Below w.heap.size w wc))
        case first =>
         have H := dr.out
         clear dr
         obtain ⟨a4, f1, H⟩ := bs H
         (try dsimp -simprocs only at H)
         obtain ⟨⟨bp, bq⟩, f2, H⟩ := bs H
         (try dsimp -simprocs only at H)
         obtain ⟨⟨br, bv⟩, f3, H⟩ := bs H
         (try dsimp -simprocs only at H)
         obtain ⟨a5, f4, H⟩ := bs H
         (try dsimp -simprocs only at H)
         by_cases ce : (a4 != a5) = true
         ·
          rw [if_pos ce] at H
          have bH : (a4 != a5) = true := ce
          (try (have cf : decide (a4 = a5) = false := by simpa using ce))
          (try (have ee : (a4 == a5) = false := by simpa using ce))
          (try (have hh : ¬ (a4 = a5) := by simpa using ce))
          clear ce
          (first | rw [bH] | rw [cf] | (simp only [i64_w, i32_w]; rw [bH]) | skip)
          have H' := am H
          clear H
          try go_wp2
          replace aa := am (Kd.V_drew aa.out)
          replace ab := am (Kd.V_drew ab.out)
          replace ae := am (Kd.V_drew ae.out)
          replace ac := am (blk_drew ac.out)
          replace ad := am (blk_drew ad.out)
          replace af := am (blk_drew af.out)
          replace ag := am (blk_drew ag.out)
          replace HB := am (below_drew1 HB.out)
          refine start_ (n := 32) (S := fun w' => w'.cell? ⟨al, 0, none⟩ = some (.int .i64 a0_0) ∧ w'.cell? ⟨al, 1, none⟩ = some (.slice A0_1 l0_1.length c0_1) ∧ w'.cell? ⟨an, 0, none⟩ = some (.int .i64 a1_0) ∧ w'.cell? ⟨an, 1, none⟩ = some (.slice A1_1 l1_1.length c1_1)) (ds := []) #[false, false, false, false, false, false, false, false, false, false, false, false, false, false, false, false, false, false, false, false, false, false, false, false, false, false, false, false, false, false, false, false] (by kernel_rfl) rfl rfl ⟨bc ac 0, bc ac 1, bc ad 0, bc ad 1⟩ (fun hHeld => ?_); refine with_tabW codewrightlaw46_SemiringLeasts.tab8 codewrightlaw46_SemiringLeasts.bits8 (fun HT_ HW_ => ?_)
          generalize wc.drew = i2 at aa ab ae ac ad af ag HB hHeld ⊢
          refine tq 0 (some 53) #[true, false, false, false, false, false, false, false, false, false, false, false, false, false, false, false, false, false, false, false, false, false, false, false, false, false, false, false, false, false, false, false] HT_ HW_ hHeld ?_
          refine tq 1 (some 54) #[true, true, false, false, false, false, false, false, false, false, false, false, false, false, false, false, false, false, false, false, false, false, false, false, false, false, false, false, false, false, false, false] HT_ HW_ hHeld ?_
          refine tq 2 (some 55) #[true, true, true, false, false, false, false, false, false, false, false, false, false, false, false, false, false, false, false, false, false, false, false, false, false, false, false, false, false, false, false, false] HT_ HW_ hHeld ?_
          refine tq 4 (some 57) #[true, true, true, false, true, false, false, false, false, false, false, false, false, false, false, false, false, false, false, false, false, false, false, false, false, false, false, false, false, false, false, false] HT_ HW_ hHeld ?_
          refine tq 6 (some 59) #[true, true, true, false, true, false, true, false, false, false, false, false, false, false, false, false, false, false, false, false, false, false, false, false, false, false, false, false, false, false, false, false] HT_ HW_ hHeld ?_
          refine one_ (i := 3) (N := some 56) #[true, true, true, true, true, false, true, false, false, false, false, false, false, false, false, false, false, false, false, false, false, false, false, false, false, false, false, false, false, false, false, false] rfl rfl (one_of HT_.out (by kernel_rfl)) (by decide) (fun K hK => ?_)
          refine goes_ Try.func68 (by kernel_rfl) rfl #[.agg #[], .agg #[.int .i64 a0_0, .slice A0_1 l0_1.length c0_1], .agg #[.int .i64 a1_0, .slice A1_1 l1_1.length c1_1]] (by rfl) rfl rfl lu ?_
          with_reducible refine (semiring_Leasts_Same.calls kj57  a0_0 _ _ l0_1 a1_0 _ _ l1_1 a4 _ ?side1 ?side2 ?side3 ?side4 f1.out).mono ?_
          (case side1 => exact cu (Kd.V_reads' aa.out).2.2)
          (case side2 => exact (Kd.V_reads' aa.out).2.1)
          (case side3 => exact cu (Kd.V_reads' ab.out).2.2)
          (case side4 => exact (Kd.V_reads' ab.out).2.1)
          rintro e i3 ⟨rfl, hb⟩
          refine ⟨_, rfl, ?_⟩
          replace aa := kv aa hb
          replace ab := kv ab hb
          replace ae := kv ae hb
          replace ac := kb ac hb
          replace ad := kb ad hb
          replace af := kb af hb
          replace ag := kb ag hb
          replace HB := be4 HB ah ai aj ak hb
          (try clear hb)
          (try clear hb2)
          (try clear hk)
          (try clear hi)
          refine hK.out _ _ ⟨bc ac 0, bc ac 1, bc ad 0, bc ad 1⟩ (fun hHeld => ?_)
          clear hK K
          refine nq 56 ?_
          refine one_ (i := 5) (N := some 58) #[true, true, true, true, true, true, true, false, false, false, false, false, false, false, false, false, false, false, false, false, false, false, false, false, false, false, false, false, false, false, false, false] rfl rfl (one_of HT_.out (by kernel_rfl)) (by decide) (fun K hK => ?_)
          refine goes_ Try.func69 (by kernel_rfl) rfl #[.agg #[.int .i64 a0_0, .slice A0_1 l0_1.length c0_1]] (by rfl) rfl rfl lu ?_
          with_reducible refine (codewrightref46_Least.calls kj57 a0_0 _ _ l0_1 bp bq _ ?side1 ?side2 f2.out).mono ?_
          (case side1 => exact cu (Kd.V_reads' aa.out).2.2)
          (case side2 => exact (Kd.V_reads' aa.out).2.1)
          rintro e i4 ⟨ef, rfl, ax, hb⟩
          refine ⟨_, rfl, ?_⟩
          replace aa := kv aa hb
          replace ab := kv ab hb
          replace ae := kv ae hb
          have aw := ar0 w.heap.size (ok' := fun k_ => ((P0_1_ k_ ∨ P1_1_ k_ ∨ P2_1_ k_) ∨ w.heap.size ≤ k_) ∧ k_ ≠ al ∧ k_ ≠ an ∧ k_ ≠ ao ∧ k_ ≠ ap) ax (fa (fz4 HB ah ai aj ak) (fa (fb ac) (fa (fb ad) (fa (fb af) (fb ag)))))
          replace ac := kb ac hb
          replace ad := kb ad hb
          replace af := kb af hb
          replace ag := kb ag hb
          replace HB := be4 HB ah ai aj ak hb
          (try clear hb)
          (try clear hb2)
          (try clear hk)
          (try clear hi)
          (try clear ax)
          refine hK.out _ _ ⟨bc ac 0, bc ac 1, bc ad 0, bc ad 1⟩ (fun hHeld => ?_)
          clear hK K
          refine nq 58 ?_
          refine one_ (i := 7) (N := some 60) #[true, true, true, true, true, true, true, true, false, false, false, false, false, false, false, false, false, false, false, false, false, false, false, false, false, false, false, false, false, false, false, false] rfl rfl (one_of HT_.out (by kernel_rfl)) (by decide) (fun K hK => ?_)
          refine goes_ Try.func69 (by kernel_rfl) rfl #[.agg #[.int .i64 a1_0, .slice A1_1 l1_1.length c1_1]] (by rfl) rfl rfl lu ?_
          with_reducible refine (codewrightref46_Least.calls kj57 a1_0 _ _ l1_1 br bv _ ?side1 ?side2 f3.out).mono ?_
          (case side1 => exact cu (Kd.V_reads' ab.out).2.2)
          (case side2 => exact (Kd.V_reads' ab.out).2.1)
          rintro e i5 ⟨eg, rfl, ax, hb⟩
          refine ⟨_, rfl, ?_⟩
          replace aa := kv aa hb
          replace ab := kv ab hb
          replace ae := kv ae hb
          replace aw := kv aw hb
          have az := ar0 w.heap.size (ok' := fun k_ => ((P0_1_ k_ ∨ P1_1_ k_ ∨ P2_1_ k_) ∨ w.heap.size ≤ k_) ∧ k_ ≠ al ∧ k_ ≠ an ∧ k_ ≠ ao ∧ k_ ≠ ap) ax (fa (fz4 HB ah ai aj ak) (fa (fb ac) (fa (fb ad) (fa (fb af) (fb ag)))))
          replace ac := kb ac hb
          replace ad := kb ad hb
          replace af := kb af hb
          replace ag := kb ag hb
          replace HB := be4 HB ah ai aj ak hb
          (try clear hb)
          (try clear hb2)
          (try clear hk)
          (try clear hi)
          (try clear ax)
          obtain ⟨f5, f6, eh⟩ := Kd.V_slice aw.out
          (first | subst eh | (injection eh with f1_ f2_ f3_; have f4_ := f1_.symm; have f5_ := f3_.symm; clear f1_ f2_ f3_; subst f4_; subst f5_))
          obtain ⟨f7, f8, ei⟩ := Kd.V_slice az.out
          (first | subst ei | (injection ei with f1_ f2_ f3_; have f4_ := f1_.symm; have f5_ := f3_.symm; clear f1_ f2_ f3_; subst f4_; subst f5_))
          refine hK.out _ _ ⟨bc ac 0, bc ac 1, bc ad 0, bc ad 1⟩ (fun hHeld => ?_)
          clear hK K
          refine nq 60 ?_
          refine one_ (i := 8) (N := some 61) #[true, true, true, true, true, true, true, true, true, false, false, false, false, false, false, false, false, false, false, false, false, false, false, false, false, false, false, false, false, false, false, false] rfl rfl (one_of HT_.out (by kernel_rfl)) (by decide) (fun K hK => ?_)
          refine goes_ Try.func60 (by kernel_rfl) rfl #[.agg #[.int .i64 bp, .slice f5 bq.length f6], .agg #[.int .i64 br, .slice f7 bv.length f8]] (by rfl) rfl rfl lu ?_
          with_reducible refine (codewrightref46_SameLeast.calls kj57 bp _ _ bq br _ _ bv a5 _ ?side1 ?side2 ?side3 ?side4 f4.out).mono ?_
          (case side1 => exact cu (Kd.V_reads' aw.out).2.2)
          (case side2 => exact (Kd.V_reads' aw.out).2.1)
          (case side3 => exact cu (Kd.V_reads' az.out).2.2)
          (case side4 => exact (Kd.V_reads' az.out).2.1)
          rintro e i6 ⟨rfl, hb⟩
          refine ⟨_, rfl, ?_⟩
          replace aa := kv aa hb
          replace ab := kv ab hb
          replace ae := kv ae hb
          replace aw := kv aw hb
          replace az := kv az hb
          replace ac := kb ac hb
          replace ad := kb ad hb
          replace af := kb af hb
          replace ag := kb ag hb
          replace HB := be4 HB ah ai aj ak hb
          (try clear hb)
          (try clear hb2)
          (try clear hk)
          (try clear hi)
          refine hK.out _ _ ⟨bc ac 0, bc ac 1, bc ad 0, bc ad 1⟩ (fun hHeld => ?_)
          clear hK K
          refine nq 61 ?_
          refine pq 9 (some 62) #[true, true, true, true, true, true, true, true, true, true, false, false, false, false, false, false, false, false, false, false, false, false, false, false, false, false, false, false, false, false, false, false] HT_ ?_
          refine pq 10 (some 63) #[true, true, true, true, true, true, true, true, true, true, true, false, false, false, false, false, false, false, false, false, false, false, false, false, false, false, false, false, false, false, false, false] HT_ ?_
          refine pure_ (i := 11) (N := some 64) (v := undef) (a' := ?_) #[true, true, true, true, true, true, true, true, true, true, true, true, false, false, false, false, false, false, false, false, false, false, false, false, false, false, false, false, false, false, false, false] rfl rfl (any_of HT_.out (by kernel_rfl)) (fun _ _ _ h => h) (Or.inr ⟨by rfl, rfl⟩) ?_ ?_
          rotate_left
          ·
           simp only [Act.put, List.setIfInBounds_toArray, List.set_cons_zero, List.set_cons_succ, i64_w, i32_w]
           rfl
          refine pure_ (i := 12) (N := some 65) (v := undef) (a' := ?_) #[true, true, true, true, true, true, true, true, true, true, true, true, true, false, false, false, false, false, false, false, false, false, false, false, false, false, false, false, false, false, false, false] rfl rfl (any_of HT_.out (by kernel_rfl)) (fun _ _ _ h => h) (Or.inr ⟨by rfl, rfl⟩) ?_ ?_
          rotate_left
          ·
           simp only [Act.put, List.setIfInBounds_toArray, List.set_cons_zero, List.set_cons_succ, i64_w, i32_w]
           rfl
          refine pure_ (i := 13) (N := some 66) (v := undef) (a' := ?_) #[true, true, true, true, true, true, true, true, true, true, true, true, true, true, false, false, false, false, false, false, false, false, false, false, false, false, false, false, false, false, false, false] rfl rfl (any_of HT_.out (by kernel_rfl)) (fun _ _ _ h => h) (Or.inr ⟨by rfl, rfl⟩) ?_ ?_
          rotate_left
          ·
           simp only [Act.put, List.setIfInBounds_toArray, List.set_cons_zero, List.set_cons_succ, i64_w, i32_w]
           rfl
          refine pure_ (i := 14) (N := some 67) (v := undef) (a' := ?_) #[true, true, true, true, true, true, true, true, true, true, true, true, true, true, true, false, false, false, false, false, false, false, false, false, false, false, false, false, false, false, false, false] rfl rfl (any_of HT_.out (by kernel_rfl)) (fun _ _ _ h => h) (Or.inr ⟨by rfl, rfl⟩) ?_ ?_
          rotate_left
          ·
           simp only [Act.put, List.setIfInBounds_toArray, List.set_cons_zero, List.set_cons_succ, i64_w, i32_w]
           rfl
          refine pure_ (i := 15) (N := some 68) (v := undef) (a' := ?_) #[true, true, true, true, true, true, true, true, true, true, true, true, true, true, true, true, false, false, false, false, false, false, false, false, false, false, false, false, false, false, false, false] rfl rfl (any_of HT_.out (by kernel_rfl)) (fun _ _ _ h => h) (Or.inr ⟨by rfl, rfl⟩) ?_ ?_
          rotate_left
          ·
           simp only [Act.put, List.setIfInBounds_toArray, List.set_cons_zero, List.set_cons_succ, i64_w, i32_w]
           rfl
          refine pure_ (i := 16) (N := some 69) (v := undef) (a' := ?_) #[true, true, true, true, true, true, true, true, true, true, true, true, true, true, true, true, true, false, false, false, false, false, false, false, false, false, false, false, false, false, false, false] rfl rfl (any_of HT_.out (by kernel_rfl)) (fun _ _ _ h => h) (Or.inr ⟨by rfl, rfl⟩) ?_ ?_
          rotate_left
          ·
           simp only [Act.put, List.setIfInBounds_toArray, List.set_cons_zero, List.set_cons_succ, i64_w, i32_w]
           rfl
          refine pure_ (i := 17) (N := some 70) (v := undef) (a' := ?_) #[true, true, true, true, true, true, true, true, true, true, true, true, true, true, true, true, true, true, false, false, false, false, false, false, false, false, false, false, false, false, false, false] rfl rfl (any_of HT_.out (by kernel_rfl)) (fun _ _ _ h => h) (Or.inr ⟨by rfl, rfl⟩) ?_ ?_
          rotate_left
          ·
           simp only [Act.put, List.setIfInBounds_toArray, List.set_cons_zero, List.set_cons_succ, i64_w, i32_w]
           rfl
          refine pure_ (i := 18) (N := some 71) (v := undef) (a' := ?_) #[true, true, true, true, true, true, true, true, true, true, true, true, true, true, true, true, true, true, true, false, false, false, false, false, false, false, false, false, false, false, false, false] rfl rfl (any_of HT_.out (by kernel_rfl)) (fun _ _ _ h => h) (Or.inr ⟨by rfl, rfl⟩) ?_ ?_
          rotate_left
          ·
           simp only [Act.put, List.setIfInBounds_toArray, List.set_cons_zero, List.set_cons_succ, i64_w, i32_w]
           rfl
          refine pure_ (i := 19) (N := some 72) (v := undef) (a' := ?_) #[true, true, true, true, true, true, true, true, true, true, true, true, true, true, true, true, true, true, true, true, false, false, false, false, false, false, false, false, false, false, false, false] rfl rfl (any_of HT_.out (by kernel_rfl)) (fun _ _ _ h => h) (Or.inr ⟨by rfl, rfl⟩) ?_ ?_
          rotate_left
          ·
           simp only [Act.put, List.setIfInBounds_toArray, List.set_cons_zero, List.set_cons_succ, i64_w, i32_w]
           rfl
          refine pq 20 (some 73) #[true, true, true, true, true, true, true, true, true, true, true, true, true, true, true, true, true, true, true, true, true, false, false, false, false, false, false, false, false, false, false, false] HT_ ?_
          refine pq 21 (some 74) #[true, true, true, true, true, true, true, true, true, true, true, true, true, true, true, true, true, true, true, true, true, true, false, false, false, false, false, false, false, false, false, false] HT_ ?_
          refine pure_ (i := 22) (N := some 75) (v := undef) (a' := ?_) #[true, true, true, true, true, true, true, true, true, true, true, true, true, true, true, true, true, true, true, true, true, true, true, false, false, false, false, false, false, false, false, false] rfl rfl (any_of HT_.out (by kernel_rfl)) (fun _ _ _ h => h) (Or.inr ⟨by rfl, rfl⟩) ?_ ?_
          rotate_left
          ·
           simp only [Act.put, List.setIfInBounds_toArray, List.set_cons_zero, List.set_cons_succ, i64_w, i32_w]
           rfl
          refine pure_ (i := 23) (N := some 76) (v := undef) (a' := ?_) #[true, true, true, true, true, true, true, true, true, true, true, true, true, true, true, true, true, true, true, true, true, true, true, true, false, false, false, false, false, false, false, false] rfl rfl (any_of HT_.out (by kernel_rfl)) (fun _ _ _ h => h) (Or.inr ⟨by rfl, rfl⟩) ?_ ?_
          rotate_left
          ·
           simp only [Act.put, List.setIfInBounds_toArray, List.set_cons_zero, List.set_cons_succ, i64_w, i32_w]
           rfl
          refine pure_ (i := 24) (N := some 77) (v := undef) (a' := ?_) #[true, true, true, true, true, true, true, true, true, true, true, true, true, true, true, true, true, true, true, true, true, true, true, true, true, false, false, false, false, false, false, false] rfl rfl (any_of HT_.out (by kernel_rfl)) (fun _ _ _ h => h) (Or.inr ⟨by rfl, rfl⟩) ?_ ?_
          rotate_left
          ·
           simp only [Act.put, List.setIfInBounds_toArray, List.set_cons_zero, List.set_cons_succ, i64_w, i32_w]
           rfl
          refine pure_ (i := 25) (N := some 78) (v := undef) (a' := ?_) #[true, true, true, true, true, true, true, true, true, true, true, true, true, true, true, true, true, true, true, true, true, true, true, true, true, true, false, false, false, false, false, false] rfl rfl (any_of HT_.out (by kernel_rfl)) (fun _ _ _ h => h) (Or.inr ⟨by rfl, rfl⟩) ?_ ?_
          rotate_left
          ·
           simp only [Act.put, List.setIfInBounds_toArray, List.set_cons_zero, List.set_cons_succ, i64_w, i32_w]
           rfl
          refine pure_ (i := 26) (N := some 79) (v := undef) (a' := ?_) #[true, true, true, true, true, true, true, true, true, true, true, true, true, true, true, true, true, true, true, true, true, true, true, true, true, true, true, false, false, false, false, false] rfl rfl (any_of HT_.out (by kernel_rfl)) (fun _ _ _ h => h) (Or.inr ⟨by rfl, rfl⟩) ?_ ?_
          rotate_left
          ·
           simp only [Act.put, List.setIfInBounds_toArray, List.set_cons_zero, List.set_cons_succ, i64_w, i32_w]
           rfl
          refine pure_ (i := 27) (N := some 80) (v := undef) (a' := ?_) #[true, true, true, true, true, true, true, true, true, true, true, true, true, true, true, true, true, true, true, true, true, true, true, true, true, true, true, true, false, false, false, false] rfl rfl (any_of HT_.out (by kernel_rfl)) (fun _ _ _ h => h) (Or.inr ⟨by rfl, rfl⟩) ?_ ?_
          rotate_left
          ·
           simp only [Act.put, List.setIfInBounds_toArray, List.set_cons_zero, List.set_cons_succ, i64_w, i32_w]
           rfl
          refine pure_ (i := 28) (N := some 81) (v := undef) (a' := ?_) #[true, true, true, true, true, true, true, true, true, true, true, true, true, true, true, true, true, true, true, true, true, true, true, true, true, true, true, true, true, false, false, false] rfl rfl (any_of HT_.out (by kernel_rfl)) (fun _ _ _ h => h) (Or.inr ⟨by rfl, rfl⟩) ?_ ?_
          rotate_left
          ·
           simp only [Act.put, List.setIfInBounds_toArray, List.set_cons_zero, List.set_cons_succ, i64_w, i32_w]
           rfl
          refine pure_ (i := 29) (N := some 82) (v := undef) (a' := ?_) #[true, true, true, true, true, true, true, true, true, true, true, true, true, true, true, true, true, true, true, true, true, true, true, true, true, true, true, true, true, true, false, false] rfl rfl (any_of HT_.out (by kernel_rfl)) (fun _ _ _ h => h) (Or.inr ⟨by rfl, rfl⟩) ?_ ?_
          rotate_left
          ·
           simp only [Act.put, List.setIfInBounds_toArray, List.set_cons_zero, List.set_cons_succ, i64_w, i32_w]
           rfl
          refine pure_ (i := 30) (N := some 83) (v := undef) (a' := ?_) #[true, true, true, true, true, true, true, true, true, true, true, true, true, true, true, true, true, true, true, true, true, true, true, true, true, true, true, true, true, true, true, false] rfl rfl (any_of HT_.out (by kernel_rfl)) (fun _ _ _ h => h) (Or.inr ⟨by rfl, rfl⟩) ?_ ?_
          rotate_left
          ·
           simp only [Act.put, List.setIfInBounds_toArray, List.set_cons_zero, List.set_cons_succ, i64_w, i32_w]
           rfl
          refine pq 31 (some 84) #[true, true, true, true, true, true, true, true, true, true, true, true, true, true, true, true, true, true, true, true, true, true, true, true, true, true, true, true, true, true, true, true] HT_ ?_
          refine done_ (done_of HT_.out (by kernel_rfl)) ?_
          try go_wp2
          go_meet
          case rel => exact ⟨_, (true), (by first | rfl | (simp; done) | (simp [*]; done)), H', ⟨by have := HJ5.out; have := HJ57.out; first | omega | exact Nat.le_refl _⟩, ⟨by (with_reducible repeat (first | apply Kd.V_alloc | apply Kd.V_drewN | apply Kd.V_drew)); exact aa.out⟩, ⟨by (with_reducible repeat (first | apply Kd.V_alloc | apply Kd.V_drewN | apply Kd.V_drew)); exact ab.out⟩, ⟨by (with_reducible repeat (first | apply Kd.V_alloc | apply Kd.V_drewN | apply Kd.V_drew)); exact ae.out⟩, ⟨by (with_reducible repeat (first | refine blk_drewN ?_ _ | refine blk_drew ?_ | refine blk_alloc ?_ _)); exact ac.out⟩, ⟨by (with_reducible repeat (first | refine blk_drewN ?_ _ | refine blk_drew ?_ | refine blk_alloc ?_ _)); exact ad.out⟩, ⟨by (with_reducible repeat (first | refine blk_drewN ?_ _ | refine blk_drew ?_ | refine blk_alloc ?_ _)); exact af.out⟩, ⟨by (with_reducible repeat (first | refine blk_drewN ?_ _ | refine blk_drew ?_ | refine blk_alloc ?_ _)); exact ag.out⟩, ⟨by repeat (first | (with_reducible first | exact HB.out | apply below_alloc | apply pw_below_drewN | apply below_drew1 | refine below_set ?_ ah.out | refine below_set ?_ ai.out | refine below_set ?_ aj.out | refine below_set ?_ ak.out) | exact HB.out)⟩⟩
         ·
          rw [if_neg ce] at H
          have bH : (a4 != a5) = false := by simpa using ce
          (try (have cf : decide (a4 = a5) = true := by simpa using ce))
          (try (have ee : (a4 == a5) = true := by simpa using ce))
          clear ce
          (first | rw [bH] | rw [cf] | (simp only [i64_w, i32_w]; rw [bH]) | skip)
          obtain ⟨⟨b6, b7⟩, hj, H⟩ := bs H
          (try dsimp -simprocs only at H)
          obtain ⟨⟨b8, b9⟩, hl, H⟩ := bs H
          (try dsimp -simprocs only at H)
          obtain ⟨dq, hm, H⟩ := bs H
          (try dsimp -simprocs only at H)
          by_cases cg : dq = true
          ·
           subst cg
           have H1 : ((semiring_Leasts_One.f kj57).bind fun bF => ((semiring_Leasts_Mul.f kj57 a0_0 l0_1 bF.1 bF.2).bind fun bG => ((semiring_Leasts_Same.f kj57 bG.1 bG.2 a0_0 l0_1).bind fun bQ => (codewrightlaw46_SemiringLeasts.j2 kj57 (!bQ) a0_0 l0_1 a1_0 l1_1 a2_0 l2_1)))) = some r := by rw [if_pos rfl] at H; exact H
           clear H
           have H := H1
           clear H1
           obtain ⟨⟨dt, du⟩, f9, H⟩ := bs H
           (try dsimp -simprocs only at H)
           obtain ⟨⟨dv, dw⟩, ga, H⟩ := bs H
           (try dsimp -simprocs only at H)
           obtain ⟨bQ, gb, H⟩ := bs H
           (try dsimp -simprocs only at H)
           have H' := am H
           clear H
           try go_wp2
           replace aa := am (Kd.V_drew aa.out)
           replace ab := am (Kd.V_drew ab.out)
           replace ae := am (Kd.V_drew ae.out)
           replace ac := am (blk_drew ac.out)
           replace ad := am (blk_drew ad.out)
           replace af := am (blk_drew af.out)
           replace ag := am (blk_drew ag.out)
           replace HB := am (below_drew1 HB.out)
           refine start_ (n := 32) (S := fun w' => w'.cell? ⟨al, 0, none⟩ = some (.int .i64 a0_0) ∧ w'.cell? ⟨al, 1, none⟩ = some (.slice A0_1 l0_1.length c0_1) ∧ w'.cell? ⟨an, 0, none⟩ = some (.int .i64 a1_0) ∧ w'.cell? ⟨an, 1, none⟩ = some (.slice A1_1 l1_1.length c1_1)) (ds := []) #[false, false, false, false, false, false, false, false, false, false, false, false, false, false, false, false, false, false, false, false, false, false, false, false, false, false, false, false, false, false, false, false] (by kernel_rfl) rfl rfl ⟨bc ac 0, bc ac 1, bc ad 0, bc ad 1⟩ (fun hHeld => ?_); refine with_tabW codewrightlaw46_SemiringLeasts.tab8 codewrightlaw46_SemiringLeasts.bits8 (fun HT_ HW_ => ?_)
           generalize wc.drew = hI at aa ab ae ac ad af ag HB hHeld ⊢
           refine tq 0 (some 53) #[true, false, false, false, false, false, false, false, false, false, false, false, false, false, false, false, false, false, false, false, false, false, false, false, false, false, false, false, false, false, false, false] HT_ HW_ hHeld ?_
           refine tq 1 (some 54) #[true, true, false, false, false, false, false, false, false, false, false, false, false, false, false, false, false, false, false, false, false, false, false, false, false, false, false, false, false, false, false, false] HT_ HW_ hHeld ?_
           refine tq 2 (some 55) #[true, true, true, false, false, false, false, false, false, false, false, false, false, false, false, false, false, false, false, false, false, false, false, false, false, false, false, false, false, false, false, false] HT_ HW_ hHeld ?_
           refine tq 4 (some 57) #[true, true, true, false, true, false, false, false, false, false, false, false, false, false, false, false, false, false, false, false, false, false, false, false, false, false, false, false, false, false, false, false] HT_ HW_ hHeld ?_
           refine tq 6 (some 59) #[true, true, true, false, true, false, true, false, false, false, false, false, false, false, false, false, false, false, false, false, false, false, false, false, false, false, false, false, false, false, false, false] HT_ HW_ hHeld ?_
           refine one_ (i := 3) (N := some 56) #[true, true, true, true, true, false, true, false, false, false, false, false, false, false, false, false, false, false, false, false, false, false, false, false, false, false, false, false, false, false, false, false] rfl rfl (one_of HT_.out (by kernel_rfl)) (by decide) (fun K hK => ?_)
           refine goes_ Try.func68 (by kernel_rfl) rfl #[.agg #[], .agg #[.int .i64 a0_0, .slice A0_1 l0_1.length c0_1], .agg #[.int .i64 a1_0, .slice A1_1 l1_1.length c1_1]] (by rfl) rfl rfl lu ?_
           with_reducible refine (semiring_Leasts_Same.calls kj57  a0_0 _ _ l0_1 a1_0 _ _ l1_1 a4 _ ?side1 ?side2 ?side3 ?side4 f1.out).mono ?_
           (case side1 => exact cu (Kd.V_reads' aa.out).2.2)
           (case side2 => exact (Kd.V_reads' aa.out).2.1)
           (case side3 => exact cu (Kd.V_reads' ab.out).2.2)
           (case side4 => exact (Kd.V_reads' ab.out).2.1)
           rintro e hJ ⟨rfl, hb⟩
           refine ⟨_, rfl, ?_⟩
           replace aa := kv aa hb
           replace ab := kv ab hb
           replace ae := kv ae hb
           replace ac := kb ac hb
           replace ad := kb ad hb
           replace af := kb af hb
           replace ag := kb ag hb
           replace HB := be4 HB ah ai aj ak hb
           (try clear hb)
           (try clear hb2)
           (try clear hk)
           (try clear hi)
           refine hK.out _ _ ⟨bc ac 0, bc ac 1, bc ad 0, bc ad 1⟩ (fun hHeld => ?_)
           clear hK K
           refine nq 56 ?_
           refine one_ (i := 5) (N := some 58) #[true, true, true, true, true, true, true, false, false, false, false, false, false, false, false, false, false, false, false, false, false, false, false, false, false, false, false, false, false, false, false, false] rfl rfl (one_of HT_.out (by kernel_rfl)) (by decide) (fun K hK => ?_)
           refine goes_ Try.func69 (by kernel_rfl) rfl #[.agg #[.int .i64 a0_0, .slice A0_1 l0_1.length c0_1]] (by rfl) rfl rfl lu ?_
           with_reducible refine (codewrightref46_Least.calls kj57 a0_0 _ _ l0_1 bp bq _ ?side1 ?side2 f2.out).mono ?_
           (case side1 => exact cu (Kd.V_reads' aa.out).2.2)
           (case side2 => exact (Kd.V_reads' aa.out).2.1)
           rintro e hL ⟨ef, rfl, ax, hb⟩
           refine ⟨_, rfl, ?_⟩
           replace aa := kv aa hb
           replace ab := kv ab hb
           replace ae := kv ae hb
           have aw := ar0 w.heap.size (ok' := fun k_ => ((P0_1_ k_ ∨ P1_1_ k_ ∨ P2_1_ k_) ∨ w.heap.size ≤ k_) ∧ k_ ≠ al ∧ k_ ≠ an ∧ k_ ≠ ao ∧ k_ ≠ ap) ax (fa (fz4 HB ah ai aj ak) (fa (fb ac) (fa (fb ad) (fa (fb af) (fb ag)))))
           replace ac := kb ac hb
           replace ad := kb ad hb
           replace af := kb af hb
           replace ag := kb ag hb
           replace HB := be4 HB ah ai aj ak hb
           (try clear hb)
           (try clear hb2)
           (try clear hk)
           (try clear hi)
           (try clear ax)
           refine hK.out _ _ ⟨bc ac 0, bc ac 1, bc ad 0, bc ad 1⟩ (fun hHeld => ?_)
           clear hK K
           refine nq 58 ?_
           refine one_ (i := 7) (N := some 60) #[true, true, true, true, true, true, true, true, false, false, false, false, false, false, false, false, false, false, false, false, false, false, false, false, false, false, false, false, false, false, false, false] rfl rfl (one_of HT_.out (by kernel_rfl)) (by decide) (fun K hK => ?_)
           refine goes_ Try.func69 (by kernel_rfl) rfl #[.agg #[.int .i64 a1_0, .slice A1_1 l1_1.length c1_1]] (by rfl) rfl rfl lu ?_
           with_reducible refine (codewrightref46_Least.calls kj57 a1_0 _ _ l1_1 br bv _ ?side1 ?side2 f3.out).mono ?_
           (case side1 => exact cu (Kd.V_reads' ab.out).2.2)
           (case side2 => exact (Kd.V_reads' ab.out).2.1)
           rintro e hM ⟨eg, rfl, ax, hb⟩
           refine ⟨_, rfl, ?_⟩
           replace aa := kv aa hb
           replace ab := kv ab hb
           replace ae := kv ae hb
           replace aw := kv aw hb
           have az := ar0 w.heap.size (ok' := fun k_ => ((P0_1_ k_ ∨ P1_1_ k_ ∨ P2_1_ k_) ∨ w.heap.size ≤ k_) ∧ k_ ≠ al ∧ k_ ≠ an ∧ k_ ≠ ao ∧ k_ ≠ ap) ax (fa (fz4 HB ah ai aj ak) (fa (fb ac) (fa (fb ad) (fa (fb af) (fb ag)))))
           replace ac := kb ac hb
           replace ad := kb ad hb
           replace af := kb af hb
           replace ag := kb ag hb
           replace HB := be4 HB ah ai aj ak hb
           (try clear hb)
           (try clear hb2)
           (try clear hk)
           (try clear hi)
           (try clear ax)
           obtain ⟨ej, ek, cG⟩ := Kd.V_slice aw.out
           (first | subst cG | (injection cG with f1_ f2_ f3_; have f4_ := f1_.symm; have f5_ := f3_.symm; clear f1_ f2_ f3_; subst f4_; subst f5_))
           obtain ⟨em, en, cH⟩ := Kd.V_slice az.out
           (first | subst cH | (injection cH with f1_ f2_ f3_; have f4_ := f1_.symm; have f5_ := f3_.symm; clear f1_ f2_ f3_; subst f4_; subst f5_))
           refine hK.out _ _ ⟨bc ac 0, bc ac 1, bc ad 0, bc ad 1⟩ (fun hHeld => ?_)
           clear hK K
           refine nq 60 ?_
           refine one_ (i := 8) (N := some 61) #[true, true, true, true, true, true, true, true, true, false, false, false, false, false, false, false, false, false, false, false, false, false, false, false, false, false, false, false, false, false, false, false] rfl rfl (one_of HT_.out (by kernel_rfl)) (by decide) (fun K hK => ?_)
           refine goes_ Try.func60 (by kernel_rfl) rfl #[.agg #[.int .i64 bp, .slice ej bq.length ek], .agg #[.int .i64 br, .slice em bv.length en]] (by rfl) rfl rfl lu ?_
           with_reducible refine (codewrightref46_SameLeast.calls kj57 bp _ _ bq br _ _ bv a5 _ ?side1 ?side2 ?side3 ?side4 f4.out).mono ?_
           (case side1 => exact cu (Kd.V_reads' aw.out).2.2)
           (case side2 => exact (Kd.V_reads' aw.out).2.1)
           (case side3 => exact cu (Kd.V_reads' az.out).2.2)
           (case side4 => exact (Kd.V_reads' az.out).2.1)
           rintro e hN ⟨rfl, hb⟩
           refine ⟨_, rfl, ?_⟩
           replace aa := kv aa hb
           replace ab := kv ab hb
           replace ae := kv ae hb
           replace aw := kv aw hb
           replace az := kv az hb
           replace ac := kb ac hb
           replace ad := kb ad hb
           replace af := kb af hb
           replace ag := kb ag hb
           replace HB := be4 HB ah ai aj ak hb
           (try clear hb)
           (try clear hb2)
           (try clear hk)
           (try clear hi)
           refine hK.out _ _ ⟨bc ac 0, bc ac 1, bc ad 0, bc ad 1⟩ (fun hHeld => ?_)
           clear hK K
           refine nq 61 ?_
           refine pq 9 (some 62) #[true, true, true, true, true, true, true, true, true, true, false, false, false, false, false, false, false, false, false, false, false, false, false, false, false, false, false, false, false, false, false, false] HT_ ?_
           refine pq 10 (some 63) #[true, true, true, true, true, true, true, true, true, true, true, false, false, false, false, false, false, false, false, false, false, false, false, false, false, false, false, false, false, false, false, false] HT_ ?_
           refine tq 11 (some 64) #[true, true, true, true, true, true, true, true, true, true, true, true, false, false, false, false, false, false, false, false, false, false, false, false, false, false, false, false, false, false, false, false] HT_ HW_ hHeld ?_
           refine tq 12 (some 65) #[true, true, true, true, true, true, true, true, true, true, true, true, true, false, false, false, false, false, false, false, false, false, false, false, false, false, false, false, false, false, false, false] HT_ HW_ hHeld ?_
           refine tq 13 (some 66) #[true, true, true, true, true, true, true, true, true, true, true, true, true, true, false, false, false, false, false, false, false, false, false, false, false, false, false, false, false, false, false, false] HT_ HW_ hHeld ?_
           refine tq 14 (some 67) #[true, true, true, true, true, true, true, true, true, true, true, true, true, true, true, false, false, false, false, false, false, false, false, false, false, false, false, false, false, false, false, false] HT_ HW_ hHeld ?_
           refine tq 17 (some 70) #[true, true, true, true, true, true, true, true, true, true, true, true, true, true, true, false, false, true, false, false, false, false, false, false, false, false, false, false, false, false, false, false] HT_ HW_ hHeld ?_
           refine one_ (i := 15) (N := some 68) #[true, true, true, true, true, true, true, true, true, true, true, true, true, true, true, true, false, true, false, false, false, false, false, false, false, false, false, false, false, false, false, false] rfl rfl (one_of HT_.out (by kernel_rfl)) (by decide) (fun K hK => ?_)
           refine goes_ Try.func61 (by kernel_rfl) rfl #[.agg #[]] (by rfl) rfl rfl lu ?_
           with_reducible refine (semiring_Leasts_Zero.calls  b6 b7 _ hj.out).mono ?_
           rintro e hO ⟨gc, rfl, ax, hb⟩
           refine ⟨_, rfl, ?_⟩
           replace ax := R_V_base rfl ax
           replace aa := kv aa hb
           replace ab := kv ab hb
           replace ae := kv ae hb
           replace aw := kv aw hb
           replace az := kv az hb
           have aH := ar0 w.heap.size (ok' := fun k_ => ((P0_1_ k_ ∨ P1_1_ k_ ∨ P2_1_ k_) ∨ w.heap.size ≤ k_) ∧ k_ ≠ al ∧ k_ ≠ an ∧ k_ ≠ ao ∧ k_ ≠ ap) ax (fa (fz4 HB ah ai aj ak) (fa (fb ac) (fa (fb ad) (fa (fb af) (fb ag)))))
           replace ac := kb ac hb
           replace ad := kb ad hb
           replace af := kb af hb
           replace ag := kb ag hb
           replace HB := be4 HB ah ai aj ak hb
           (try clear hb)
           (try clear hb2)
           (try clear hk)
           (try clear hi)
           (try clear ax)
           obtain ⟨eo, ep, cI⟩ := Kd.V_slice aH.out
           (first | subst cI | (injection cI with f1_ f2_ f3_; have f4_ := f1_.symm; have f5_ := f3_.symm; clear f1_ f2_ f3_; subst f4_; subst f5_))
           refine hK.out _ _ ⟨bc ac 0, bc ac 1, bc ad 0, bc ad 1⟩ (fun hHeld => ?_)
           clear hK K
           refine nq 68 ?_
           refine one_ (i := 16) (N := some 69) #[true, true, true, true, true, true, true, true, true, true, true, true, true, true, true, true, true, true, false, false, false, false, false, false, false, false, false, false, false, false, false, false] rfl rfl (one_of HT_.out (by kernel_rfl)) (by decide) (fun K hK => ?_)
           refine goes_ Try.func64 (by kernel_rfl) rfl #[.agg #[], .agg #[.int .i64 a0_0, .slice A0_1 l0_1.length c0_1], .agg #[.int .i64 b6, .slice eo b7.length ep]] (by rfl) rfl rfl lu ?_
           with_reducible refine (semiring_Leasts_Add.calls kj57  a0_0 _ _ l0_1 b6 _ _ b7 b8 b9 _ ?side1 ?side2 ?side3 ?side4 hl.out).mono ?_
           (case side1 => exact cu (Kd.V_reads' aa.out).2.2)
           (case side2 => exact (Kd.V_reads' aa.out).2.1)
           (case side3 => exact cu (Kd.V_reads' aH.out).2.2)
           (case side4 => exact (Kd.V_reads' aH.out).2.1)
           rintro e hP ⟨gd, rfl, ax, hb⟩
           refine ⟨_, rfl, ?_⟩
           replace aa := kv aa hb
           replace ab := kv ab hb
           replace ae := kv ae hb
           replace aw := kv aw hb
           replace az := kv az hb
           replace aH := kv aH hb
           have aM := ar0 w.heap.size (ok' := fun k_ => ((P0_1_ k_ ∨ P1_1_ k_ ∨ P2_1_ k_) ∨ w.heap.size ≤ k_) ∧ k_ ≠ al ∧ k_ ≠ an ∧ k_ ≠ ao ∧ k_ ≠ ap) ax (fa (fz4 HB ah ai aj ak) (fa (fb ac) (fa (fb ad) (fa (fb af) (fb ag)))))
           replace ac := kb ac hb
           replace ad := kb ad hb
           replace af := kb af hb
           replace ag := kb ag hb
           replace HB := be4 HB ah ai aj ak hb
           (try clear hb)
           (try clear hb2)
           (try clear hk)
           (try clear hi)
           (try clear ax)
           obtain ⟨eq, er, cJ⟩ := Kd.V_slice aM.out
           (first | subst cJ | (injection cJ with f1_ f2_ f3_; have f4_ := f1_.symm; have f5_ := f3_.symm; clear f1_ f2_ f3_; subst f4_; subst f5_))
           refine hK.out _ _ ⟨bc ac 0, bc ac 1, bc ad 0, bc ad 1⟩ (fun hHeld => ?_)
           clear hK K
           refine nq 69 ?_
           refine one_ (i := 18) (N := some 71) #[true, true, true, true, true, true, true, true, true, true, true, true, true, true, true, true, true, true, true, false, false, false, false, false, false, false, false, false, false, false, false, false] rfl rfl (one_of HT_.out (by kernel_rfl)) (by decide) (fun K hK => ?_)
           refine goes_ Try.func68 (by kernel_rfl) rfl #[.agg #[], .agg #[.int .i64 b8, .slice eq b9.length er], .agg #[.int .i64 a0_0, .slice A0_1 l0_1.length c0_1]] (by rfl) rfl rfl lu ?_
           with_reducible refine (semiring_Leasts_Same.calls kj57  b8 _ _ b9 a0_0 _ _ l0_1 true _ ?side1 ?side2 ?side3 ?side4 hm.out).mono ?_
           (case side1 => exact cu (Kd.V_reads' aM.out).2.2)
           (case side2 => exact (Kd.V_reads' aM.out).2.1)
           (case side3 => exact cu (Kd.V_reads' aa.out).2.2)
           (case side4 => exact (Kd.V_reads' aa.out).2.1)
           rintro e hQ ⟨rfl, hb⟩
           refine ⟨_, rfl, ?_⟩
           replace aa := kv aa hb
           replace ab := kv ab hb
           replace ae := kv ae hb
           replace aw := kv aw hb
           replace az := kv az hb
           replace aH := kv aH hb
           replace aM := kv aM hb
           replace ac := kb ac hb
           replace ad := kb ad hb
           replace af := kb af hb
           replace ag := kb ag hb
           replace HB := be4 HB ah ai aj ak hb
           (try clear hb)
           (try clear hb2)
           (try clear hk)
           (try clear hi)
           refine hK.out _ _ ⟨bc ac 0, bc ac 1, bc ad 0, bc ad 1⟩ (fun hHeld => ?_)
           clear hK K
           refine nq 71 ?_
           refine pq 19 (some 72) #[true, true, true, true, true, true, true, true, true, true, true, true, true, true, true, true, true, true, true, true, false, false, false, false, false, false, false, false, false, false, false, false] HT_ ?_
           refine pq 20 (some 73) #[true, true, true, true, true, true, true, true, true, true, true, true, true, true, true, true, true, true, true, true, true, false, false, false, false, false, false, false, false, false, false, false] HT_ ?_
           refine pq 21 (some 74) #[true, true, true, true, true, true, true, true, true, true, true, true, true, true, true, true, true, true, true, true, true, true, false, false, false, false, false, false, false, false, false, false] HT_ ?_
           refine tq 22 (some 75) #[true, true, true, true, true, true, true, true, true, true, true, true, true, true, true, true, true, true, true, true, true, true, true, false, false, false, false, false, false, false, false, false] HT_ HW_ hHeld ?_
           refine tq 23 (some 76) #[true, true, true, true, true, true, true, true, true, true, true, true, true, true, true, true, true, true, true, true, true, true, true, true, false, false, false, false, false, false, false, false] HT_ HW_ hHeld ?_
           refine tq 24 (some 77) #[true, true, true, true, true, true, true, true, true, true, true, true, true, true, true, true, true, true, true, true, true, true, true, true, true, false, false, false, false, false, false, false] HT_ HW_ hHeld ?_
           refine tq 25 (some 78) #[true, true, true, true, true, true, true, true, true, true, true, true, true, true, true, true, true, true, true, true, true, true, true, true, true, true, false, false, false, false, false, false] HT_ HW_ hHeld ?_
           refine tq 28 (some 81) #[true, true, true, true, true, true, true, true, true, true, true, true, true, true, true, true, true, true, true, true, true, true, true, true, true, true, false, false, true, false, false, false] HT_ HW_ hHeld ?_
           refine one_ (i := 26) (N := some 79) #[true, true, true, true, true, true, true, true, true, true, true, true, true, true, true, true, true, true, true, true, true, true, true, true, true, true, true, false, true, false, false, false] rfl rfl (one_of HT_.out (by kernel_rfl)) (by decide) (fun K hK => ?_)
           refine goes_ Try.func63 (by kernel_rfl) rfl #[.agg #[]] (by rfl) rfl rfl lu ?_
           with_reducible refine (semiring_Leasts_One.calls kj57  dt du _ f9.out).mono ?_
           rintro e hR ⟨hS, rfl, ax, hb⟩
           refine ⟨_, rfl, ?_⟩
           replace ax := R_V_base rfl ax
           replace aa := kv aa hb
           replace ab := kv ab hb
           replace ae := kv ae hb
           replace aw := kv aw hb
           replace az := kv az hb
           replace aH := kv aH hb
           replace aM := kv aM hb
           have bi := ar0 w.heap.size (ok' := fun k_ => ((P0_1_ k_ ∨ P1_1_ k_ ∨ P2_1_ k_) ∨ w.heap.size ≤ k_) ∧ k_ ≠ al ∧ k_ ≠ an ∧ k_ ≠ ao ∧ k_ ≠ ap) ax (fa (fz4 HB ah ai aj ak) (fa (fb ac) (fa (fb ad) (fa (fb af) (fb ag)))))
           replace ac := kb ac hb
           replace ad := kb ad hb
           replace af := kb af hb
           replace ag := kb ag hb
           replace HB := be4 HB ah ai aj ak hb
           (try clear hb)
           (try clear hb2)
           (try clear hk)
           (try clear hi)
           (try clear ax)
           obtain ⟨es, et, cK⟩ := Kd.V_slice bi.out
           (first | subst cK | (injection cK with f1_ f2_ f3_; have f4_ := f1_.symm; have f5_ := f3_.symm; clear f1_ f2_ f3_; subst f4_; subst f5_))
           refine hK.out _ _ ⟨bc ac 0, bc ac 1, bc ad 0, bc ad 1⟩ (fun hHeld => ?_)
           clear hK K
           refine nq 79 ?_
           refine one_ (i := 27) (N := some 80) #[true, true, true, true, true, true, true, true, true, true, true, true, true, true, true, true, true, true, true, true, true, true, true, true, true, true, true, true, true, false, false, false] rfl rfl (one_of HT_.out (by kernel_rfl)) (by decide) (fun K hK => ?_)
           refine goes_ Try.func66 (by kernel_rfl) rfl #[.agg #[], .agg #[.int .i64 a0_0, .slice A0_1 l0_1.length c0_1], .agg #[.int .i64 dt, .slice es du.length et]] (by rfl) rfl rfl lu ?_
           with_reducible refine (semiring_Leasts_Mul.calls kj57  a0_0 _ _ l0_1 dt _ _ du dv dw _ ?side1 ?side2 ?side3 ?side4 ga.out).mono ?_
           (case side1 => exact cu (Kd.V_reads' aa.out).2.2)
           (case side2 => exact (Kd.V_reads' aa.out).2.1)
           (case side3 => exact cu (Kd.V_reads' bi.out).2.2)
           (case side4 => exact (Kd.V_reads' bi.out).2.1)
           rintro e hT ⟨hU, rfl, ax, hb⟩
           refine ⟨_, rfl, ?_⟩
           replace aa := kv aa hb
           replace ab := kv ab hb
           replace ae := kv ae hb
           replace aw := kv aw hb
           replace az := kv az hb
           replace aH := kv aH hb
           replace aM := kv aM hb
           replace bi := kv bi hb
           have bI := ar0 w.heap.size (ok' := fun k_ => ((P0_1_ k_ ∨ P1_1_ k_ ∨ P2_1_ k_) ∨ w.heap.size ≤ k_) ∧ k_ ≠ al ∧ k_ ≠ an ∧ k_ ≠ ao ∧ k_ ≠ ap) ax (fa (fz4 HB ah ai aj ak) (fa (fb ac) (fa (fb ad) (fa (fb af) (fb ag)))))
           replace ac := kb ac hb
           replace ad := kb ad hb
           replace af := kb af hb
           replace ag := kb ag hb
           replace HB := be4 HB ah ai aj ak hb
           (try clear hb)
           (try clear hb2)
           (try clear hk)
           (try clear hi)
           (try clear ax)
           obtain ⟨eu, ev, cL⟩ := Kd.V_slice bI.out
           (first | subst cL | (injection cL with f1_ f2_ f3_; have f4_ := f1_.symm; have f5_ := f3_.symm; clear f1_ f2_ f3_; subst f4_; subst f5_))
           refine hK.out _ _ ⟨bc ac 0, bc ac 1, bc ad 0, bc ad 1⟩ (fun hHeld => ?_)
           clear hK K
           refine nq 80 ?_
           refine one_ (i := 29) (N := some 82) #[true, true, true, true, true, true, true, true, true, true, true, true, true, true, true, true, true, true, true, true, true, true, true, true, true, true, true, true, true, true, false, false] rfl rfl (one_of HT_.out (by kernel_rfl)) (by decide) (fun K hK => ?_)
           refine goes_ Try.func68 (by kernel_rfl) rfl #[.agg #[], .agg #[.int .i64 dv, .slice eu dw.length ev], .agg #[.int .i64 a0_0, .slice A0_1 l0_1.length c0_1]] (by rfl) rfl rfl lu ?_
           with_reducible refine (semiring_Leasts_Same.calls kj57  dv _ _ dw a0_0 _ _ l0_1 bQ _ ?side1 ?side2 ?side3 ?side4 gb.out).mono ?_
           (case side1 => exact cu (Kd.V_reads' bI.out).2.2)
           (case side2 => exact (Kd.V_reads' bI.out).2.1)
           (case side3 => exact cu (Kd.V_reads' aa.out).2.2)
           (case side4 => exact (Kd.V_reads' aa.out).2.1)
           rintro e hV ⟨rfl, hb⟩
           refine ⟨_, rfl, ?_⟩
           replace aa := kv aa hb
           replace ab := kv ab hb
           replace ae := kv ae hb
           replace aw := kv aw hb
           replace az := kv az hb
           replace aH := kv aH hb
           replace aM := kv aM hb
           replace bi := kv bi hb
           replace bI := kv bI hb
           replace ac := kb ac hb
           replace ad := kb ad hb
           replace af := kb af hb
           replace ag := kb ag hb
           replace HB := be4 HB ah ai aj ak hb
           (try clear hb)
           (try clear hb2)
           (try clear hk)
           (try clear hi)
           refine hK.out _ _ ⟨bc ac 0, bc ac 1, bc ad 0, bc ad 1⟩ (fun hHeld => ?_)
           clear hK K
           refine nq 82 ?_
           refine pq 30 (some 83) #[true, true, true, true, true, true, true, true, true, true, true, true, true, true, true, true, true, true, true, true, true, true, true, true, true, true, true, true, true, true, true, false] HT_ ?_
           refine pq 31 (some 84) #[true, true, true, true, true, true, true, true, true, true, true, true, true, true, true, true, true, true, true, true, true, true, true, true, true, true, true, true, true, true, true, true] HT_ ?_
           refine done_ (done_of HT_.out (by kernel_rfl)) ?_
           try go_wp2
           go_meet
           case rel => exact ⟨_, (!bQ), (by first | rfl | (simp; done) | (simp [*]; done) | (cases bQ <;> first | rfl | (simp; done))), H', ⟨by have := HJ5.out; have := HJ57.out; first | omega | exact Nat.le_refl _⟩, ⟨by (with_reducible repeat (first | apply Kd.V_alloc | apply Kd.V_drewN | apply Kd.V_drew)); exact aa.out⟩, ⟨by (with_reducible repeat (first | apply Kd.V_alloc | apply Kd.V_drewN | apply Kd.V_drew)); exact ab.out⟩, ⟨by (with_reducible repeat (first | apply Kd.V_alloc | apply Kd.V_drewN | apply Kd.V_drew)); exact ae.out⟩, ⟨by (with_reducible repeat (first | refine blk_drewN ?_ _ | refine blk_drew ?_ | refine blk_alloc ?_ _)); exact ac.out⟩, ⟨by (with_reducible repeat (first | refine blk_drewN ?_ _ | refine blk_drew ?_ | refine blk_alloc ?_ _)); exact ad.out⟩, ⟨by (with_reducible repeat (first | refine blk_drewN ?_ _ | refine blk_drew ?_ | refine blk_alloc ?_ _)); exact af.out⟩, ⟨by (with_reducible repeat (first | refine blk_drewN ?_ _ | refine blk_drew ?_ | refine blk_alloc ?_ _)); exact ag.out⟩, ⟨by repeat (first | (with_reducible first | exact HB.out | apply below_alloc | apply pw_below_drewN | apply below_drew1 | refine below_set ?_ ah.out | refine below_set ?_ ai.out | refine below_set ?_ aj.out | refine below_set ?_ ak.out) | exact HB.out)⟩⟩
          ·
           replace cg := Bool.eq_false_iff.mpr cg
           subst cg
           have H1 : (codewrightlaw46_SemiringLeasts.j2 kj57 true a0_0 l0_1 a1_0 l1_1 a2_0 l2_1) = some r := by rw [if_neg (show ¬ (false = true) by decide)] at H; exact H
           clear H
           have H := H1
           clear H1
           have H' := am H
           clear H
           try go_wp2
           replace aa := am (Kd.V_drew aa.out)
           replace ab := am (Kd.V_drew ab.out)
           replace ae := am (Kd.V_drew ae.out)
           replace ac := am (blk_drew ac.out)
           replace ad := am (blk_drew ad.out)
           replace af := am (blk_drew af.out)
           replace ag := am (blk_drew ag.out)
           replace HB := am (below_drew1 HB.out)
           refine start_ (n := 32) (S := fun w' => w'.cell? ⟨al, 0, none⟩ = some (.int .i64 a0_0) ∧ w'.cell? ⟨al, 1, none⟩ = some (.slice A0_1 l0_1.length c0_1) ∧ w'.cell? ⟨an, 0, none⟩ = some (.int .i64 a1_0) ∧ w'.cell? ⟨an, 1, none⟩ = some (.slice A1_1 l1_1.length c1_1)) (ds := []) #[false, false, false, false, false, false, false, false, false, false, false, false, false, false, false, false, false, false, false, false, false, false, false, false, false, false, false, false, false, false, false, false] (by kernel_rfl) rfl rfl ⟨bc ac 0, bc ac 1, bc ad 0, bc ad 1⟩ (fun hHeld => ?_); refine with_tabW codewrightlaw46_SemiringLeasts.tab8 codewrightlaw46_SemiringLeasts.bits8 (fun HT_ HW_ => ?_)
           generalize wc.drew = hW at aa ab ae ac ad af ag HB hHeld ⊢
           refine tq 0 (some 53) #[true, false, false, false, false, false, false, false, false, false, false, false, false, false, false, false, false, false, false, false, false, false, false, false, false, false, false, false, false, false, false, false] HT_ HW_ hHeld ?_
           refine tq 1 (some 54) #[true, true, false, false, false, false, false, false, false, false, false, false, false, false, false, false, false, false, false, false, false, false, false, false, false, false, false, false, false, false, false, false] HT_ HW_ hHeld ?_
           refine tq 2 (some 55) #[true, true, true, false, false, false, false, false, false, false, false, false, false, false, false, false, false, false, false, false, false, false, false, false, false, false, false, false, false, false, false, false] HT_ HW_ hHeld ?_
           refine tq 4 (some 57) #[true, true, true, false, true, false, false, false, false, false, false, false, false, false, false, false, false, false, false, false, false, false, false, false, false, false, false, false, false, false, false, false] HT_ HW_ hHeld ?_
           refine tq 6 (some 59) #[true, true, true, false, true, false, true, false, false, false, false, false, false, false, false, false, false, false, false, false, false, false, false, false, false, false, false, false, false, false, false, false] HT_ HW_ hHeld ?_
           refine one_ (i := 3) (N := some 56) #[true, true, true, true, true, false, true, false, false, false, false, false, false, false, false, false, false, false, false, false, false, false, false, false, false, false, false, false, false, false, false, false] rfl rfl (one_of HT_.out (by kernel_rfl)) (by decide) (fun K hK => ?_)
           refine goes_ Try.func68 (by kernel_rfl) rfl #[.agg #[], .agg #[.int .i64 a0_0, .slice A0_1 l0_1.length c0_1], .agg #[.int .i64 a1_0, .slice A1_1 l1_1.length c1_1]] (by rfl) rfl rfl lu ?_
           with_reducible refine (semiring_Leasts_Same.calls kj57  a0_0 _ _ l0_1 a1_0 _ _ l1_1 a4 _ ?side1 ?side2 ?side3 ?side4 f1.out).mono ?_
           (case side1 => exact cu (Kd.V_reads' aa.out).2.2)
           (case side2 => exact (Kd.V_reads' aa.out).2.1)
           (case side3 => exact cu (Kd.V_reads' ab.out).2.2)
           (case side4 => exact (Kd.V_reads' ab.out).2.1)
           rintro e hX ⟨rfl, hb⟩
           refine ⟨_, rfl, ?_⟩
           replace aa := kv aa hb
           replace ab := kv ab hb
           replace ae := kv ae hb
           replace ac := kb ac hb
           replace ad := kb ad hb
           replace af := kb af hb
           replace ag := kb ag hb
           replace HB := be4 HB ah ai aj ak hb
           (try clear hb)
           (try clear hb2)
           (try clear hk)
           (try clear hi)
           refine hK.out _ _ ⟨bc ac 0, bc ac 1, bc ad 0, bc ad 1⟩ (fun hHeld => ?_)
           clear hK K
           refine nq 56 ?_
           refine one_ (i := 5) (N := some 58) #[true, true, true, true, true, true, true, false, false, false, false, false, false, false, false, false, false, false, false, false, false, false, false, false, false, false, false, false, false, false, false, false] rfl rfl (one_of HT_.out (by kernel_rfl)) (by decide) (fun K hK => ?_)
           refine goes_ Try.func69 (by kernel_rfl) rfl #[.agg #[.int .i64 a0_0, .slice A0_1 l0_1.length c0_1]] (by rfl) rfl rfl lu ?_
           with_reducible refine (codewrightref46_Least.calls kj57 a0_0 _ _ l0_1 bp bq _ ?side1 ?side2 f2.out).mono ?_
           (case side1 => exact cu (Kd.V_reads' aa.out).2.2)
           (case side2 => exact (Kd.V_reads' aa.out).2.1)
           rintro e hY ⟨ef, rfl, ax, hb⟩
           refine ⟨_, rfl, ?_⟩
           replace aa := kv aa hb
           replace ab := kv ab hb
           replace ae := kv ae hb
           have aw := ar0 w.heap.size (ok' := fun k_ => ((P0_1_ k_ ∨ P1_1_ k_ ∨ P2_1_ k_) ∨ w.heap.size ≤ k_) ∧ k_ ≠ al ∧ k_ ≠ an ∧ k_ ≠ ao ∧ k_ ≠ ap) ax (fa (fz4 HB ah ai aj ak) (fa (fb ac) (fa (fb ad) (fa (fb af) (fb ag)))))
           replace ac := kb ac hb
           replace ad := kb ad hb
           replace af := kb af hb
           replace ag := kb ag hb
           replace HB := be4 HB ah ai aj ak hb
           (try clear hb)
           (try clear hb2)
           (try clear hk)
           (try clear hi)
           (try clear ax)
           refine hK.out _ _ ⟨bc ac 0, bc ac 1, bc ad 0, bc ad 1⟩ (fun hHeld => ?_)
           clear hK K
           refine nq 58 ?_
           refine one_ (i := 7) (N := some 60) #[true, true, true, true, true, true, true, true, false, false, false, false, false, false, false, false, false, false, false, false, false, false, false, false, false, false, false, false, false, false, false, false] rfl rfl (one_of HT_.out (by kernel_rfl)) (by decide) (fun K hK => ?_)
           refine goes_ Try.func69 (by kernel_rfl) rfl #[.agg #[.int .i64 a1_0, .slice A1_1 l1_1.length c1_1]] (by rfl) rfl rfl lu ?_
           with_reducible refine (codewrightref46_Least.calls kj57 a1_0 _ _ l1_1 br bv _ ?side1 ?side2 f3.out).mono ?_
           (case side1 => exact cu (Kd.V_reads' ab.out).2.2)
           (case side2 => exact (Kd.V_reads' ab.out).2.1)
           rintro e hZ ⟨eg, rfl, ax, hb⟩
           refine ⟨_, rfl, ?_⟩
           replace aa := kv aa hb
           replace ab := kv ab hb
           replace ae := kv ae hb
           replace aw := kv aw hb
           have az := ar0 w.heap.size (ok' := fun k_ => ((P0_1_ k_ ∨ P1_1_ k_ ∨ P2_1_ k_) ∨ w.heap.size ≤ k_) ∧ k_ ≠ al ∧ k_ ≠ an ∧ k_ ≠ ao ∧ k_ ≠ ap) ax (fa (fz4 HB ah ai aj ak) (fa (fb ac) (fa (fb ad) (fa (fb af) (fb ag)))))
           replace ac := kb ac hb
           replace ad := kb ad hb
           replace af := kb af hb
           replace ag := kb ag hb
           replace HB := be4 HB ah ai aj ak hb
           (try clear hb)
           (try clear hb2)
           (try clear hk)
           (try clear hi)
           (try clear ax)
           obtain ⟨ew, ex, cM⟩ := Kd.V_slice aw.out
           (first | subst cM | (injection cM with f1_ f2_ f3_; have f4_ := f1_.symm; have f5_ := f3_.symm; clear f1_ f2_ f3_; subst f4_; subst f5_))
           obtain ⟨ey, ez, cN⟩ := Kd.V_slice az.out
           (first | subst cN | (injection cN with f1_ f2_ f3_; have f4_ := f1_.symm; have f5_ := f3_.symm; clear f1_ f2_ f3_; subst f4_; subst f5_))
           refine hK.out _ _ ⟨bc ac 0, bc ac 1, bc ad 0, bc ad 1⟩ (fun hHeld => ?_)
           clear hK K
           refine nq 60 ?_
           refine one_ (i := 8) (N := some 61) #[true, true, true, true, true, true, true, true, true, false, false, false, false, false, false, false, false, false, false, false, false, false, false, false, false, false, false, false, false, false, false, false] rfl rfl (one_of HT_.out (by kernel_rfl)) (by decide) (fun K hK => ?_)
           refine goes_ Try.func60 (by kernel_rfl) rfl #[.agg #[.int .i64 bp, .slice ew bq.length ex], .agg #[.int .i64 br, .slice ey bv.length ez]] (by rfl) rfl rfl lu ?_
           with_reducible refine (codewrightref46_SameLeast.calls kj57 bp _ _ bq br _ _ bv a5 _ ?side1 ?side2 ?side3 ?side4 f4.out).mono ?_
           (case side1 => exact cu (Kd.V_reads' aw.out).2.2)
           (case side2 => exact (Kd.V_reads' aw.out).2.1)
           (case side3 => exact cu (Kd.V_reads' az.out).2.2)
           (case side4 => exact (Kd.V_reads' az.out).2.1)
           rintro e h0 ⟨rfl, hb⟩
           refine ⟨_, rfl, ?_⟩
           replace aa := kv aa hb
           replace ab := kv ab hb
           replace ae := kv ae hb
           replace aw := kv aw hb
           replace az := kv az hb
           replace ac := kb ac hb
           replace ad := kb ad hb
           replace af := kb af hb
           replace ag := kb ag hb
           replace HB := be4 HB ah ai aj ak hb
           (try clear hb)
           (try clear hb2)
           (try clear hk)
           (try clear hi)
           refine hK.out _ _ ⟨bc ac 0, bc ac 1, bc ad 0, bc ad 1⟩ (fun hHeld => ?_)
           clear hK K
           refine nq 61 ?_
           refine pq 9 (some 62) #[true, true, true, true, true, true, true, true, true, true, false, false, false, false, false, false, false, false, false, false, false, false, false, false, false, false, false, false, false, false, false, false] HT_ ?_
           refine pq 10 (some 63) #[true, true, true, true, true, true, true, true, true, true, true, false, false, false, false, false, false, false, false, false, false, false, false, false, false, false, false, false, false, false, false, false] HT_ ?_
           refine tq 11 (some 64) #[true, true, true, true, true, true, true, true, true, true, true, true, false, false, false, false, false, false, false, false, false, false, false, false, false, false, false, false, false, false, false, false] HT_ HW_ hHeld ?_
           refine tq 12 (some 65) #[true, true, true, true, true, true, true, true, true, true, true, true, true, false, false, false, false, false, false, false, false, false, false, false, false, false, false, false, false, false, false, false] HT_ HW_ hHeld ?_
           refine tq 13 (some 66) #[true, true, true, true, true, true, true, true, true, true, true, true, true, true, false, false, false, false, false, false, false, false, false, false, false, false, false, false, false, false, false, false] HT_ HW_ hHeld ?_
           refine tq 14 (some 67) #[true, true, true, true, true, true, true, true, true, true, true, true, true, true, true, false, false, false, false, false, false, false, false, false, false, false, false, false, false, false, false, false] HT_ HW_ hHeld ?_
           refine tq 17 (some 70) #[true, true, true, true, true, true, true, true, true, true, true, true, true, true, true, false, false, true, false, false, false, false, false, false, false, false, false, false, false, false, false, false] HT_ HW_ hHeld ?_
           refine one_ (i := 15) (N := some 68) #[true, true, true, true, true, true, true, true, true, true, true, true, true, true, true, true, false, true, false, false, false, false, false, false, false, false, false, false, false, false, false, false] rfl rfl (one_of HT_.out (by kernel_rfl)) (by decide) (fun K hK => ?_)
           refine goes_ Try.func61 (by kernel_rfl) rfl #[.agg #[]] (by rfl) rfl rfl lu ?_
           with_reducible refine (semiring_Leasts_Zero.calls  b6 b7 _ hj.out).mono ?_
           rintro e h1 ⟨gc, rfl, ax, hb⟩
           refine ⟨_, rfl, ?_⟩
           replace ax := R_V_base rfl ax
           replace aa := kv aa hb
           replace ab := kv ab hb
           replace ae := kv ae hb
           replace aw := kv aw hb
           replace az := kv az hb
           have aH := ar0 w.heap.size (ok' := fun k_ => ((P0_1_ k_ ∨ P1_1_ k_ ∨ P2_1_ k_) ∨ w.heap.size ≤ k_) ∧ k_ ≠ al ∧ k_ ≠ an ∧ k_ ≠ ao ∧ k_ ≠ ap) ax (fa (fz4 HB ah ai aj ak) (fa (fb ac) (fa (fb ad) (fa (fb af) (fb ag)))))
           replace ac := kb ac hb
           replace ad := kb ad hb
           replace af := kb af hb
           replace ag := kb ag hb
           replace HB := be4 HB ah ai aj ak hb
           (try clear hb)
           (try clear hb2)
           (try clear hk)
           (try clear hi)
           (try clear ax)
           obtain ⟨eA, eB, cO⟩ := Kd.V_slice aH.out
           (first | subst cO | (injection cO with f1_ f2_ f3_; have f4_ := f1_.symm; have f5_ := f3_.symm; clear f1_ f2_ f3_; subst f4_; subst f5_))
           refine hK.out _ _ ⟨bc ac 0, bc ac 1, bc ad 0, bc ad 1⟩ (fun hHeld => ?_)
           clear hK K
           refine nq 68 ?_
           refine one_ (i := 16) (N := some 69) #[true, true, true, true, true, true, true, true, true, true, true, true, true, true, true, true, true, true, false, false, false, false, false, false, false, false, false, false, false, false, false, false] rfl rfl (one_of HT_.out (by kernel_rfl)) (by decide) (fun K hK => ?_)
           refine goes_ Try.func64 (by kernel_rfl) rfl #[.agg #[], .agg #[.int .i64 a0_0, .slice A0_1 l0_1.length c0_1], .agg #[.int .i64 b6, .slice eA b7.length eB]] (by rfl) rfl rfl lu ?_
           with_reducible refine (semiring_Leasts_Add.calls kj57  a0_0 _ _ l0_1 b6 _ _ b7 b8 b9 _ ?side1 ?side2 ?side3 ?side4 hl.out).mono ?_
           (case side1 => exact cu (Kd.V_reads' aa.out).2.2)
           (case side2 => exact (Kd.V_reads' aa.out).2.1)
           (case side3 => exact cu (Kd.V_reads' aH.out).2.2)
           (case side4 => exact (Kd.V_reads' aH.out).2.1)
           rintro e h2 ⟨gd, rfl, ax, hb⟩
           refine ⟨_, rfl, ?_⟩
           replace aa := kv aa hb
           replace ab := kv ab hb
           replace ae := kv ae hb
           replace aw := kv aw hb
           replace az := kv az hb
           replace aH := kv aH hb
           have aM := ar0 w.heap.size (ok' := fun k_ => ((P0_1_ k_ ∨ P1_1_ k_ ∨ P2_1_ k_) ∨ w.heap.size ≤ k_) ∧ k_ ≠ al ∧ k_ ≠ an ∧ k_ ≠ ao ∧ k_ ≠ ap) ax (fa (fz4 HB ah ai aj ak) (fa (fb ac) (fa (fb ad) (fa (fb af) (fb ag)))))
           replace ac := kb ac hb
           replace ad := kb ad hb
           replace af := kb af hb
           replace ag := kb ag hb
           replace HB := be4 HB ah ai aj ak hb
           (try clear hb)
           (try clear hb2)
           (try clear hk)
           (try clear hi)
           (try clear ax)
           obtain ⟨eC, eD, cP⟩ := Kd.V_slice aM.out
           (first | subst cP | (injection cP with f1_ f2_ f3_; have f4_ := f1_.symm; have f5_ := f3_.symm; clear f1_ f2_ f3_; subst f4_; subst f5_))
           refine hK.out _ _ ⟨bc ac 0, bc ac 1, bc ad 0, bc ad 1⟩ (fun hHeld => ?_)
           clear hK K
           refine nq 69 ?_
           refine one_ (i := 18) (N := some 71) #[true, true, true, true, true, true, true, true, true, true, true, true, true, true, true, true, true, true, true, false, false, false, false, false, false, false, false, false, false, false, false, false] rfl rfl (one_of HT_.out (by kernel_rfl)) (by decide) (fun K hK => ?_)
           refine goes_ Try.func68 (by kernel_rfl) rfl #[.agg #[], .agg #[.int .i64 b8, .slice eC b9.length eD], .agg #[.int .i64 a0_0, .slice A0_1 l0_1.length c0_1]] (by rfl) rfl rfl lu ?_
           with_reducible refine (semiring_Leasts_Same.calls kj57  b8 _ _ b9 a0_0 _ _ l0_1 false _ ?side1 ?side2 ?side3 ?side4 hm.out).mono ?_
           (case side1 => exact cu (Kd.V_reads' aM.out).2.2)
           (case side2 => exact (Kd.V_reads' aM.out).2.1)
           (case side3 => exact cu (Kd.V_reads' aa.out).2.2)
           (case side4 => exact (Kd.V_reads' aa.out).2.1)
           rintro e h3 ⟨rfl, hb⟩
           refine ⟨_, rfl, ?_⟩
           replace aa := kv aa hb
           replace ab := kv ab hb
           replace ae := kv ae hb
           replace aw := kv aw hb
           replace az := kv az hb
           replace aH := kv aH hb
           replace aM := kv aM hb
           replace ac := kb ac hb
           replace ad := kb ad hb
           replace af := kb af hb
           replace ag := kb ag hb
           replace HB := be4 HB ah ai aj ak hb
           (try clear hb)
           (try clear hb2)
           (try clear hk)
           (try clear hi)
           refine hK.out _ _ ⟨bc ac 0, bc ac 1, bc ad 0, bc ad 1⟩ (fun hHeld => ?_)
           clear hK K
           refine nq 71 ?_
           refine pq 19 (some 72) #[true, true, true, true, true, true, true, true, true, true, true, true, true, true, true, true, true, true, true, true, false, false, false, false, false, false, false, false, false, false, false, false] HT_ ?_
           refine pq 20 (some 73) #[true, true, true, true, true, true, true, true, true, true, true, true, true, true, true, true, true, true, true, true, true, false, false, false, false, false, false, false, false, false, false, false] HT_ ?_
           refine pq 21 (some 74) #[true, true, true, true, true, true, true, true, true, true, true, true, true, true, true, true, true, true, true, true, true, true, false, false, false, false, false, false, false, false, false, false] HT_ ?_
           refine pure_ (i := 22) (N := some 75) (v := undef) (a' := ?_) #[true, true, true, true, true, true, true, true, true, true, true, true, true, true, true, true, true, true, true, true, true, true, true, false, false, false, false, false, false, false, false, false] rfl rfl (any_of HT_.out (by kernel_rfl)) (fun _ _ _ h => h) (Or.inr ⟨by rfl, rfl⟩) ?_ ?_
           rotate_left
           ·
            simp only [Act.put, List.setIfInBounds_toArray, List.set_cons_zero, List.set_cons_succ, i64_w, i32_w]
            rfl
           refine pure_ (i := 23) (N := some 76) (v := undef) (a' := ?_) #[true, true, true, true, true, true, true, true, true, true, true, true, true, true, true, true, true, true, true, true, true, true, true, true, false, false, false, false, false, false, false, false] rfl rfl (any_of HT_.out (by kernel_rfl)) (fun _ _ _ h => h) (Or.inr ⟨by rfl, rfl⟩) ?_ ?_
           rotate_left
           ·
            simp only [Act.put, List.setIfInBounds_toArray, List.set_cons_zero, List.set_cons_succ, i64_w, i32_w]
            rfl
           refine pure_ (i := 24) (N := some 77) (v := undef) (a' := ?_) #[true, true, true, true, true, true, true, true, true, true, true, true, true, true, true, true, true, true, true, true, true, true, true, true, true, false, false, false, false, false, false, false] rfl rfl (any_of HT_.out (by kernel_rfl)) (fun _ _ _ h => h) (Or.inr ⟨by rfl, rfl⟩) ?_ ?_
           rotate_left
           ·
            simp only [Act.put, List.setIfInBounds_toArray, List.set_cons_zero, List.set_cons_succ, i64_w, i32_w]
            rfl
           refine pure_ (i := 25) (N := some 78) (v := undef) (a' := ?_) #[true, true, true, true, true, true, true, true, true, true, true, true, true, true, true, true, true, true, true, true, true, true, true, true, true, true, false, false, false, false, false, false] rfl rfl (any_of HT_.out (by kernel_rfl)) (fun _ _ _ h => h) (Or.inr ⟨by rfl, rfl⟩) ?_ ?_
           rotate_left
           ·
            simp only [Act.put, List.setIfInBounds_toArray, List.set_cons_zero, List.set_cons_succ, i64_w, i32_w]
            rfl
           refine pure_ (i := 26) (N := some 79) (v := undef) (a' := ?_) #[true, true, true, true, true, true, true, true, true, true, true, true, true, true, true, true, true, true, true, true, true, true, true, true, true, true, true, false, false, false, false, false] rfl rfl (any_of HT_.out (by kernel_rfl)) (fun _ _ _ h => h) (Or.inr ⟨by rfl, rfl⟩) ?_ ?_
           rotate_left
           ·
            simp only [Act.put, List.setIfInBounds_toArray, List.set_cons_zero, List.set_cons_succ, i64_w, i32_w]
            rfl
           refine pure_ (i := 27) (N := some 80) (v := undef) (a' := ?_) #[true, true, true, true, true, true, true, true, true, true, true, true, true, true, true, true, true, true, true, true, true, true, true, true, true, true, true, true, false, false, false, false] rfl rfl (any_of HT_.out (by kernel_rfl)) (fun _ _ _ h => h) (Or.inr ⟨by rfl, rfl⟩) ?_ ?_
           rotate_left
           ·
            simp only [Act.put, List.setIfInBounds_toArray, List.set_cons_zero, List.set_cons_succ, i64_w, i32_w]
            rfl
           refine pure_ (i := 28) (N := some 81) (v := undef) (a' := ?_) #[true, true, true, true, true, true, true, true, true, true, true, true, true, true, true, true, true, true, true, true, true, true, true, true, true, true, true, true, true, false, false, false] rfl rfl (any_of HT_.out (by kernel_rfl)) (fun _ _ _ h => h) (Or.inr ⟨by rfl, rfl⟩) ?_ ?_
           rotate_left
           ·
            simp only [Act.put, List.setIfInBounds_toArray, List.set_cons_zero, List.set_cons_succ, i64_w, i32_w]
            rfl
           refine pure_ (i := 29) (N := some 82) (v := undef) (a' := ?_) #[true, true, true, true, true, true, true, true, true, true, true, true, true, true, true, true, true, true, true, true, true, true, true, true, true, true, true, true, true, true, false, false] rfl rfl (any_of HT_.out (by kernel_rfl)) (fun _ _ _ h => h) (Or.inr ⟨by rfl, rfl⟩) ?_ ?_
           rotate_left
           ·
            simp only [Act.put, List.setIfInBounds_toArray, List.set_cons_zero, List.set_cons_succ, i64_w, i32_w]
            rfl
           refine pure_ (i := 30) (N := some 83) (v := undef) (a' := ?_) #[true, true, true, true, true, true, true, true, true, true, true, true, true, true, true, true, true, true, true, true, true, true, true, true, true, true, true, true, true, true, true, false] rfl rfl (any_of HT_.out (by kernel_rfl)) (fun _ _ _ h => h) (Or.inr ⟨by rfl, rfl⟩) ?_ ?_
           rotate_left
           ·
            simp only [Act.put, List.setIfInBounds_toArray, List.set_cons_zero, List.set_cons_succ, i64_w, i32_w]
            rfl
           refine pq 31 (some 84) #[true, true, true, true, true, true, true, true, true, true, true, true, true, true, true, true, true, true, true, true, true, true, true, true, true, true, true, true, true, true, true, true] HT_ ?_
           refine done_ (done_of HT_.out (by kernel_rfl)) ?_
           try go_wp2
           go_meet
           case rel => exact ⟨_, (true), (by first | rfl | (simp; done) | (simp [*]; done)), H', ⟨by have := HJ5.out; have := HJ57.out; first | omega | exact Nat.le_refl _⟩, ⟨by (with_reducible repeat (first | apply Kd.V_alloc | apply Kd.V_drewN | apply Kd.V_drew)); exact aa.out⟩, ⟨by (with_reducible repeat (first | apply Kd.V_alloc | apply Kd.V_drewN | apply Kd.V_drew)); exact ab.out⟩, ⟨by (with_reducible repeat (first | apply Kd.V_alloc | apply Kd.V_drewN | apply Kd.V_drew)); exact ae.out⟩, ⟨by (with_reducible repeat (first | refine blk_drewN ?_ _ | refine blk_drew ?_ | refine blk_alloc ?_ _)); exact ac.out⟩, ⟨by (with_reducible repeat (first | refine blk_drewN ?_ _ | refine blk_drew ?_ | refine blk_alloc ?_ _)); exact ad.out⟩, ⟨by (with_reducible repeat (first | refine blk_drewN ?_ _ | refine blk_drew ?_ | refine blk_alloc ?_ _)); exact af.out⟩, ⟨by (with_reducible repeat (first | refine blk_drewN ?_ _ | refine blk_drew ?_ | refine blk_alloc ?_ _)); exact ag.out⟩, ⟨by repeat (first | (with_reducible first | exact HB.out | apply below_alloc | apply pw_below_drewN | apply below_drew1 | refine below_set ?_ ah.out | refine below_set ?_ ai.out | refine below_set ?_ aj.out | refine below_set ?_ ak.out) | exact HB.out)⟩⟩
        case rest =>
         clear dr
         try clear c1
         try clear c2
         try clear p2
         try clear c6
         try clear c10
         try clear c60
         try clear c61
         try clear c64
         try clear c68
         try clear c69
         try clear cg
         obtain ⟨kq, bo, rfl, HA, HJ83, aa, ab, ae, ac, ad, af, ag, HB⟩ := hcut
         cases kq with
         | zero => exact absurd HA.out (by simp [codewrightlaw46_SemiringLeasts.j2])
         | succ kj83 =>
          have H := HA.out
          clear HA
          simp only [codewrightlaw46_SemiringLeasts.j2] at H
          by_cases cw : bo = true
          ·
           subst cw
           have H1 : (none) = some r := by rw [if_pos rfl] at H; exact H
           clear H
           have H := H1
           clear H1
           exact absurd H (by simp)
          ·
           replace cw := Bool.eq_false_iff.mpr cw
           subst cw
           have H1 : ((semiring_Leasts_Add.f kj83 a1_0 l1_1 a2_0 l2_1).bind fun cQ => ((semiring_Leasts_Mul.f kj83 a0_0 l0_1 cQ.1 cQ.2).bind fun cR => ((semiring_Leasts_Mul.f kj83 a0_0 l0_1 a1_0 l1_1).bind fun cS => ((semiring_Leasts_Mul.f kj83 a0_0 l0_1 a2_0 l2_1).bind fun cT => ((semiring_Leasts_Add.f kj83 cS.1 cS.2 cT.1 cT.2).bind fun cU => ((codewrightref46_SameLeast.f kj83 cR.1 cR.2 cU.1 cU.2).bind fun dx => (if dx = true then ((semiring_Leasts_Add.f kj83 a1_0 l1_1 a2_0 l2_1).bind fun bJ => ((semiring_Leasts_Add.f kj83 a0_0 l0_1 bJ.1 bJ.2).bind fun bK => ((semiring_Leasts_Add.f kj83 a0_0 l0_1 a1_0 l1_1).bind fun bL => ((semiring_Leasts_Add.f kj83 bL.1 bL.2 a2_0 l2_1).bind fun bM => ((codewrightref46_SameLeast.f kj83 bK.1 bK.2 bM.1 bM.2).bind fun ch => (if ch = true then ((semiring_Leasts_Mul.f kj83 a1_0 l1_1 a2_0 l2_1).bind fun a7 => ((semiring_Leasts_Mul.f kj83 a0_0 l0_1 a7.1 a7.2).bind fun a8 => ((semiring_Leasts_Mul.f kj83 a0_0 l0_1 a1_0 l1_1).bind fun a9 => ((semiring_Leasts_Mul.f kj83 a9.1 a9.2 a2_0 l2_1).bind fun ba => ((codewrightref46_SameLeast.f kj83 a8.1 a8.2 ba.1 ba.2).bind fun bN => (some bN)))))) else (none))))))) else (none)))))))) = some r := by rw [if_neg (show ¬ (false = true) by decide)] at H; exact H
           clear H
           have H := H1
           clear H1
           obtain ⟨⟨dy, dz⟩, ge, H⟩ := bs H
           (try dsimp -simprocs only at H)
           obtain ⟨⟨dA, dB⟩, gf, H⟩ := bs H
           (try dsimp -simprocs only at H)
           obtain ⟨⟨dC, dD⟩, gg, H⟩ := bs H
           (try dsimp -simprocs only at H)
           obtain ⟨⟨dE, dF⟩, gh, H⟩ := bs H
           (try dsimp -simprocs only at H)
           obtain ⟨⟨dG, dH⟩, gi, H⟩ := bs H
           (try dsimp -simprocs only at H)
           obtain ⟨dx, gj, H⟩ := bs H
           (try dsimp -simprocs only at H)
           by_cases cx : dx = true
           ·
            subst cx
            have H1 : ((semiring_Leasts_Add.f kj83 a1_0 l1_1 a2_0 l2_1).bind fun bJ => ((semiring_Leasts_Add.f kj83 a0_0 l0_1 bJ.1 bJ.2).bind fun bK => ((semiring_Leasts_Add.f kj83 a0_0 l0_1 a1_0 l1_1).bind fun bL => ((semiring_Leasts_Add.f kj83 bL.1 bL.2 a2_0 l2_1).bind fun bM => ((codewrightref46_SameLeast.f kj83 bK.1 bK.2 bM.1 bM.2).bind fun ch => (if ch = true then ((semiring_Leasts_Mul.f kj83 a1_0 l1_1 a2_0 l2_1).bind fun a7 => ((semiring_Leasts_Mul.f kj83 a0_0 l0_1 a7.1 a7.2).bind fun a8 => ((semiring_Leasts_Mul.f kj83 a0_0 l0_1 a1_0 l1_1).bind fun a9 => ((semiring_Leasts_Mul.f kj83 a9.1 a9.2 a2_0 l2_1).bind fun ba => ((codewrightref46_SameLeast.f kj83 a8.1 a8.2 ba.1 ba.2).bind fun bN => (some bN)))))) else (none))))))) = some r := by rw [if_pos rfl] at H; exact H
            clear H
            have H := H1
            clear H1
            obtain ⟨⟨dI, dJ⟩, gk, H⟩ := bs H
            (try dsimp -simprocs only at H)
            obtain ⟨⟨dK, dL⟩, gl, H⟩ := bs H
            (try dsimp -simprocs only at H)
            obtain ⟨⟨dM, dN⟩, gm, H⟩ := bs H
            (try dsimp -simprocs only at H)
            obtain ⟨⟨dO, dP⟩, gn, H⟩ := bs H
            (try dsimp -simprocs only at H)
            obtain ⟨ch, gp, H⟩ := bs H
            (try dsimp -simprocs only at H)
            by_cases cy : ch = true
            ·
             subst cy
             have H1 : ((semiring_Leasts_Mul.f kj83 a1_0 l1_1 a2_0 l2_1).bind fun a7 => ((semiring_Leasts_Mul.f kj83 a0_0 l0_1 a7.1 a7.2).bind fun a8 => ((semiring_Leasts_Mul.f kj83 a0_0 l0_1 a1_0 l1_1).bind fun a9 => ((semiring_Leasts_Mul.f kj83 a9.1 a9.2 a2_0 l2_1).bind fun ba => ((codewrightref46_SameLeast.f kj83 a8.1 a8.2 ba.1 ba.2).bind fun bN => (some bN)))))) = some r := by rw [if_pos rfl] at H; exact H
             clear H
             have H := H1
             clear H1
             obtain ⟨⟨dQ, dR⟩, gq, H⟩ := bs H
             (try dsimp -simprocs only at H)
             obtain ⟨⟨dS, dT⟩, gr, H⟩ := bs H
             (try dsimp -simprocs only at H)
             obtain ⟨⟨dU, dV⟩, gs, H⟩ := bs H
             (try dsimp -simprocs only at H)
             obtain ⟨⟨dW, dX⟩, gt, H⟩ := bs H
             (try dsimp -simprocs only at H)
             obtain ⟨bN, gu, H⟩ := bs H
             replace H : (some bN) = some r := H
             obtain rfl := Option.some.inj H
             try go_wp2
             replace aa := am (Kd.V_drew aa.out)
             replace ab := am (Kd.V_drew ab.out)
             replace ae := am (Kd.V_drew ae.out)
             replace ac := am (blk_drew ac.out)
             replace ad := am (blk_drew ad.out)
             replace af := am (blk_drew af.out)
             replace ag := am (blk_drew ag.out)
             replace HB := am (below_drew1 HB.out)
             refine start_ (n := 19) (S := fun w' => w'.cell? ⟨al, 0, none⟩ = some (.int .i64 a0_0) ∧ w'.cell? ⟨al, 1, none⟩ = some (.slice A0_1 l0_1.length c0_1) ∧ w'.cell? ⟨an, 0, none⟩ = some (.int .i64 a1_0) ∧ w'.cell? ⟨an, 1, none⟩ = some (.slice A1_1 l1_1.length c1_1) ∧ w'.cell? ⟨ao, 0, none⟩ = some (.int .i64 a2_0) ∧ w'.cell? ⟨ao, 1, none⟩ = some (.slice A2_1 l2_1.length c2_1)) (ds := []) #[false, false, false, false, false, false, false, false, false, false, false, false, false, false, false, false, false, false, false] (by kernel_rfl) rfl rfl ⟨bc ac 0, bc ac 1, bc ad 0, bc ad 1, bc af 0, bc af 1⟩ (fun hHeld => ?_); refine with_tabW codewrightlaw46_SemiringLeasts.tab10 codewrightlaw46_SemiringLeasts.bits10 (fun HT_ HW_ => ?_)
             generalize wc.drew = h4 at aa ab ae ac ad af ag HB hHeld ⊢
             refine tq 0 (some 85) #[true, false, false, false, false, false, false, false, false, false, false, false, false, false, false, false, false, false, false] HT_ HW_ hHeld ?_
             refine tq 1 (some 86) #[true, true, false, false, false, false, false, false, false, false, false, false, false, false, false, false, false, false, false] HT_ HW_ hHeld ?_
             refine tq 2 (some 87) #[true, true, true, false, false, false, false, false, false, false, false, false, false, false, false, false, false, false, false] HT_ HW_ hHeld ?_
             refine tq 3 (some 88) #[true, true, true, true, false, false, false, false, false, false, false, false, false, false, false, false, false, false, false] HT_ HW_ hHeld ?_
             refine tq 4 (some 89) #[true, true, true, true, true, false, false, false, false, false, false, false, false, false, false, false, false, false, false] HT_ HW_ hHeld ?_
             refine tq 7 (some 92) #[true, true, true, true, true, false, false, true, false, false, false, false, false, false, false, false, false, false, false] HT_ HW_ hHeld ?_
             refine tq 8 (some 93) #[true, true, true, true, true, false, false, true, true, false, false, false, false, false, false, false, false, false, false] HT_ HW_ hHeld ?_
             refine tq 9 (some 94) #[true, true, true, true, true, false, false, true, true, true, false, false, false, false, false, false, false, false, false] HT_ HW_ hHeld ?_
             refine tq 10 (some 95) #[true, true, true, true, true, false, false, true, true, true, true, false, false, false, false, false, false, false, false] HT_ HW_ hHeld ?_
             refine tq 12 (some 97) #[true, true, true, true, true, false, false, true, true, true, true, false, true, false, false, false, false, false, false] HT_ HW_ hHeld ?_
             refine tq 13 (some 98) #[true, true, true, true, true, false, false, true, true, true, true, false, true, true, false, false, false, false, false] HT_ HW_ hHeld ?_
             refine tq 14 (some 99) #[true, true, true, true, true, false, false, true, true, true, true, false, true, true, true, false, false, false, false] HT_ HW_ hHeld ?_
             refine one_ (i := 5) (N := some 90) #[true, true, true, true, true, true, false, true, true, true, true, false, true, true, true, false, false, false, false] rfl rfl (one_of HT_.out (by kernel_rfl)) (by decide) (fun K hK => ?_)
             refine goes_ Try.func64 (by kernel_rfl) rfl #[.agg #[], .agg #[.int .i64 a1_0, .slice A1_1 l1_1.length c1_1], .agg #[.int .i64 a2_0, .slice A2_1 l2_1.length c2_1]] (by rfl) rfl rfl lu ?_
             with_reducible refine (semiring_Leasts_Add.calls kj83  a1_0 _ _ l1_1 a2_0 _ _ l2_1 dy dz _ ?side1 ?side2 ?side3 ?side4 ge.out).mono ?_
             (case side1 => exact cu (Kd.V_reads' ab.out).2.2)
             (case side2 => exact (Kd.V_reads' ab.out).2.1)
             (case side3 => exact cu (Kd.V_reads' ae.out).2.2)
             (case side4 => exact (Kd.V_reads' ae.out).2.1)
             rintro e h5 ⟨h6, rfl, ax, hb⟩
             refine ⟨_, rfl, ?_⟩
             replace aa := kv aa hb
             replace ab := kv ab hb
             replace ae := kv ae hb
             have ay := ar0 w.heap.size (ok' := fun k_ => ((P0_1_ k_ ∨ P1_1_ k_ ∨ P2_1_ k_) ∨ w.heap.size ≤ k_) ∧ k_ ≠ al ∧ k_ ≠ an ∧ k_ ≠ ao ∧ k_ ≠ ap) ax (fa (fz4 HB ah ai aj ak) (fa (fb ac) (fa (fb ad) (fa (fb af) (fb ag)))))
             replace ac := kb ac hb
             replace ad := kb ad hb
             replace af := kb af hb
             replace ag := kb ag hb
             replace HB := be4 HB ah ai aj ak hb
             (try clear hb)
             (try clear hb2)
             (try clear hk)
             (try clear hi)
             (try clear ax)
             obtain ⟨eE, eF, cV⟩ := Kd.V_slice ay.out
             (first | subst cV | (injection cV with f1_ f2_ f3_; have f4_ := f1_.symm; have f5_ := f3_.symm; clear f1_ f2_ f3_; subst f4_; subst f5_))
             refine hK.out _ _ ⟨bc ac 0, bc ac 1, bc ad 0, bc ad 1, bc af 0, bc af 1⟩ (fun hHeld => ?_)
             clear hK K
             refine nq 90 ?_
             refine one_ (i := 6) (N := some 91) #[true, true, true, true, true, true, true, true, true, true, true, false, true, true, true, false, false, false, false] rfl rfl (one_of HT_.out (by kernel_rfl)) (by decide) (fun K hK => ?_)
             refine goes_ Try.func66 (by kernel_rfl) rfl #[.agg #[], .agg #[.int .i64 a0_0, .slice A0_1 l0_1.length c0_1], .agg #[.int .i64 dy, .slice eE dz.length eF]] (by rfl) rfl rfl lu ?_
             with_reducible refine (semiring_Leasts_Mul.calls kj83  a0_0 _ _ l0_1 dy _ _ dz dA dB _ ?side1 ?side2 ?side3 ?side4 gf.out).mono ?_
             (case side1 => exact cu (Kd.V_reads' aa.out).2.2)
             (case side2 => exact (Kd.V_reads' aa.out).2.1)
             (case side3 => exact cu (Kd.V_reads' ay.out).2.2)
             (case side4 => exact (Kd.V_reads' ay.out).2.1)
             rintro e h7 ⟨h8, rfl, ax, hb⟩
             refine ⟨_, rfl, ?_⟩
             replace aa := kv aa hb
             replace ab := kv ab hb
             replace ae := kv ae hb
             replace ay := kv ay hb
             have aA := ar0 w.heap.size (ok' := fun k_ => ((P0_1_ k_ ∨ P1_1_ k_ ∨ P2_1_ k_) ∨ w.heap.size ≤ k_) ∧ k_ ≠ al ∧ k_ ≠ an ∧ k_ ≠ ao ∧ k_ ≠ ap) ax (fa (fz4 HB ah ai aj ak) (fa (fb ac) (fa (fb ad) (fa (fb af) (fb ag)))))
             replace ac := kb ac hb
             replace ad := kb ad hb
             replace af := kb af hb
             replace ag := kb ag hb
             replace HB := be4 HB ah ai aj ak hb
             (try clear hb)
             (try clear hb2)
             (try clear hk)
             (try clear hi)
             (try clear ax)
             refine hK.out _ _ ⟨bc ac 0, bc ac 1, bc ad 0, bc ad 1, bc af 0, bc af 1⟩ (fun hHeld => ?_)
             clear hK K
             refine nq 91 ?_
             refine one_ (i := 11) (N := some 96) #[true, true, true, true, true, true, true, true, true, true, true, true, true, true, true, false, false, false, false] rfl rfl (one_of HT_.out (by kernel_rfl)) (by decide) (fun K hK => ?_)
             refine goes_ Try.func66 (by kernel_rfl) rfl #[.agg #[], .agg #[.int .i64 a0_0, .slice A0_1 l0_1.length c0_1], .agg #[.int .i64 a1_0, .slice A1_1 l1_1.length c1_1]] (by rfl) rfl rfl lu ?_
             with_reducible refine (semiring_Leasts_Mul.calls kj83  a0_0 _ _ l0_1 a1_0 _ _ l1_1 dC dD _ ?side1 ?side2 ?side3 ?side4 gg.out).mono ?_
             (case side1 => exact cu (Kd.V_reads' aa.out).2.2)
             (case side2 => exact (Kd.V_reads' aa.out).2.1)
             (case side3 => exact cu (Kd.V_reads' ab.out).2.2)
             (case side4 => exact (Kd.V_reads' ab.out).2.1)
             rintro e h9 ⟨ia, rfl, ax, hb⟩
             refine ⟨_, rfl, ?_⟩
             replace aa := kv aa hb
             replace ab := kv ab hb
             replace ae := kv ae hb
             replace ay := kv ay hb
             replace aA := kv aA hb
             have aC := ar0 w.heap.size (ok' := fun k_ => ((P0_1_ k_ ∨ P1_1_ k_ ∨ P2_1_ k_) ∨ w.heap.size ≤ k_) ∧ k_ ≠ al ∧ k_ ≠ an ∧ k_ ≠ ao ∧ k_ ≠ ap) ax (fa (fz4 HB ah ai aj ak) (fa (fb ac) (fa (fb ad) (fa (fb af) (fb ag)))))
             replace ac := kb ac hb
             replace ad := kb ad hb
             replace af := kb af hb
             replace ag := kb ag hb
             replace HB := be4 HB ah ai aj ak hb
             (try clear hb)
             (try clear hb2)
             (try clear hk)
             (try clear hi)
             (try clear ax)
             refine hK.out _ _ ⟨bc ac 0, bc ac 1, bc ad 0, bc ad 1, bc af 0, bc af 1⟩ (fun hHeld => ?_)
             clear hK K
             refine nq 96 ?_
             refine one_ (i := 15) (N := some 100) #[true, true, true, true, true, true, true, true, true, true, true, true, true, true, true, true, false, false, false] rfl rfl (one_of HT_.out (by kernel_rfl)) (by decide) (fun K hK => ?_)
             refine goes_ Try.func66 (by kernel_rfl) rfl #[.agg #[], .agg #[.int .i64 a0_0, .slice A0_1 l0_1.length c0_1], .agg #[.int .i64 a2_0, .slice A2_1 l2_1.length c2_1]] (by rfl) rfl rfl lu ?_
             with_reducible refine (semiring_Leasts_Mul.calls kj83  a0_0 _ _ l0_1 a2_0 _ _ l2_1 dE dF _ ?side1 ?side2 ?side3 ?side4 gh.out).mono ?_
             (case side1 => exact cu (Kd.V_reads' aa.out).2.2)
             (case side2 => exact (Kd.V_reads' aa.out).2.1)
             (case side3 => exact cu (Kd.V_reads' ae.out).2.2)
             (case side4 => exact (Kd.V_reads' ae.out).2.1)
             rintro e ib ⟨ic, rfl, ax, hb⟩
             refine ⟨_, rfl, ?_⟩
             replace aa := kv aa hb
             replace ab := kv ab hb
             replace ae := kv ae hb
             replace ay := kv ay hb
             replace aA := kv aA hb
             replace aC := kv aC hb
             have aD := ar0 w.heap.size (ok' := fun k_ => ((P0_1_ k_ ∨ P1_1_ k_ ∨ P2_1_ k_) ∨ w.heap.size ≤ k_) ∧ k_ ≠ al ∧ k_ ≠ an ∧ k_ ≠ ao ∧ k_ ≠ ap) ax (fa (fz4 HB ah ai aj ak) (fa (fb ac) (fa (fb ad) (fa (fb af) (fb ag)))))
             replace ac := kb ac hb
             replace ad := kb ad hb
             replace af := kb af hb
             replace ag := kb ag hb
             replace HB := be4 HB ah ai aj ak hb
             (try clear hb)
             (try clear hb2)
             (try clear hk)
             (try clear hi)
             (try clear ax)
             obtain ⟨eG, eH, cW⟩ := Kd.V_slice aC.out
             (first | subst cW | (injection cW with f1_ f2_ f3_; have f4_ := f1_.symm; have f5_ := f3_.symm; clear f1_ f2_ f3_; subst f4_; subst f5_))
             obtain ⟨eI, eJ, cX⟩ := Kd.V_slice aD.out
             (first | subst cX | (injection cX with f1_ f2_ f3_; have f4_ := f1_.symm; have f5_ := f3_.symm; clear f1_ f2_ f3_; subst f4_; subst f5_))
             refine hK.out _ _ ⟨bc ac 0, bc ac 1, bc ad 0, bc ad 1, bc af 0, bc af 1⟩ (fun hHeld => ?_)
             clear hK K
             refine nq 100 ?_
             refine one_ (i := 16) (N := some 101) #[true, true, true, true, true, true, true, true, true, true, true, true, true, true, true, true, true, false, false] rfl rfl (one_of HT_.out (by kernel_rfl)) (by decide) (fun K hK => ?_)
             refine goes_ Try.func64 (by kernel_rfl) rfl #[.agg #[], .agg #[.int .i64 dC, .slice eG dD.length eH], .agg #[.int .i64 dE, .slice eI dF.length eJ]] (by rfl) rfl rfl lu ?_
             with_reducible refine (semiring_Leasts_Add.calls kj83  dC _ _ dD dE _ _ dF dG dH _ ?side1 ?side2 ?side3 ?side4 gi.out).mono ?_
             (case side1 => exact cu (Kd.V_reads' aC.out).2.2)
             (case side2 => exact (Kd.V_reads' aC.out).2.1)
             (case side3 => exact cu (Kd.V_reads' aD.out).2.2)
             (case side4 => exact (Kd.V_reads' aD.out).2.1)
             rintro e ie ⟨ig, rfl, ax, hb⟩
             refine ⟨_, rfl, ?_⟩
             replace aa := kv aa hb
             replace ab := kv ab hb
             replace ae := kv ae hb
             replace ay := kv ay hb
             replace aA := kv aA hb
             replace aC := kv aC hb
             replace aD := kv aD hb
             have aE := ar0 w.heap.size (ok' := fun k_ => ((P0_1_ k_ ∨ P1_1_ k_ ∨ P2_1_ k_) ∨ w.heap.size ≤ k_) ∧ k_ ≠ al ∧ k_ ≠ an ∧ k_ ≠ ao ∧ k_ ≠ ap) ax (fa (fz4 HB ah ai aj ak) (fa (fb ac) (fa (fb ad) (fa (fb af) (fb ag)))))
             replace ac := kb ac hb
             replace ad := kb ad hb
             replace af := kb af hb
             replace ag := kb ag hb
             replace HB := be4 HB ah ai aj ak hb
             (try clear hb)
             (try clear hb2)
             (try clear hk)
             (try clear hi)
             (try clear ax)
             obtain ⟨eK, eL, cY⟩ := Kd.V_slice aA.out
             (first | subst cY | (injection cY with f1_ f2_ f3_; have f4_ := f1_.symm; have f5_ := f3_.symm; clear f1_ f2_ f3_; subst f4_; subst f5_))
             obtain ⟨eM, eN, cZ⟩ := Kd.V_slice aE.out
             (first | subst cZ | (injection cZ with f1_ f2_ f3_; have f4_ := f1_.symm; have f5_ := f3_.symm; clear f1_ f2_ f3_; subst f4_; subst f5_))
             refine hK.out _ _ ⟨bc ac 0, bc ac 1, bc ad 0, bc ad 1, bc af 0, bc af 1⟩ (fun hHeld => ?_)
             clear hK K
             refine nq 101 ?_
             refine one_ (i := 17) (N := some 102) #[true, true, true, true, true, true, true, true, true, true, true, true, true, true, true, true, true, true, false] rfl rfl (one_of HT_.out (by kernel_rfl)) (by decide) (fun K hK => ?_)
             refine goes_ Try.func60 (by kernel_rfl) rfl #[.agg #[.int .i64 dA, .slice eK dB.length eL], .agg #[.int .i64 dG, .slice eM dH.length eN]] (by rfl) rfl rfl lu ?_
             with_reducible refine (codewrightref46_SameLeast.calls kj83 dA _ _ dB dG _ _ dH true _ ?side1 ?side2 ?side3 ?side4 gj.out).mono ?_
             (case side1 => exact cu (Kd.V_reads' aA.out).2.2)
             (case side2 => exact (Kd.V_reads' aA.out).2.1)
             (case side3 => exact cu (Kd.V_reads' aE.out).2.2)
             (case side4 => exact (Kd.V_reads' aE.out).2.1)
             rintro e gv ⟨rfl, hb⟩
             refine ⟨_, rfl, ?_⟩
             replace aa := kv aa hb
             replace ab := kv ab hb
             replace ae := kv ae hb
             replace ay := kv ay hb
             replace aA := kv aA hb
             replace aC := kv aC hb
             replace aD := kv aD hb
             replace aE := kv aE hb
             replace ac := kb ac hb
             replace ad := kb ad hb
             replace af := kb af hb
             replace ag := kb ag hb
             replace HB := be4 HB ah ai aj ak hb
             (try clear hb)
             (try clear hb2)
             (try clear hk)
             (try clear hi)
             refine hK.out _ _ ⟨bc ac 0, bc ac 1, bc ad 0, bc ad 1, bc af 0, bc af 1⟩ (fun hHeld => ?_)
             clear hK K
             refine nq 102 ?_
             refine pq 18 (some 103) #[true, true, true, true, true, true, true, true, true, true, true, true, true, true, true, true, true, true, true] HT_ ?_
             refine done_ (done_of HT_.out (by kernel_rfl)) ?_
             try go_wp2
             replace aa := am (Kd.V_drew aa.out)
             replace ab := am (Kd.V_drew ab.out)
             replace ae := am (Kd.V_drew ae.out)
             replace ay := am (Kd.V_drew ay.out)
             replace aA := am (Kd.V_drew aA.out)
             replace aC := am (Kd.V_drew aC.out)
             replace aD := am (Kd.V_drew aD.out)
             replace aE := am (Kd.V_drew aE.out)
             replace ac := am (blk_drew ac.out)
             replace ad := am (blk_drew ad.out)
             replace af := am (blk_drew af.out)
             replace ag := am (blk_drew ag.out)
             replace HB := am (below_drew1 HB.out)
             refine start_ (n := 33) (S := fun w' => w'.cell? ⟨al, 0, none⟩ = some (.int .i64 a0_0) ∧ w'.cell? ⟨al, 1, none⟩ = some (.slice A0_1 l0_1.length c0_1) ∧ w'.cell? ⟨an, 0, none⟩ = some (.int .i64 a1_0) ∧ w'.cell? ⟨an, 1, none⟩ = some (.slice A1_1 l1_1.length c1_1) ∧ w'.cell? ⟨ao, 0, none⟩ = some (.int .i64 a2_0) ∧ w'.cell? ⟨ao, 1, none⟩ = some (.slice A2_1 l2_1.length c2_1)) (ds := []) #[false, false, false, false, false, false, false, false, false, false, false, false, false, false, false, false, false, false, false, false, false, false, false, false, false, false, false, false, false, false, false, false, false] (by kernel_rfl) rfl rfl ⟨bc ac 0, bc ac 1, bc ad 0, bc ad 1, bc af 0, bc af 1⟩ (fun hHeld => ?_); refine with_tabW codewrightlaw46_SemiringLeasts.tab12 codewrightlaw46_SemiringLeasts.bits12 (fun HT_ HW_ => ?_)
             generalize gv.drew = ih at aa ab ae ay aA aC aD aE ac ad af ag HB hHeld ⊢
             refine tq 0 (some 104) #[true, false, false, false, false, false, false, false, false, false, false, false, false, false, false, false, false, false, false, false, false, false, false, false, false, false, false, false, false, false, false, false, false] HT_ HW_ hHeld ?_
             refine tq 1 (some 105) #[true, true, false, false, false, false, false, false, false, false, false, false, false, false, false, false, false, false, false, false, false, false, false, false, false, false, false, false, false, false, false, false, false] HT_ HW_ hHeld ?_
             refine tq 2 (some 106) #[true, true, true, false, false, false, false, false, false, false, false, false, false, false, false, false, false, false, false, false, false, false, false, false, false, false, false, false, false, false, false, false, false] HT_ HW_ hHeld ?_
             refine tq 3 (some 107) #[true, true, true, true, false, false, false, false, false, false, false, false, false, false, false, false, false, false, false, false, false, false, false, false, false, false, false, false, false, false, false, false, false] HT_ HW_ hHeld ?_
             refine tq 4 (some 108) #[true, true, true, true, true, false, false, false, false, false, false, false, false, false, false, false, false, false, false, false, false, false, false, false, false, false, false, false, false, false, false, false, false] HT_ HW_ hHeld ?_
             refine tq 7 (some 111) #[true, true, true, true, true, false, false, true, false, false, false, false, false, false, false, false, false, false, false, false, false, false, false, false, false, false, false, false, false, false, false, false, false] HT_ HW_ hHeld ?_
             refine tq 8 (some 112) #[true, true, true, true, true, false, false, true, true, false, false, false, false, false, false, false, false, false, false, false, false, false, false, false, false, false, false, false, false, false, false, false, false] HT_ HW_ hHeld ?_
             refine tq 9 (some 113) #[true, true, true, true, true, false, false, true, true, true, false, false, false, false, false, false, false, false, false, false, false, false, false, false, false, false, false, false, false, false, false, false, false] HT_ HW_ hHeld ?_
             refine tq 10 (some 114) #[true, true, true, true, true, false, false, true, true, true, true, false, false, false, false, false, false, false, false, false, false, false, false, false, false, false, false, false, false, false, false, false, false] HT_ HW_ hHeld ?_
             refine tq 12 (some 116) #[true, true, true, true, true, false, false, true, true, true, true, false, true, false, false, false, false, false, false, false, false, false, false, false, false, false, false, false, false, false, false, false, false] HT_ HW_ hHeld ?_
             refine one_ (i := 5) (N := some 109) #[true, true, true, true, true, true, false, true, true, true, true, false, true, false, false, false, false, false, false, false, false, false, false, false, false, false, false, false, false, false, false, false, false] rfl rfl (one_of HT_.out (by kernel_rfl)) (by decide) (fun K hK => ?_)
             refine goes_ Try.func64 (by kernel_rfl) rfl #[.agg #[], .agg #[.int .i64 a1_0, .slice A1_1 l1_1.length c1_1], .agg #[.int .i64 a2_0, .slice A2_1 l2_1.length c2_1]] (by rfl) rfl rfl lu ?_
             with_reducible refine (semiring_Leasts_Add.calls kj83  a1_0 _ _ l1_1 a2_0 _ _ l2_1 dI dJ _ ?side1 ?side2 ?side3 ?side4 gk.out).mono ?_
             (case side1 => exact cu (Kd.V_reads' ab.out).2.2)
             (case side2 => exact (Kd.V_reads' ab.out).2.1)
             (case side3 => exact cu (Kd.V_reads' ae.out).2.2)
             (case side4 => exact (Kd.V_reads' ae.out).2.1)
             rintro e ii ⟨ij, rfl, ax, hb⟩
             refine ⟨_, rfl, ?_⟩
             replace aa := kv aa hb
             replace ab := kv ab hb
             replace ae := kv ae hb
             replace ay := kv ay hb
             replace aA := kv aA hb
             replace aC := kv aC hb
             replace aD := kv aD hb
             replace aE := kv aE hb
             have aI := ar0 w.heap.size (ok' := fun k_ => ((P0_1_ k_ ∨ P1_1_ k_ ∨ P2_1_ k_) ∨ w.heap.size ≤ k_) ∧ k_ ≠ al ∧ k_ ≠ an ∧ k_ ≠ ao ∧ k_ ≠ ap) ax (fa (fz4 HB ah ai aj ak) (fa (fb ac) (fa (fb ad) (fa (fb af) (fb ag)))))
             replace ac := kb ac hb
             replace ad := kb ad hb
             replace af := kb af hb
             replace ag := kb ag hb
             replace HB := be4 HB ah ai aj ak hb
             (try clear hb)
             (try clear hb2)
             (try clear hk)
             (try clear hi)
             (try clear ax)
             obtain ⟨eO, eP, c0⟩ := Kd.V_slice aI.out
             (first | subst c0 | (injection c0 with f1_ f2_ f3_; have f4_ := f1_.symm; have f5_ := f3_.symm; clear f1_ f2_ f3_; subst f4_; subst f5_))
             refine hK.out _ _ ⟨bc ac 0, bc ac 1, bc ad 0, bc ad 1, bc af 0, bc af 1⟩ (fun hHeld => ?_)
             clear hK K
             refine nq 109 ?_
             refine one_ (i := 6) (N := some 110) #[true, true, true, true, true, true, true, true, true, true, true, false, true, false, false, false, false, false, false, false, false, false, false, false, false, false, false, false, false, false, false, false, false] rfl rfl (one_of HT_.out (by kernel_rfl)) (by decide) (fun K hK => ?_)
             refine goes_ Try.func64 (by kernel_rfl) rfl #[.agg #[], .agg #[.int .i64 a0_0, .slice A0_1 l0_1.length c0_1], .agg #[.int .i64 dI, .slice eO dJ.length eP]] (by rfl) rfl rfl lu ?_
             with_reducible refine (semiring_Leasts_Add.calls kj83  a0_0 _ _ l0_1 dI _ _ dJ dK dL _ ?side1 ?side2 ?side3 ?side4 gl.out).mono ?_
             (case side1 => exact cu (Kd.V_reads' aa.out).2.2)
             (case side2 => exact (Kd.V_reads' aa.out).2.1)
             (case side3 => exact cu (Kd.V_reads' aI.out).2.2)
             (case side4 => exact (Kd.V_reads' aI.out).2.1)
             rintro e ik ⟨il, rfl, ax, hb⟩
             refine ⟨_, rfl, ?_⟩
             replace aa := kv aa hb
             replace ab := kv ab hb
             replace ae := kv ae hb
             replace ay := kv ay hb
             replace aA := kv aA hb
             replace aC := kv aC hb
             replace aD := kv aD hb
             replace aE := kv aE hb
             replace aI := kv aI hb
             have aJ := ar0 w.heap.size (ok' := fun k_ => ((P0_1_ k_ ∨ P1_1_ k_ ∨ P2_1_ k_) ∨ w.heap.size ≤ k_) ∧ k_ ≠ al ∧ k_ ≠ an ∧ k_ ≠ ao ∧ k_ ≠ ap) ax (fa (fz4 HB ah ai aj ak) (fa (fb ac) (fa (fb ad) (fa (fb af) (fb ag)))))
             replace ac := kb ac hb
             replace ad := kb ad hb
             replace af := kb af hb
             replace ag := kb ag hb
             replace HB := be4 HB ah ai aj ak hb
             (try clear hb)
             (try clear hb2)
             (try clear hk)
             (try clear hi)
             (try clear ax)
             refine hK.out _ _ ⟨bc ac 0, bc ac 1, bc ad 0, bc ad 1, bc af 0, bc af 1⟩ (fun hHeld => ?_)
             clear hK K
             refine nq 110 ?_
             refine one_ (i := 11) (N := some 115) #[true, true, true, true, true, true, true, true, true, true, true, true, true, false, false, false, false, false, false, false, false, false, false, false, false, false, false, false, false, false, false, false, false] rfl rfl (one_of HT_.out (by kernel_rfl)) (by decide) (fun K hK => ?_)
             refine goes_ Try.func64 (by kernel_rfl) rfl #[.agg #[], .agg #[.int .i64 a0_0, .slice A0_1 l0_1.length c0_1], .agg #[.int .i64 a1_0, .slice A1_1 l1_1.length c1_1]] (by rfl) rfl rfl lu ?_
             with_reducible refine (semiring_Leasts_Add.calls kj83  a0_0 _ _ l0_1 a1_0 _ _ l1_1 dM dN _ ?side1 ?side2 ?side3 ?side4 gm.out).mono ?_
             (case side1 => exact cu (Kd.V_reads' aa.out).2.2)
             (case side2 => exact (Kd.V_reads' aa.out).2.1)
             (case side3 => exact cu (Kd.V_reads' ab.out).2.2)
             (case side4 => exact (Kd.V_reads' ab.out).2.1)
             rintro e im ⟨io, rfl, ax, hb⟩
             refine ⟨_, rfl, ?_⟩
             replace aa := kv aa hb
             replace ab := kv ab hb
             replace ae := kv ae hb
             replace ay := kv ay hb
             replace aA := kv aA hb
             replace aC := kv aC hb
             replace aD := kv aD hb
             replace aE := kv aE hb
             replace aI := kv aI hb
             replace aJ := kv aJ hb
             have aN := ar0 w.heap.size (ok' := fun k_ => ((P0_1_ k_ ∨ P1_1_ k_ ∨ P2_1_ k_) ∨ w.heap.size ≤ k_) ∧ k_ ≠ al ∧ k_ ≠ an ∧ k_ ≠ ao ∧ k_ ≠ ap) ax (fa (fz4 HB ah ai aj ak) (fa (fb ac) (fa (fb ad) (fa (fb af) (fb ag)))))
             replace ac := kb ac hb
             replace ad := kb ad hb
             replace af := kb af hb
             replace ag := kb ag hb
             replace HB := be4 HB ah ai aj ak hb
             (try clear hb)
             (try clear hb2)
             (try clear hk)
             (try clear hi)
             (try clear ax)
             obtain ⟨eQ, eR, c7⟩ := Kd.V_slice aN.out
             (first | subst c7 | (injection c7 with f1_ f2_ f3_; have f4_ := f1_.symm; have f5_ := f3_.symm; clear f1_ f2_ f3_; subst f4_; subst f5_))
             refine hK.out _ _ ⟨bc ac 0, bc ac 1, bc ad 0, bc ad 1, bc af 0, bc af 1⟩ (fun hHeld => ?_)
             clear hK K
             refine nq 115 ?_
             refine one_ (i := 13) (N := some 117) #[true, true, true, true, true, true, true, true, true, true, true, true, true, true, false, false, false, false, false, false, false, false, false, false, false, false, false, false, false, false, false, false, false] rfl rfl (one_of HT_.out (by kernel_rfl)) (by decide) (fun K hK => ?_)
             refine goes_ Try.func64 (by kernel_rfl) rfl #[.agg #[], .agg #[.int .i64 dM, .slice eQ dN.length eR], .agg #[.int .i64 a2_0, .slice A2_1 l2_1.length c2_1]] (by rfl) rfl rfl lu ?_
             with_reducible refine (semiring_Leasts_Add.calls kj83  dM _ _ dN a2_0 _ _ l2_1 dO dP _ ?side1 ?side2 ?side3 ?side4 gn.out).mono ?_
             (case side1 => exact cu (Kd.V_reads' aN.out).2.2)
             (case side2 => exact (Kd.V_reads' aN.out).2.1)
             (case side3 => exact cu (Kd.V_reads' ae.out).2.2)
             (case side4 => exact (Kd.V_reads' ae.out).2.1)
             rintro e ip ⟨iq, rfl, ax, hb⟩
             refine ⟨_, rfl, ?_⟩
             replace aa := kv aa hb
             replace ab := kv ab hb
             replace ae := kv ae hb
             replace ay := kv ay hb
             replace aA := kv aA hb
             replace aC := kv aC hb
             replace aD := kv aD hb
             replace aE := kv aE hb
             replace aI := kv aI hb
             replace aJ := kv aJ hb
             replace aN := kv aN hb
             have aO := ar0 w.heap.size (ok' := fun k_ => ((P0_1_ k_ ∨ P1_1_ k_ ∨ P2_1_ k_) ∨ w.heap.size ≤ k_) ∧ k_ ≠ al ∧ k_ ≠ an ∧ k_ ≠ ao ∧ k_ ≠ ap) ax (fa (fz4 HB ah ai aj ak) (fa (fb ac) (fa (fb ad) (fa (fb af) (fb ag)))))
             replace ac := kb ac hb
             replace ad := kb ad hb
             replace af := kb af hb
             replace ag := kb ag hb
             replace HB := be4 HB ah ai aj ak hb
             (try clear hb)
             (try clear hb2)
             (try clear hk)
             (try clear hi)
             (try clear ax)
             obtain ⟨eS, eT, c9⟩ := Kd.V_slice aJ.out
             (first | subst c9 | (injection c9 with f1_ f2_ f3_; have f4_ := f1_.symm; have f5_ := f3_.symm; clear f1_ f2_ f3_; subst f4_; subst f5_))
             obtain ⟨eU, eV, da⟩ := Kd.V_slice aO.out
             (first | subst da | (injection da with f1_ f2_ f3_; have f4_ := f1_.symm; have f5_ := f3_.symm; clear f1_ f2_ f3_; subst f4_; subst f5_))
             refine hK.out _ _ ⟨bc ac 0, bc ac 1, bc ad 0, bc ad 1, bc af 0, bc af 1⟩ (fun hHeld => ?_)
             clear hK K
             refine nq 117 ?_
             refine one_ (i := 14) (N := some 118) #[true, true, true, true, true, true, true, true, true, true, true, true, true, true, true, false, false, false, false, false, false, false, false, false, false, false, false, false, false, false, false, false, false] rfl rfl (one_of HT_.out (by kernel_rfl)) (by decide) (fun K hK => ?_)
             refine goes_ Try.func60 (by kernel_rfl) rfl #[.agg #[.int .i64 dK, .slice eS dL.length eT], .agg #[.int .i64 dO, .slice eU dP.length eV]] (by rfl) rfl rfl lu ?_
             with_reducible refine (codewrightref46_SameLeast.calls kj83 dK _ _ dL dO _ _ dP true _ ?side1 ?side2 ?side3 ?side4 gp.out).mono ?_
             (case side1 => exact cu (Kd.V_reads' aJ.out).2.2)
             (case side2 => exact (Kd.V_reads' aJ.out).2.1)
             (case side3 => exact cu (Kd.V_reads' aO.out).2.2)
             (case side4 => exact (Kd.V_reads' aO.out).2.1)
             rintro e ir ⟨rfl, hb⟩
             refine ⟨_, rfl, ?_⟩
             replace aa := kv aa hb
             replace ab := kv ab hb
             replace ae := kv ae hb
             replace ay := kv ay hb
             replace aA := kv aA hb
             replace aC := kv aC hb
             replace aD := kv aD hb
             replace aE := kv aE hb
             replace aI := kv aI hb
             replace aJ := kv aJ hb
             replace aN := kv aN hb
             replace aO := kv aO hb
             replace ac := kb ac hb
             replace ad := kb ad hb
             replace af := kb af hb
             replace ag := kb ag hb
             replace HB := be4 HB ah ai aj ak hb
             (try clear hb)
             (try clear hb2)
             (try clear hk)
             (try clear hi)
             refine hK.out _ _ ⟨bc ac 0, bc ac 1, bc ad 0, bc ad 1, bc af 0, bc af 1⟩ (fun hHeld => ?_)
             clear hK K
             refine nq 118 ?_
             refine pq 15 (some 119) #[true, true, true, true, true, true, true, true, true, true, true, true, true, true, true, true, false, false, false, false, false, false, false, false, false, false, false, false, false, false, false, false, false] HT_ ?_
             refine tq 16 (some 120) #[true, true, true, true, true, true, true, true, true, true, true, true, true, true, true, true, true, false, false, false, false, false, false, false, false, false, false, false, false, false, false, false, false] HT_ HW_ hHeld ?_
             refine tq 17 (some 121) #[true, true, true, true, true, true, true, true, true, true, true, true, true, true, true, true, true, true, false, false, false, false, false, false, false, false, false, false, false, false, false, false, false] HT_ HW_ hHeld ?_
             refine tq 18 (some 122) #[true, true, true, true, true, true, true, true, true, true, true, true, true, true, true, true, true, true, true, false, false, false, false, false, false, false, false, false, false, false, false, false, false] HT_ HW_ hHeld ?_
             refine tq 19 (some 123) #[true, true, true, true, true, true, true, true, true, true, true, true, true, true, true, true, true, true, true, true, false, false, false, false, false, false, false, false, false, false, false, false, false] HT_ HW_ hHeld ?_
             refine tq 20 (some 124) #[true, true, true, true, true, true, true, true, true, true, true, true, true, true, true, true, true, true, true, true, true, false, false, false, false, false, false, false, false, false, false, false, false] HT_ HW_ hHeld ?_
             refine tq 23 (some 127) #[true, true, true, true, true, true, true, true, true, true, true, true, true, true, true, true, true, true, true, true, true, false, false, true, false, false, false, false, false, false, false, false, false] HT_ HW_ hHeld ?_
             refine tq 24 (some 128) #[true, true, true, true, true, true, true, true, true, true, true, true, true, true, true, true, true, true, true, true, true, false, false, true, true, false, false, false, false, false, false, false, false] HT_ HW_ hHeld ?_
             refine tq 25 (some 129) #[true, true, true, true, true, true, true, true, true, true, true, true, true, true, true, true, true, true, true, true, true, false, false, true, true, true, false, false, false, false, false, false, false] HT_ HW_ hHeld ?_
             refine tq 26 (some 130) #[true, true, true, true, true, true, true, true, true, true, true, true, true, true, true, true, true, true, true, true, true, false, false, true, true, true, true, false, false, false, false, false, false] HT_ HW_ hHeld ?_
             refine tq 28 (some 132) #[true, true, true, true, true, true, true, true, true, true, true, true, true, true, true, true, true, true, true, true, true, false, false, true, true, true, true, false, true, false, false, false, false] HT_ HW_ hHeld ?_
             refine one_ (i := 21) (N := some 125) #[true, true, true, true, true, true, true, true, true, true, true, true, true, true, true, true, true, true, true, true, true, true, false, true, true, true, true, false, true, false, false, false, false] rfl rfl (one_of HT_.out (by kernel_rfl)) (by decide) (fun K hK => ?_)
             refine goes_ Try.func66 (by kernel_rfl) rfl #[.agg #[], .agg #[.int .i64 a1_0, .slice A1_1 l1_1.length c1_1], .agg #[.int .i64 a2_0, .slice A2_1 l2_1.length c2_1]] (by rfl) rfl rfl lu ?_
             with_reducible refine (semiring_Leasts_Mul.calls kj83  a1_0 _ _ l1_1 a2_0 _ _ l2_1 dQ dR _ ?side1 ?side2 ?side3 ?side4 gq.out).mono ?_
             (case side1 => exact cu (Kd.V_reads' ab.out).2.2)
             (case side2 => exact (Kd.V_reads' ab.out).2.1)
             (case side3 => exact cu (Kd.V_reads' ae.out).2.2)
             (case side4 => exact (Kd.V_reads' ae.out).2.1)
             rintro e it ⟨iu, rfl, ax, hb⟩
             refine ⟨_, rfl, ?_⟩
             replace aa := kv aa hb
             replace ab := kv ab hb
             replace ae := kv ae hb
             replace ay := kv ay hb
             replace aA := kv aA hb
             replace aC := kv aC hb
             replace aD := kv aD hb
             replace aE := kv aE hb
             replace aI := kv aI hb
             replace aJ := kv aJ hb
             replace aN := kv aN hb
             replace aO := kv aO hb
             have aV := ar0 w.heap.size (ok' := fun k_ => ((P0_1_ k_ ∨ P1_1_ k_ ∨ P2_1_ k_) ∨ w.heap.size ≤ k_) ∧ k_ ≠ al ∧ k_ ≠ an ∧ k_ ≠ ao ∧ k_ ≠ ap) ax (fa (fz4 HB ah ai aj ak) (fa (fb ac) (fa (fb ad) (fa (fb af) (fb ag)))))
             replace ac := kb ac hb
             replace ad := kb ad hb
             replace af := kb af hb
             replace ag := kb ag hb
             replace HB := be4 HB ah ai aj ak hb
             (try clear hb)
             (try clear hb2)
             (try clear hk)
             (try clear hi)
             (try clear ax)
             obtain ⟨eW, eX, db⟩ := Kd.V_slice aV.out
             (first | subst db | (injection db with f1_ f2_ f3_; have f4_ := f1_.symm; have f5_ := f3_.symm; clear f1_ f2_ f3_; subst f4_; subst f5_))
             refine hK.out _ _ ⟨bc ac 0, bc ac 1, bc ad 0, bc ad 1, bc af 0, bc af 1⟩ (fun hHeld => ?_)
             clear hK K
             refine nq 125 ?_
             refine one_ (i := 22) (N := some 126) #[true, true, true, true, true, true, true, true, true, true, true, true, true, true, true, true, true, true, true, true, true, true, true, true, true, true, true, false, true, false, false, false, false] rfl rfl (one_of HT_.out (by kernel_rfl)) (by decide) (fun K hK => ?_)
             refine goes_ Try.func66 (by kernel_rfl) rfl #[.agg #[], .agg #[.int .i64 a0_0, .slice A0_1 l0_1.length c0_1], .agg #[.int .i64 dQ, .slice eW dR.length eX]] (by rfl) rfl rfl lu ?_
             with_reducible refine (semiring_Leasts_Mul.calls kj83  a0_0 _ _ l0_1 dQ _ _ dR dS dT _ ?side1 ?side2 ?side3 ?side4 gr.out).mono ?_
             (case side1 => exact cu (Kd.V_reads' aa.out).2.2)
             (case side2 => exact (Kd.V_reads' aa.out).2.1)
             (case side3 => exact cu (Kd.V_reads' aV.out).2.2)
             (case side4 => exact (Kd.V_reads' aV.out).2.1)
             rintro e iv ⟨iw, rfl, ax, hb⟩
             refine ⟨_, rfl, ?_⟩
             replace aa := kv aa hb
             replace ab := kv ab hb
             replace ae := kv ae hb
             replace ay := kv ay hb
             replace aA := kv aA hb
             replace aC := kv aC hb
             replace aD := kv aD hb
             replace aE := kv aE hb
             replace aI := kv aI hb
             replace aJ := kv aJ hb
             replace aN := kv aN hb
             replace aO := kv aO hb
             replace aV := kv aV hb
             have aX := ar0 w.heap.size (ok' := fun k_ => ((P0_1_ k_ ∨ P1_1_ k_ ∨ P2_1_ k_) ∨ w.heap.size ≤ k_) ∧ k_ ≠ al ∧ k_ ≠ an ∧ k_ ≠ ao ∧ k_ ≠ ap) ax (fa (fz4 HB ah ai aj ak) (fa (fb ac) (fa (fb ad) (fa (fb af) (fb ag)))))
             replace ac := kb ac hb
             replace ad := kb ad hb
             replace af := kb af hb
             replace ag := kb ag hb
             replace HB := be4 HB ah ai aj ak hb
             (try clear hb)
             (try clear hb2)
             (try clear hk)
             (try clear hi)
             (try clear ax)
             refine hK.out _ _ ⟨bc ac 0, bc ac 1, bc ad 0, bc ad 1, bc af 0, bc af 1⟩ (fun hHeld => ?_)
             clear hK K
             refine nq 126 ?_
             refine one_ (i := 27) (N := some 131) #[true, true, true, true, true, true, true, true, true, true, true, true, true, true, true, true, true, true, true, true, true, true, true, true, true, true, true, true, true, false, false, false, false] rfl rfl (one_of HT_.out (by kernel_rfl)) (by decide) (fun K hK => ?_)
             refine goes_ Try.func66 (by kernel_rfl) rfl #[.agg #[], .agg #[.int .i64 a0_0, .slice A0_1 l0_1.length c0_1], .agg #[.int .i64 a1_0, .slice A1_1 l1_1.length c1_1]] (by rfl) rfl rfl lu ?_
             with_reducible refine (semiring_Leasts_Mul.calls kj83  a0_0 _ _ l0_1 a1_0 _ _ l1_1 dU dV _ ?side1 ?side2 ?side3 ?side4 gs.out).mono ?_
             (case side1 => exact cu (Kd.V_reads' aa.out).2.2)
             (case side2 => exact (Kd.V_reads' aa.out).2.1)
             (case side3 => exact cu (Kd.V_reads' ab.out).2.2)
             (case side4 => exact (Kd.V_reads' ab.out).2.1)
             rintro e ix ⟨iy, rfl, ax, hb⟩
             refine ⟨_, rfl, ?_⟩
             replace aa := kv aa hb
             replace ab := kv ab hb
             replace ae := kv ae hb
             replace ay := kv ay hb
             replace aA := kv aA hb
             replace aC := kv aC hb
             replace aD := kv aD hb
             replace aE := kv aE hb
             replace aI := kv aI hb
             replace aJ := kv aJ hb
             replace aN := kv aN hb
             replace aO := kv aO hb
             replace aV := kv aV hb
             replace aX := kv aX hb
             have bj := ar0 w.heap.size (ok' := fun k_ => ((P0_1_ k_ ∨ P1_1_ k_ ∨ P2_1_ k_) ∨ w.heap.size ≤ k_) ∧ k_ ≠ al ∧ k_ ≠ an ∧ k_ ≠ ao ∧ k_ ≠ ap) ax (fa (fz4 HB ah ai aj ak) (fa (fb ac) (fa (fb ad) (fa (fb af) (fb ag)))))
             replace ac := kb ac hb
             replace ad := kb ad hb
             replace af := kb af hb
             replace ag := kb ag hb
             replace HB := be4 HB ah ai aj ak hb
             (try clear hb)
             (try clear hb2)
             (try clear hk)
             (try clear hi)
             (try clear ax)
             obtain ⟨eY, eZ, dc⟩ := Kd.V_slice bj.out
             (first | subst dc | (injection dc with f1_ f2_ f3_; have f4_ := f1_.symm; have f5_ := f3_.symm; clear f1_ f2_ f3_; subst f4_; subst f5_))
             refine hK.out _ _ ⟨bc ac 0, bc ac 1, bc ad 0, bc ad 1, bc af 0, bc af 1⟩ (fun hHeld => ?_)
             clear hK K
             refine nq 131 ?_
             refine one_ (i := 29) (N := some 133) #[true, true, true, true, true, true, true, true, true, true, true, true, true, true, true, true, true, true, true, true, true, true, true, true, true, true, true, true, true, true, false, false, false] rfl rfl (one_of HT_.out (by kernel_rfl)) (by decide) (fun K hK => ?_)
             refine goes_ Try.func66 (by kernel_rfl) rfl #[.agg #[], .agg #[.int .i64 dU, .slice eY dV.length eZ], .agg #[.int .i64 a2_0, .slice A2_1 l2_1.length c2_1]] (by rfl) rfl rfl lu ?_
             with_reducible refine (semiring_Leasts_Mul.calls kj83  dU _ _ dV a2_0 _ _ l2_1 dW dX _ ?side1 ?side2 ?side3 ?side4 gt.out).mono ?_
             (case side1 => exact cu (Kd.V_reads' bj.out).2.2)
             (case side2 => exact (Kd.V_reads' bj.out).2.1)
             (case side3 => exact cu (Kd.V_reads' ae.out).2.2)
             (case side4 => exact (Kd.V_reads' ae.out).2.1)
             rintro e iz ⟨iA, rfl, ax, hb⟩
             refine ⟨_, rfl, ?_⟩
             replace aa := kv aa hb
             replace ab := kv ab hb
             replace ae := kv ae hb
             replace ay := kv ay hb
             replace aA := kv aA hb
             replace aC := kv aC hb
             replace aD := kv aD hb
             replace aE := kv aE hb
             replace aI := kv aI hb
             replace aJ := kv aJ hb
             replace aN := kv aN hb
             replace aO := kv aO hb
             replace aV := kv aV hb
             replace aX := kv aX hb
             replace bj := kv bj hb
             have bO := ar0 w.heap.size (ok' := fun k_ => ((P0_1_ k_ ∨ P1_1_ k_ ∨ P2_1_ k_) ∨ w.heap.size ≤ k_) ∧ k_ ≠ al ∧ k_ ≠ an ∧ k_ ≠ ao ∧ k_ ≠ ap) ax (fa (fz4 HB ah ai aj ak) (fa (fb ac) (fa (fb ad) (fa (fb af) (fb ag)))))
             replace ac := kb ac hb
             replace ad := kb ad hb
             replace af := kb af hb
             replace ag := kb ag hb
             replace HB := be4 HB ah ai aj ak hb
             (try clear hb)
             (try clear hb2)
             (try clear hk)
             (try clear hi)
             (try clear ax)
             obtain ⟨e0, e1, dd⟩ := Kd.V_slice aX.out
             (first | subst dd | (injection dd with f1_ f2_ f3_; have f4_ := f1_.symm; have f5_ := f3_.symm; clear f1_ f2_ f3_; subst f4_; subst f5_))
             obtain ⟨e2, e3, de⟩ := Kd.V_slice bO.out
             (first | subst de | (injection de with f1_ f2_ f3_; have f4_ := f1_.symm; have f5_ := f3_.symm; clear f1_ f2_ f3_; subst f4_; subst f5_))
             refine hK.out _ _ ⟨bc ac 0, bc ac 1, bc ad 0, bc ad 1, bc af 0, bc af 1⟩ (fun hHeld => ?_)
             clear hK K
             refine nq 133 ?_
             refine one_ (i := 30) (N := some 134) #[true, true, true, true, true, true, true, true, true, true, true, true, true, true, true, true, true, true, true, true, true, true, true, true, true, true, true, true, true, true, true, false, false] rfl rfl (one_of HT_.out (by kernel_rfl)) (by decide) (fun K hK => ?_)
             refine goes_ Try.func60 (by kernel_rfl) rfl #[.agg #[.int .i64 dS, .slice e0 dT.length e1], .agg #[.int .i64 dW, .slice e2 dX.length e3]] (by rfl) rfl rfl lu ?_
             with_reducible refine (codewrightref46_SameLeast.calls kj83 dS _ _ dT dW _ _ dX bN _ ?side1 ?side2 ?side3 ?side4 gu.out).mono ?_
             (case side1 => exact cu (Kd.V_reads' aX.out).2.2)
             (case side2 => exact (Kd.V_reads' aX.out).2.1)
             (case side3 => exact cu (Kd.V_reads' bO.out).2.2)
             (case side4 => exact (Kd.V_reads' bO.out).2.1)
             rintro e iB ⟨rfl, hb⟩
             refine ⟨_, rfl, ?_⟩
             replace aa := kv aa hb
             replace ab := kv ab hb
             replace ae := kv ae hb
             replace ay := kv ay hb
             replace aA := kv aA hb
             replace aC := kv aC hb
             replace aD := kv aD hb
             replace aE := kv aE hb
             replace aI := kv aI hb
             replace aJ := kv aJ hb
             replace aN := kv aN hb
             replace aO := kv aO hb
             replace aV := kv aV hb
             replace aX := kv aX hb
             replace bj := kv bj hb
             replace bO := kv bO hb
             replace ac := kb ac hb
             replace ad := kb ad hb
             replace af := kb af hb
             replace ag := kb ag hb
             replace HB := be4 HB ah ai aj ak hb
             (try clear hb)
             (try clear hb2)
             (try clear hk)
             (try clear hi)
             refine hK.out _ _ ⟨bc ac 0, bc ac 1, bc ad 0, bc ad 1, bc af 0, bc af 1⟩ (fun hHeld => ?_)
             clear hK K
             refine nq 134 ?_
             refine pq 31 (some 135) #[true, true, true, true, true, true, true, true, true, true, true, true, true, true, true, true, true, true, true, true, true, true, true, true, true, true, true, true, true, true, true, true, false] HT_ ?_
             refine pq 32 (some 6) #[true, true, true, true, true, true, true, true, true, true, true, true, true, true, true, true, true, true, true, true, true, true, true, true, true, true, true, true, true, true, true, true, true] HT_ ?_
             refine done_ (done_of HT_.out (by kernel_rfl)) ?_
             try go_wp2
             go_ret
             exact ⟨by first | rfl | (simp [errW_none, errW_some] <;> rfl) | (simp [*, errW_none, errW_some] <;> rfl), by repeat (first | (with_reducible first | exact HB.out | apply below_alloc | apply pw_below_drewN | apply below_drew1 | refine below_set ?_ ah.out | refine below_set ?_ ai.out | refine below_set ?_ aj.out | refine below_set ?_ ak.out) | exact HB.out)⟩
            ·
             replace cy := Bool.eq_false_iff.mpr cy
             subst cy
             have H1 : (none) = some r := by rw [if_neg (show ¬ (false = true) by decide)] at H; exact H
             clear H
             have H := H1
             clear H1
             exact absurd H (by simp)
           ·
            replace cx := Bool.eq_false_iff.mpr cx
            subst cx
            have H1 : (none) = some r := by rw [if_neg (show ¬ (false = true) by decide)] at H; exact H
            clear H
            have H := H1
            clear H1
            exact absurd H (by simp)
 ·
  replace c5 := Bool.eq_false_iff.mpr c5
  subst c5
  have H1 : ((codewrightlaw46_alive.f).bind fun bV => (some bV)) = some r := by rw [if_neg (show ¬ (false = true) by decide)] at H; exact H
  clear H
  have H := H1
  clear H1
  obtain ⟨bV, gw, H⟩ := bs H
  replace H : (some bV) = some r := H
  obtain rfl := Option.some.inj H
  go_enter Try.func8, Try.ntmps8
  go_wp2_with (first | ((with_reducible refine gate_dst (N := 3) rfl ?_); (try (refine gate_guard (by rfl) ?_; dsimp only)); refine box_event ?hg (N := 3) ?hd (cs := #[.int .i64 a0_0, .slice A0_1 l0_1.length c0_1]) (t := 53) ?hr ?_; (case hd => rfl); (case hg => rfl); (case hr => first | (go_simp; done) | (go_simp; rfl)); intro al hg iC hbox hb; replace aq := ke aq hg hb; replace au := ke au hg hb; replace av := ke av hg hb; have ac := am (hbox); have dY := ng hg (bu HB.out); have ah := ng hg (bu HB.out); replace HB := be HB hb; clear hb hbox hg) | ((with_reducible refine gate_dst (N := 4) rfl ?_); (try (refine gate_guard (by rfl) ?_; dsimp only)); refine box_event ?hg (N := 4) ?hd (cs := #[.int .i64 a1_0, .slice A1_1 l1_1.length c1_1]) (t := 53) ?hr ?_; (case hd => rfl); (case hg => rfl); (case hr => first | (go_simp; done) | (go_simp; rfl)); intro an hg iD hbox hb; replace aq := ke aq hg hb; replace au := ke au hg hb; replace av := ke av hg hb; have ad := am (hbox); have dZ := ng hg (bu1 HB.out ah.out); have ai := ng hg (bu1 HB.out ah.out); replace HB := be1 HB ah hb; have aY := nl hg ac; have aZ := nr hg ac; replace ac := kb ac hb; clear hb hbox hg) | ((with_reducible refine gate_dst (N := 5) rfl ?_); (try (refine gate_guard (by rfl) ?_; dsimp only)); refine box_event ?hg (N := 5) ?hd (cs := #[.int .i64 a2_0, .slice A2_1 l2_1.length c2_1]) (t := 53) ?hr ?_; (case hd => rfl); (case hg => rfl); (case hr => first | (go_simp; done) | (go_simp; rfl)); intro ao hg iE hbox hb; replace aq := ke aq hg hb; replace au := ke au hg hb; replace av := ke av hg hb; have af := am (hbox); have d0 := ng hg (bu2 HB.out ah.out ai.out); have aj := ng hg (bu2 HB.out ah.out ai.out); replace HB := be2 HB ah ai hb; have a0 := nl hg ac; have a1 := nr hg ac; replace ac := kb ac hb; have a2 := nl hg ad; have a3 := nr hg ad; replace ad := kb ad hb; clear hb hbox hg) | ((with_reducible refine gate_dst (N := 7) rfl ?_); (try (refine gate_guard (by rfl) ?_; dsimp only)); refine box_event ?hg (N := 7) ?hd (cs := #[]) (t := 54) ?hr ?_; (case hd => rfl); (case hg => rfl); (case hr => first | (go_simp; done) | (go_simp; rfl)); intro ap hg bR hbox hb; replace aq := ke aq hg hb; replace au := ke au hg hb; replace av := ke av hg hb; have ag := am (hbox); have d1 := ng hg (bu3 HB.out ah.out ai.out aj.out); have ak := ng hg (bu3 HB.out ah.out ai.out aj.out); replace HB := be3 HB ah ai aj hb; have aP := nl hg ac; have aQ := nr hg ac; replace ac := kb ac hb; have aR := nl hg ad; have aS := nr hg ad; replace ad := kb ad hb; have aT := nl hg af; have aU := nr hg af; replace af := kb af hb; clear hb hbox hg; have gx := aY.out; have gy := aZ.out; have gz := a0.out; have gA := a1.out; have gB := aP.out; have gC := aQ.out; have e4 : bR.cell? ⟨al, 0, none⟩ = some (.int .i64 a0_0) := bc ac 0; have e5 : bR.cell? ⟨al, 1, none⟩ = some (.slice A0_1 l0_1.length c0_1) := bc ac 1; have e6 := blk_frozen ac.out 0; have e7 := blk_frozen ac.out 1; have gD := a2.out; have gE := a3.out; have gF := aR.out; have gG := aS.out; have e8 : bR.cell? ⟨an, 0, none⟩ = some (.int .i64 a1_0) := bc ad 0; have e9 : bR.cell? ⟨an, 1, none⟩ = some (.slice A1_1 l1_1.length c1_1) := bc ad 1; have fc := blk_frozen ad.out 0; have fd := blk_frozen ad.out 1; have gH := aT.out; have gI := aU.out; have fe : bR.cell? ⟨ao, 0, none⟩ = some (.int .i64 a2_0) := bc af 0; have ff : bR.cell? ⟨ao, 1, none⟩ = some (.slice A2_1 l2_1.length c2_1) := bc af 1; have fg := blk_frozen af.out 0; have fh := blk_frozen af.out 1) | ((with_reducible refine gate_dst (N := 15) rfl ?_); (try (refine gate_guard (by rfl) ?_; dsimp only)); refine Kd.N_lit (Kd.slice 48 (Kd.int .u32)) _ 42 ?hg (N' := 15) ?hd (xs := ([l0_1, l1_1, l2_1] : List (List Int))) (inner := [.slice A0_1 l0_1.length c0_1, .slice A1_1 l1_1.length c1_1, .slice A2_1 l2_1.length c2_1]) (ok := (fun k_ => ((P0_1_ k_ ∨ P1_1_ k_ ∨ P2_1_ k_) ∨ w.heap.size ≤ k_) ∧ k_ ≠ al ∧ k_ ≠ an ∧ k_ ≠ ao ∧ k_ ≠ ap)) (okp := (fun k_ => ((P0_1_ k_ ∨ P1_1_ k_ ∨ P2_1_ k_) ∨ w.heap.size ≤ k_) ∧ k_ ≠ al ∧ k_ ≠ an ∧ k_ ≠ ao ∧ k_ ≠ ap)) ?hr ?hp (fun _ hk => hk) ((show ∀ k_, bR.heap.size ≤ k_ → (fun k_ => ((P0_1_ k_ ∨ P1_1_ k_ ∨ P2_1_ k_) ∨ w.heap.size ≤ k_) ∧ k_ ≠ al ∧ k_ ≠ an ∧ k_ ≠ ao ∧ k_ ≠ ap) k_ from fun k_ hk => ⟨(.inr (Nat.le_trans (below_size (bu4 HB.out ah.out ai.out aj.out ak.out)) hk)), Kd.freshB (g := al) (o := .cells #[.int .i64 a0_0, .slice A0_1 l0_1.length c0_1] 53 (0, 0)) (ku ac.out) k_ hk, Kd.freshB (g := an) (o := .cells #[.int .i64 a1_0, .slice A1_1 l1_1.length c1_1] 53 (0, 0)) (ku ad.out) k_ hk, Kd.freshB (g := ao) (o := .cells #[.int .i64 a2_0, .slice A2_1 l2_1.length c2_1] 53 (0, 0)) (ku af.out) k_ hk, Kd.freshB (g := ap) (o := .cells #[] 54 (0, 0)) (ku ag.out) k_ hk⟩) _ (Nat.le_refl _)) (Below.refl _ _) (Nat.le_refl _) (by simp) ?_; (case hd => rfl); (case hg => rfl); (case hr => first | (go_simp; done) | (go_simp; rfl)); (case hp => exact (Reps.one (show Kd.FK (Kd.slice 48 (Kd.int .u32)) _ _ l0_1 [.slice A0_1 l0_1.length c0_1] from (Kd.FK_slice_mk (Kd.V_reads' (vy ((fun k_ => ((P0_1_ k_ ∨ P1_1_ k_ ∨ P2_1_ k_) ∨ w.heap.size ≤ k_) ∧ k_ ≠ al ∧ k_ ≠ an ∧ k_ ≠ ao ∧ k_ ≠ ap)) aq.out)).2.1 (Kd.V_F (vy ((fun k_ => ((P0_1_ k_ ∨ P1_1_ k_ ∨ P2_1_ k_) ∨ w.heap.size ≤ k_) ∧ k_ ≠ al ∧ k_ ≠ an ∧ k_ ≠ ao ∧ k_ ≠ ap)) aq.out)))) (Reps.one (show Kd.FK (Kd.slice 48 (Kd.int .u32)) _ _ l1_1 [.slice A1_1 l1_1.length c1_1] from (Kd.FK_slice_mk (Kd.V_reads' (vy ((fun k_ => ((P0_1_ k_ ∨ P1_1_ k_ ∨ P2_1_ k_) ∨ w.heap.size ≤ k_) ∧ k_ ≠ al ∧ k_ ≠ an ∧ k_ ≠ ao ∧ k_ ≠ ap)) au.out)).2.1 (Kd.V_F (vy ((fun k_ => ((P0_1_ k_ ∨ P1_1_ k_ ∨ P2_1_ k_) ∨ w.heap.size ≤ k_) ∧ k_ ≠ al ∧ k_ ≠ an ∧ k_ ≠ ao ∧ k_ ≠ ap)) au.out)))) (Reps.one (show Kd.FK (Kd.slice 48 (Kd.int .u32)) _ _ l2_1 [.slice A2_1 l2_1.length c2_1] from (Kd.FK_slice_mk (Kd.V_reads' (vy ((fun k_ => ((P0_1_ k_ ∨ P1_1_ k_ ∨ P2_1_ k_) ∨ w.heap.size ≤ k_) ∧ k_ ≠ al ∧ k_ ≠ an ∧ k_ ≠ ao ∧ k_ ≠ ap)) av.out)).2.1 (Kd.V_F (vy ((fun k_ => ((P0_1_ k_ ∨ P1_1_ k_ ∨ P2_1_ k_) ∨ w.heap.size ≤ k_) ∧ k_ ≠ al ∧ k_ ≠ an ∧ k_ ≠ ao ∧ k_ ≠ ap)) av.out)))) (Reps.none _ _))))); intro fq gJ bb hb hg_ hnew_; clear hg_ hnew_; (first | rw [← bS.out] at bb | (simp only [Int.reduceToNat] at bb; rw [← bS.out] at bb)); replace aq := el aq bb hb; replace au := el au bb hb; replace av := el av bb hb; have aW := am (Kd.N_lower bb (below_size (bu4 HB.out ah.out ai.out aj.out ak.out))); replace ac := kb ac hb; replace ad := kb ad hb; replace af := kb af hb; replace ag := kb ag hb; replace HB := be4 HB ah ai aj ak hb; clear hb bb; obtain ⟨df, dg, fi⟩ := Kd.N_slice aW.out; subst fi) | ((with_reducible refine gate_dst (N := 16) rfl ?_); (try (refine gate_guard (by rfl) ?_; dsimp only)); refine Kd.N_lit (Kd.slice 42 (Kd.slice 48 (Kd.int .u32))) _ 45 ?hg (N' := 16) ?hd (xs := ([bl] : List (List (List Int)))) (inner := [.slice df bl.length dg]) (ok := (fun k_ => ((P0_1_ k_ ∨ P1_1_ k_ ∨ P2_1_ k_) ∨ w.heap.size ≤ k_) ∧ k_ ≠ al ∧ k_ ≠ an ∧ k_ ≠ ao ∧ k_ ≠ ap)) (okp := (fun k_ => ((P0_1_ k_ ∨ P1_1_ k_ ∨ P2_1_ k_) ∨ w.heap.size ≤ k_) ∧ k_ ≠ al ∧ k_ ≠ an ∧ k_ ≠ ao ∧ k_ ≠ ap)) ?hr ?hp (fun _ hk => hk) ((show ∀ k_, gJ.heap.size ≤ k_ → (fun k_ => ((P0_1_ k_ ∨ P1_1_ k_ ∨ P2_1_ k_) ∨ w.heap.size ≤ k_) ∧ k_ ≠ al ∧ k_ ≠ an ∧ k_ ≠ ao ∧ k_ ≠ ap) k_ from fun k_ hk => ⟨(.inr (Nat.le_trans (below_size (bu4 HB.out ah.out ai.out aj.out ak.out)) hk)), Kd.freshB (g := al) (o := .cells #[.int .i64 a0_0, .slice A0_1 l0_1.length c0_1] 53 (0, 0)) (ku ac.out) k_ hk, Kd.freshB (g := an) (o := .cells #[.int .i64 a1_0, .slice A1_1 l1_1.length c1_1] 53 (0, 0)) (ku ad.out) k_ hk, Kd.freshB (g := ao) (o := .cells #[.int .i64 a2_0, .slice A2_1 l2_1.length c2_1] 53 (0, 0)) (ku af.out) k_ hk, Kd.freshB (g := ap) (o := .cells #[] 54 (0, 0)) (ku ag.out) k_ hk⟩) _ (Nat.le_refl _)) (Below.refl _ _) (Nat.le_refl _) (by simp) ?_; (case hd => rfl); (case hg => rfl); (case hr => first | (go_simp; done) | (go_simp; rfl)); (case hp => exact (Reps.one (show Kd.FK (Kd.slice 42 (Kd.slice 48 (Kd.int .u32))) _ _ bl [.slice df bl.length dg] from (Kd.FK_slice_mk (Kd.N_reads' (Kd.N_mono (ok' := (fun k_ => ((P0_1_ k_ ∨ P1_1_ k_ ∨ P2_1_ k_) ∨ w.heap.size ≤ k_) ∧ k_ ≠ al ∧ k_ ≠ an ∧ k_ ≠ ao ∧ k_ ≠ ap)) (aW.out) (fun k_ hk => ⟨hk.1, ⟨hk.2.1, ⟨hk.2.2.1, ⟨hk.2.2.2.1, hk.2.2.2.2⟩⟩⟩⟩))).2.1 (Kd.N_F (Kd.N_mono (ok' := (fun k_ => ((P0_1_ k_ ∨ P1_1_ k_ ∨ P2_1_ k_) ∨ w.heap.size ≤ k_) ∧ k_ ≠ al ∧ k_ ≠ an ∧ k_ ≠ ao ∧ k_ ≠ ap)) (aW.out) (fun k_ hk => ⟨hk.1, ⟨hk.2.1, ⟨hk.2.2.1, ⟨hk.2.2.2.1, hk.2.2.2.2⟩⟩⟩⟩))))) (Reps.none _ _))); intro ft iF bd hb hg_ hnew_; clear hg_ hnew_; (first | rw [← bT.out] at bd | (simp only [Int.reduceToNat] at bd; rw [← bT.out] at bd)); replace aq := el aq bd hb; replace au := el au bd hb; replace av := el av bd hb; have aB := am (Kd.N_lower bd (below_size (bu4 HB.out ah.out ai.out aj.out ak.out))); replace ac := kb ac hb; replace ad := kb ad hb; replace af := kb af hb; replace ag := kb ag hb; replace HB := be4 HB ah ai aj ak hb; clear aW hb bd; obtain ⟨fj, fk, fl⟩ := Kd.N_slice aB.out; subst fl) | ((with_reducible refine gate_callee (f := 49) rfl ?_); refine goesL_ (some 17) rfl rfl Try.func49 (by kernel_rfl) rfl #[.slice fj bm.length fk] rfl lu ?_; (with_reducible refine (codewrightlaw46_short.calls k _ _ bm false _ ?side1 ?side2 A4.out).mono ?_); (case side1 => exact cu (Kd.N_reads' aB.out).2.2); (case side2 => exact (Kd.N_reads' aB.out).2.1); rintro e w' ⟨rfl, ⟨nd, rfl⟩⟩; refine ⟨_, rfl, ?_⟩) | ((with_reducible refine gate_callee (f := 50) rfl ?_); refine goesL_ (some 19) rfl rfl Try.func50 (by kernel_rfl) rfl #[] rfl lu ?_; (with_reducible refine (codewrightlaw46_alive.calls  bV _ gw.out).mono ?_); rintro e iG ⟨rfl, hb⟩; refine ⟨_, rfl, ?_⟩; replace aq := kv aq hb; replace au := kv au hb; replace av := kv av hb; replace aB := kn aB hb; replace ac := kb ac hb; replace ad := kb ad hb; replace af := kb af hb; replace ag := kb ag hb; replace HB := be4 HB ah ai aj ak hb; (try clear hb); (try clear hk)))
  go_ret
  exact ⟨by first | rfl | (simp [errW_none, errW_some] <;> rfl) | (simp [*, errW_none, errW_some] <;> rfl), by repeat (first | (with_reducible first | exact HB.out | apply below_alloc | apply pw_below_drewN | apply below_drew1 | refine below_set ?_ ah.out | refine below_set ?_ ai.out | refine below_set ?_ aj.out | refine below_set ?_ ak.out) | exact HB.out)⟩
def semiring_MinPlus_Add.f  (a1 : Int) (a2 : Int) : Option (Int) := (semiring_cost.f a1).bind fun t130 => ((semiring_cost.f a2).bind fun t131 => (some (mn t130 t131)))
def semiring_MinPlus_Same.f  (a1 : Int) (a2 : Int) : Option (Bool) := (semiring_cost.f a1).bind fun t139 => ((semiring_cost.f a2).bind fun t140 => (some (t139 == t140)))
end Go.Proofs.Ytecfdemglbfnoaa.PT
end
section
namespace Go.Proofs.Ytecfdemglbfnoaa.Num
open Go.RowKit Go.Proofs.Ytecfdemglbfnoaa.PT Go.Proofs.YtecfdemglbfnoaaW.PrintWords Go.Proofs.YtecfdemglbfnoaaW.PrintLast Go.Proofs.YtecfdemglbfnoaaW.PrintMore
theorem w64 {x : Int} (h : -9223372036854775808 ≤ x) (h' : x ≤ 9223372036854775807) : wrap64 x = x := by unfold wrap64; omega
theorem u64 {x : Int} (h : 0 ≤ x) (h' : x < 18446744073709551616) : IntKind.u64.wrap x = x := by
  have e : IntKind.u64.wrap x = x % 18446744073709551616 := by simp [IntKind.wrap, IntKind.bits, IntKind.signed]
  rw [e]; omega
theorem up (i : Nat) (h : i < 9223372036854775807) : wrap64 ((i : Int) + 1) = ((i + 1 : Nat) : Int) := by rw [w64 (by omega) (by omega)]; rfl
theorem dn (n : Nat) (h : n < 9223372036854775807) : wrap64 (((n + 1 : Nat) : Int) - 1) = (n : Int) := by rw [w64 (by omega) (by omega)]; omega
theorem cut_lb {l : List Int} (h : U l) (n : Nat) (hn : n ≤ l.length) (hz : valn (l.drop n) = 0) (hl : n = 0 ∨ rd l ((n - 1 : Nat) : Int) ≠ 0) : l.take n = lb (valn l) := by
  rw [← valn_take_of_zero l n hn hz]
  refine (lb_valn (U_take h n) ?_).symm
  rcases hl with rfl | hl
  · left; simp
  · by_cases h0 : n = 0
    · left; subst h0; simp
    · right
      have e : n - 1 + 1 = n := by omega
      rw [← e, take_rd l (n - 1) (by omega), List.getLast?_append]
      simpa using hl
theorem short_l0 {l : List Int} (h : U l) (hs : l.length ≤ 9223372036854775807) : ∀ n : Nat, n ≤ l.length → valn (l.drop n) = 0 → Ev (fun k => nat_short.l0 k l (n : Int)) (lb (valn l)) := by
  intro n
  induction n with
  | zero =>
    intro hn hz
    rw [← cut_lb h 0 hn hz (.inl rfl)]
    refine Ev.step (f := fun _ => some (l.take 0)) (fun k => ?_) (Ev.now _)
    simp only [nat_short.l0]
    rw [if_neg (by omega), if_pos (by omega), if_pos (by omega)]; rfl
  | succ n ih =>
    intro hn hz
    by_cases e : rd l (n : Int) = 0
    · refine Ev.step (f := fun k => nat_short.l0 k l (n : Int)) (fun k => ?_) (ih (by omega) (by rw [valn_drop_rd, e, hz]; rfl))
      simp only [nat_short.l0]
      rw [if_pos (by omega), dn n (by omega), if_pos (by omega), if_pos (by omega), if_pos e]
    · rw [← cut_lb h (n + 1) hn hz (.inr (by simpa using e))]
      refine Ev.step (f := fun _ => some (l.take (n + 1))) (fun k => ?_) (Ev.now _)
      simp only [nat_short.l0]
      rw [if_pos (by omega), dn n (by omega), if_pos (by omega), if_pos (by omega), if_neg e, if_pos (by omega), if_pos (by omega)]; rfl
theorem short_f {l : List Int} (h : U l) (hs : l.length ≤ 9223372036854775807) : Ev (fun k => nat_short.f k l) (lb (valn l)) :=
  short_l0 h hs l.length (Nat.le_refl _) (by simp [valn_nil])
theorem Trim_f {l : List Int} (h : U l) (hs : l.length < 35184372088832) : Ev (fun k => nat_Trim.f k l) (lb (valn l)) := by
  unfold nat_Trim.f
  refine Ev.bind (short_f h (by omega)) ?_
  have := lb_len h
  refine Ev.congr (f := fun _ => some (lb (valn l))) (fun k => ?_) (Ev.now _)
  rw [if_pos (by simpa using Nat.lt_of_le_of_lt this hs)]; rfl
theorem rTrim_l0 {l : List Int} (h : U l) (hs : l.length < 35184372088832) : ∀ n : Nat, n ≤ l.length → valn (l.drop n) = 0 → Ev (fun k => codewrightref01_Trim.l0 k l (n : Int)) (lb (valn l)) := by
  intro n
  induction n with
  | zero =>
    intro hn hz
    rw [← cut_lb h 0 hn hz (.inl rfl)]
    refine Ev.step (f := fun _ => some (l.take 0)) (fun k => ?_) (Ev.now _)
    simp only [codewrightref01_Trim.l0]
    rw [if_neg (by omega), Option.bind_some, if_pos (by omega), if_pos (by omega), if_pos (by simp)]; rfl
  | succ n ih =>
    intro hn hz
    by_cases e : rd l (n : Int) = 0
    · refine Ev.step (f := fun k => codewrightref01_Trim.l0 k l (n : Int)) (fun k => ?_) (ih (by omega) (by rw [valn_drop_rd, e, hz]; rfl))
      simp only [codewrightref01_Trim.l0]
      rw [if_pos (by omega), dn n (by omega), if_pos (by omega), if_pos (by omega), if_pos e]
    · rw [← cut_lb h (n + 1) hn hz (.inr (by simpa using e))]
      refine Ev.step (f := fun _ => some (l.take (n + 1))) (fun k => ?_) (Ev.now _)
      simp only [codewrightref01_Trim.l0]
      have et : (((n + 1 : Nat) : Int)).toNat = n + 1 := rfl
      rw [if_pos (by omega), dn n (by omega), if_pos (by omega), if_pos (by omega), if_neg e, Option.bind_some, if_pos (by omega), if_pos (by omega), et, if_pos (by rw [List.length_take]; simp; omega)]; rfl
theorem rTrim_f {l : List Int} (h : U l) (hs : l.length < 35184372088832) : Ev (fun k => codewrightref01_Trim.f k l) (lb (valn l)) :=
  rTrim_l0 h hs l.length (Nat.le_refl _) (by simp [valn_nil])
theorem valn_two (n : Nat) (h : n < 18446744073709551616) : valn [((n : Int)) % 4294967296, ((n : Int) / 4294967296) % 4294967296] = n := by
  simp only [valn_cons, valn_nil]; omega
theorem Of_f (n : Nat) (h : n < 18446744073709551616) : Ev (fun k => nat_Of.f k (n : Int)) (lb n) := by
  unfold nat_Of.f
  have := Trim_f (l := [((n : Int)) % 4294967296, ((n : Int) / 4294967296) % 4294967296]) (U_cons (by omega) (U_cons (by omega) U_nil)) (by simp)
  rw [valn_two n h] at this
  exact Ev.bind this (Ev.now _)
theorem step_val {p T S1 S2 a b c d c' : Nat} (h : T + p * c = S1 + S2) (e : a + b + c = d + 4294967296 * c') : (T + p * d) + p * 4294967296 * c' = (S1 + p * a) + (S2 + p * b) := by
  have h1 : p * (a + b + c) = p * (d + 4294967296 * c') := by rw [e]
  simp only [Nat.mul_add] at h1
  have h2 : p * (4294967296 * c') = p * 4294967296 * c' := by rw [Nat.mul_assoc]
  omega
theorem plus_l0 {a b : List Int} (ha : U a) (hb : U b) (hl : b.length ≤ a.length) (hs : a.length < 35184372088832) (d : Nat) : ∀ (i : Nat) (z : List Int) (c : Nat), i + d = a.length → z.length = a.length + 1 → U z → c ≤ 1 →
    valn (z.take i) + pw i * c = valn (a.take i) + valn (b.take i) →
    Ev (fun k => nat_plus.l0 k a b z (c : Int) (a.length : Int) (i : Int)) (lb (valn a + valn b)) := by
  induction d with
  | zero =>
    intro i z c hi hz uz hc hv
    obtain rfl : i = a.length := by omega
    have u1 : U (z.set a.length (c : Int)) := U_set uz (by omega) _
    have key : valn (z.set a.length (c : Int)) = valn a + valn b := by
      have h1 := valn_set_take z a.length (c : Int) (by omega)
      rw [List.take_of_length_le (by rw [List.length_set]; omega), Int.toNat_natCast, hv, List.take_of_length_le (Nat.le_refl _), List.take_of_length_le hl] at h1
      exact h1
    have h2 := short_f u1 (by rw [List.length_set]; omega)
    rw [key] at h2
    refine Ev.step (f := fun k => (nat_short.f k (z.set a.length (c : Int))).bind some) (fun k => ?_) (Ev.bind h2 (Ev.now _))
    simp only [nat_plus.l0]
    have e : ((c : Int)) % 4294967296 = c := by omega
    rw [if_neg (by omega), if_pos (by omega), if_pos (by omega), e]; rfl
  | succ d ih =>
    intro i z c hi hz uz hc hv
    have h0 := U_rd ha (i : Int)
    have h1 := U_rd hb (i : Int)
    obtain ⟨s, hs1⟩ : ∃ s : Nat, rd a (i : Int) + (c : Int) + rd b (i : Int) = (s : Int) := ⟨(rd a (i : Int) + (c : Int) + rd b (i : Int)).toNat, by omega⟩
    have em : ((s : Nat) : Int) % 4294967296 = ((s % 4294967296 : Nat) : Int) := by omega
    have ed : ((s : Nat) : Int) / 4294967296 = ((s / 4294967296 : Nat) : Int) := by omega
    have step := ih (i + 1) (z.set i ((s % 4294967296 : Nat) : Int)) (s / 4294967296) (by omega) (by rw [List.length_set]; exact hz) (U_set uz (by omega) _) (by omega) (by
      rw [valn_set_take z i _ (by omega), valn_take_succ a, valn_take_succ b, pw_succ, Int.toNat_natCast]
      exact step_val hv (by omega))
    refine Ev.step (f := fun k => nat_plus.l0 k a b (z.set i ((s % 4294967296 : Nat) : Int)) ((s / 4294967296 : Nat) : Int) (a.length : Int) ((i + 1 : Nat) : Int)) (fun k => ?_) step
    simp only [nat_plus.l0]
    rw [if_pos (by omega), if_pos (by omega), if_pos (by omega)]
    by_cases hib : i < b.length
    · rw [if_pos (by omega), if_pos (by omega), u64 (x := rd a (i : Int)) (by omega) (by omega), u64 (x := rd a (i : Int) + (c : Int)) (by omega) (by omega), u64 (x := rd b (i : Int)) (by omega) (by omega), u64 (x := rd a (i : Int) + (c : Int) + rd b (i : Int)) (by omega) (by omega), hs1, up i (by omega), em, ed, Int.toNat_natCast]
    · have hb0 : rd b (i : Int) = 0 := rd_ge b i (by omega)
      rw [if_neg (by omega), if_pos (by omega), u64 (x := rd a (i : Int)) (by omega) (by omega), u64 (x := rd a (i : Int) + (c : Int)) (by omega) (by omega), up i (by omega)]
      have hs2 : rd a (i : Int) + (c : Int) = (s : Int) := by omega
      rw [hs2, em, ed, Int.toNat_natCast]
theorem plus_f {a b : List Int} (ha : U a) (hb : U b) (hsa : a.length < 35184372088832) (hsb : b.length < 35184372088832) : Ev (fun k => nat_plus.f k a b) (lb (valn a + valn b)) := by
  have go : ∀ {a b : List Int}, U a → U b → b.length ≤ a.length → a.length < 35184372088832 → Ev (fun k => nat_plus.j0 k a b) (lb (valn a + valn b)) := by
    intro a b ha hb hl hs
    have h := plus_l0 ha hb hl hs a.length 0 (List.replicate (a.length + 1) 0) 0 (by omega) (by simp) (U_replicate _) (by omega) (by simp [valn_nil])
    refine Ev.step (fun k => ?_) h
    simp only [nat_plus.j0]
    rw [up a.length (by omega), if_pos (by omega), Int.toNat_natCast, if_pos (by omega)]; rfl
  unfold nat_plus.f
  by_cases h : a.length < b.length
  · have := go hb ha (by omega) hsb
    rw [Nat.add_comm] at this
    exact Ev.congr (fun k => if_pos (by omega)) this
  · exact Ev.congr (fun k => if_neg (by omega)) (go ha hb (by omega) hsa)
def sumv (ls : List (List Int)) : Nat := (ls.map valn).sum
theorem rdL4_at (ls : List (List Int)) (i : Nat) (h : i < ls.length) : ls.drop i = rd_L4 ls (i : Int) :: ls.drop (i + 1) := by
  simp [rd_L4, h]
theorem rdL4_mem (ls : List (List Int)) (i : Nat) (h : i < ls.length) : rd_L4 ls (i : Int) ∈ ls := by simp [rd_L4, h]
theorem Add_l0 {ls : List (List Int)} (hU : ∀ l ∈ ls, U l) (m : Nat) (hm : ∀ l ∈ ls, l.length ≤ m) (hs : m + ls.length < 35184372088832) (d : Nat) : ∀ (i : Nat) (s : Nat), i + d = ls.length → s < pw (m + i) →
    Ev (fun k => nat_Add.l0 k (lb s) ls (ls.length : Int) (i : Int)) (lb (s + sumv (ls.drop i))) := by
  induction d with
  | zero =>
    intro i s hi hlt
    obtain rfl : i = ls.length := by omega
    have hlen := lb_len_le hlt
    have h := Trim_f (U_lb s) (by omega)
    rw [valn_lb] at h
    have e : s + sumv (ls.drop ls.length) = s := by simp [sumv]
    rw [e]
    refine Ev.step (f := fun k => (nat_Trim.f k (lb s)).bind some) (fun k => ?_) (Ev.bind h (Ev.now _))
    simp only [nat_Add.l0]
    rw [if_neg (by omega)]
  | succ d ih =>
    intro i s hi hlt
    have hmem := rdL4_mem ls i (by omega)
    have hlen := lb_len_le hlt
    have hlx := hm _ hmem
    have h1 := short_f (hU _ hmem) (by omega)
    have h2 := plus_f (U_lb s) (U_lb (valn (rd_L4 ls (i : Int)))) (by omega) (by have := lb_len (hU _ hmem); omega)
    rw [valn_lb, valn_lb] at h2
    have hlt2 : s + valn (rd_L4 ls (i : Int)) < pw (m + (i + 1)) := by
      have a1 := valn_lt (hU _ hmem)
      have a2 : pw (rd_L4 ls (i : Int)).length ≤ pw (m + i) := pw_mono (by omega)
      rw [← Nat.add_assoc, pw_succ]; omega
    have h3 := ih (i + 1) _ (by omega) hlt2
    have e : s + sumv (ls.drop i) = s + valn (rd_L4 ls (i : Int)) + sumv (ls.drop (i + 1)) := by
      rw [rdL4_at ls i (by omega)]; simp only [sumv, List.map_cons, List.sum_cons]; omega
    rw [e]
    refine Ev.step (f := fun k => (nat_short.f k (rd_L4 ls (i : Int))).bind fun t => (nat_plus.f k (lb s) t).bind fun t' => nat_Add.l0 k t' ls (ls.length : Int) ((i + 1 : Nat) : Int)) (fun k => ?_) (Ev.bind h1 (Ev.bind h2 h3))
    simp only [nat_Add.l0]
    rw [if_pos (by omega), if_pos (by omega), if_pos (by omega), up i (by omega)]
theorem Add_f {ls : List (List Int)} (hU : ∀ l ∈ ls, U l) (m : Nat) (hm : ∀ l ∈ ls, l.length ≤ m) (hs : m + ls.length < 35184372088832) : Ev (fun k => nat_Add.f k ls) (lb (sumv ls)) := by
  have h := Add_l0 hU m hm hs ls.length 0 0 (by omega) (pw_pos _)
  rw [lb_zero] at h
  simpa [nat_Add.f] using h
theorem Add_two {a b : List Int} (ha : U a) (hb : U b) (hsa : a.length < 30000000000000) (hsb : b.length < 30000000000000) : Ev (fun k => nat_Add.f k [a, b]) (lb (valn a + valn b)) := by
  have h := Add_f (ls := [a, b]) (by intro l hl; simp at hl; rcases hl with rfl | rfl <;> assumption) 30000000000000 (by intro l hl; simp at hl; rcases hl with rfl | rfl <;> omega) (by simp)
  simpa [sumv] using h
theorem mul_step {V V' Z0 p P q d bj zij c tm c' S : Nat} (h : V + p * c = Z0 + P * d * S) (hs : V' + p * zij = V + p * tm) (e : d * bj + zij + c = tm + 4294967296 * c') (hp : p = P * q) :
    V' + p * 4294967296 * c' = Z0 + P * d * (S + q * bj) := by
  have h1 : p * (d * bj + zij + c) = p * (tm + 4294967296 * c') := by rw [e]
  simp only [Nat.mul_add] at h1 ⊢
  have h2 : P * d * (q * bj) = p * (d * bj) := by rw [hp]; ac_rfl
  have h3 : p * 4294967296 * c' = p * (4294967296 * c') := by rw [Nat.mul_assoc]
  omega
def tv (d bj zij c : Nat) : Nat := d * bj + zij + c
theorem tv_lt {d bj zij c : Nat} (hd : d < 4294967296) (hb : bj < 4294967296) (hz : zij < 4294967296) (hc : c < 4294967296) : tv d bj zij c < 18446744073709551616 := by
  have := Nat.mul_le_mul (Nat.le_sub_one_of_lt hd) (Nat.le_sub_one_of_lt hb)
  unfold tv; omega
theorem inner {α : Type} {b : List Int} (hb : U b) (L i d : Nat) (hd : d < 4294967296) (hL : i + b.length < L) (F : Nat → List Int → Nat → Nat → Option α) (R : α) (v0 : Nat)
    (hstep : ∀ k z c j, j < b.length → z.length = L → U z → c < 4294967296 →
      F (k + 1) z c j = F k (z.set (i + j) ((tv d (rd b (j : Int)).toNat (rd z ((i + j : Nat) : Int)).toNat c % 4294967296 : Nat) : Int)) (tv d (rd b (j : Int)).toNat (rd z ((i + j : Nat) : Int)).toNat c / 4294967296) (j + 1))
    (hend : ∀ z c, z.length = L → U z → c < 4294967296 → valn z + pw (i + b.length) * c = v0 + pw i * d * valn b → valn (z.drop (i + b.length)) = 0 → Ev (fun k => F k z c b.length) R) (n : Nat) :
    ∀ (j : Nat) (z : List Int) (c : Nat), j + n = b.length → z.length = L → U z → c < 4294967296 → valn z + pw (i + j) * c = v0 + pw i * d * valn (b.take j) → valn (z.drop (i + b.length)) = 0 → Ev (fun k => F k z c j) R := by
  induction n with
  | zero =>
    intro j z c hj hz uz hc hv h0
    obtain rfl : j = b.length := by omega
    rw [List.take_of_length_le (Nat.le_refl _)] at hv
    exact hend z c hz uz hc hv h0
  | succ n ih =>
    intro j z c hj hz uz hc hv h0
    have b1 := U_rd hb (j : Int)
    have b2 := U_rd uz ((i + j : Nat) : Int)
    have ht := tv_lt (d := d) (bj := (rd b (j : Int)).toNat) (zij := (rd z ((i + j : Nat) : Int)).toNat) (c := c) hd (by omega) (by omega) hc
    refine Ev.step (fun k => hstep k z c j (by omega) hz uz hc) (ih (j + 1) _ _ (by omega) (by rw [List.length_set]; exact hz) (U_set uz (by omega) _) (by omega) ?_ ?_)
    · rw [valn_take_succ, ← Nat.add_assoc, pw_succ]
      have hs := valn_set z (i + j) ((tv d (rd b (j : Int)).toNat (rd z ((i + j : Nat) : Int)).toNat c % 4294967296 : Nat) : Int) (by omega)
      rw [Int.toNat_natCast] at hs
      exact mul_step hv hs (by have e : d * (rd b (j : Int)).toNat + (rd z ((i + j : Nat) : Int)).toNat + c = tv d (rd b (j : Int)).toNat (rd z ((i + j : Nat) : Int)).toNat c := rfl
                               rw [e]; omega) (pw_add i j)
    · rw [List.drop_set_of_lt (by omega)]; exact h0
theorem mulLoop {α : Type} {a b : List Int} (ha : U a) (hb : U b) (G : Nat → List Int → Nat → Option α) (F : Nat → Nat → List Int → Nat → Nat → Option α) (R : α)
    (h1 : ∀ k z i, i < a.length → z.length = a.length + b.length → G (k + 1) z i = F k i z 0 0)
    (h2 : ∀ k i z c j, i < a.length → j < b.length → z.length = a.length + b.length → U z → c < 4294967296 →
      F (k + 1) i z c j = F k i (z.set (i + j) ((tv (rd a (i : Int)).toNat (rd b (j : Int)).toNat (rd z ((i + j : Nat) : Int)).toNat c % 4294967296 : Nat) : Int)) (tv (rd a (i : Int)).toNat (rd b (j : Int)).toNat (rd z ((i + j : Nat) : Int)).toNat c / 4294967296) (j + 1))
    (h3 : ∀ k i z (c : Nat), i < a.length → z.length = a.length + b.length → c < 4294967296 → F (k + 1) i z c b.length = G k (z.set (i + b.length) (c : Int)) (i + 1))
    (h4 : ∀ z, U z → z.length = a.length + b.length → valn z = valn a * valn b → Ev (fun k => G k z a.length) R) : Ev (fun k => G k (List.replicate (a.length + b.length) 0) 0) R := by
  have go : ∀ (n i : Nat) (z : List Int), i + n = a.length → z.length = a.length + b.length → U z → valn z = valn (a.take i) * valn b → valn (z.drop (i + b.length)) = 0 → Ev (fun k => G k z i) R := by
    intro n
    induction n with
    | zero =>
      intro i z hi hz uz hv h0
      obtain rfl : i = a.length := by omega
      rw [List.take_of_length_le (Nat.le_refl _)] at hv
      exact h4 z uz hz hv
    | succ n ih =>
      intro i z hi hz uz hv h0
      have a1 := U_rd ha (i : Int)
      refine Ev.step (fun k => h1 k z i (by omega) hz) ?_
      refine inner hb (a.length + b.length) i (rd a (i : Int)).toNat (by omega) (by omega) (fun k z c j => F k i z c j) R (valn z) (fun k z c j hj hz uz hc => h2 k i z c j (by omega) hj hz uz hc) ?_ b.length 0 z 0 (by omega) hz uz (by omega) (by simp [valn_nil]) h0
      intro z' c hz' uz' hc hv' h0'
      refine Ev.step (fun k => h3 k i z' c (by omega) hz' hc) (ih (i + 1) _ (by omega) (by rw [List.length_set]; exact hz') (U_set uz' (by omega) _) ?_ ?_)
      · have hs := valn_set z' (i + b.length) (c : Int) (by omega)
        rw [Int.toNat_natCast] at hs
        have hr : (rd z' ((i + b.length : Nat) : Int)).toNat = 0 := by
          have := valn_drop_rd z' (i + b.length)
          omega
        rw [hr, Nat.mul_zero, Nat.add_zero] at hs
        rw [hs, hv', hv, valn_take_succ, Nat.add_mul]
      · rw [List.drop_set_of_lt (by omega)]
        have := valn_drop_rd z' (i + b.length)
        have e : i + 1 + b.length = i + b.length + 1 := by omega
        rw [e]; omega
  exact go a.length 0 _ (by omega) (by simp) (U_replicate _) (by simp [valn_replicate, valn_nil]) (by rw [List.drop_replicate]; exact valn_replicate _)
theorem times_f {a b : List Int} (ha : U a) (hb : U b) (hs : a.length + b.length < 35184372088832) : Ev (fun k => nat_times.f k a b) (lb (valn a * valn b)) := by
  have go := mulLoop ha hb (fun k z i => nat_times.l0 k b z a (a.length : Int) (i : Int)) (fun k i z c j => nat_times.l1 k b z (i : Int) (rd a (i : Int)) (c : Int) a (a.length : Int) (i : Int) b (b.length : Int) (j : Int)) (lb (valn a * valn b)) ?_ ?_ ?_ ?_
  · refine Ev.congr (fun k => ?_) go
    unfold nat_times.f
    have e : wrap64 ((a.length : Int) + (b.length : Int)) = ((a.length + b.length : Nat) : Int) := by rw [w64 (by omega) (by omega)]; rfl
    rw [e, if_pos (by omega), Int.toNat_natCast, if_pos (by omega)]; rfl
  · intro k z i hi hz
    simp only [nat_times.l0]
    rw [if_pos (by omega), if_pos (by omega), if_pos (by omega)]; rfl
  · intro k i z c j hi hj hz uz hc
    have a1 := U_rd ha (i : Int)
    have b1 := U_rd hb (j : Int)
    have b2 := U_rd uz ((i + j : Nat) : Int)
    have ht := tv_lt (d := (rd a (i : Int)).toNat) (bj := (rd b (j : Int)).toNat) (zij := (rd z ((i + j : Nat) : Int)).toNat) (c := c) (by omega) (by omega) (by omega) hc
    obtain ⟨A, hA⟩ : ∃ A : Nat, rd a (i : Int) = (A : Int) := ⟨(rd a (i : Int)).toNat, by omega⟩
    obtain ⟨B, hB⟩ : ∃ B : Nat, rd b (j : Int) = (B : Int) := ⟨(rd b (j : Int)).toNat, by omega⟩
    obtain ⟨Z, hZ⟩ : ∃ Z : Nat, rd z ((i + j : Nat) : Int) = (Z : Int) := ⟨(rd z ((i + j : Nat) : Int)).toNat, by omega⟩
    have eij : wrap64 ((i : Int) + (j : Int)) = ((i + j : Nat) : Int) := by rw [w64 (by omega) (by omega)]; rfl
    simp only [nat_times.l1]
    rw [if_pos (by omega), if_pos (by omega), if_pos (by omega), eij]
    clear eij
    rw [hA, hB, hZ] at ht ⊢
    simp only [Int.toNat_natCast] at ht ⊢
    have hp : A * B ≤ tv A B Z c := by unfold tv; omega
    have ht2 : A * B + Z + c < 18446744073709551616 := ht
    have e1 : IntKind.u64.wrap (A : Int) = (A : Int) := u64 (by omega) (by omega)
    have e2 : IntKind.u64.wrap (B : Int) = (B : Int) := u64 (by omega) (by omega)
    have e3 : IntKind.u64.wrap (Z : Int) = (Z : Int) := u64 (by omega) (by omega)
    have e4 : IntKind.u64.wrap ((A : Int) * (B : Int)) = ((A * B : Nat) : Int) := by rw [← Int.natCast_mul]; exact u64 (Int.natCast_nonneg _) (by omega)
    have e5 : IntKind.u64.wrap (((A * B : Nat) : Int) + (Z : Int)) = ((A * B + Z : Nat) : Int) := by
      rw [← Int.natCast_add]; exact u64 (Int.natCast_nonneg _) (by
        have : A * B + Z ≤ tv A B Z c := by unfold tv; omega
        omega)
    have e6 : IntKind.u64.wrap (((A * B + Z : Nat) : Int) + (c : Int)) = ((tv A B Z c : Nat) : Int) := by
      rw [← Int.natCast_add]; exact u64 (Int.natCast_nonneg _) (by omega)
    rw [e1, e2, e3, e4, e5, e6]
    clear e1 e2 e3 e4 e5 e6
    generalize tv A B Z c = t at ht ⊢
    have em : ((t : Nat) : Int) % 4294967296 = ((t % 4294967296 : Nat) : Int) := by omega
    have ed : ((t : Nat) : Int) / 4294967296 = ((t / 4294967296 : Nat) : Int) := by omega
    rw [if_pos (by omega), if_pos (by omega), em, ed, up j (by omega)]
  · intro k i z c hi hz hc
    have eij : wrap64 ((i : Int) + (b.length : Int)) = ((i + b.length : Nat) : Int) := by rw [w64 (by omega) (by omega)]; rfl
    have ec : ((c : Nat) : Int) % 4294967296 = (c : Int) := by omega
    simp only [nat_times.l1]
    rw [if_neg (by omega), eij, ec]
    clear eij ec
    rw [if_pos (by omega), if_pos (by omega), up i (by omega), Int.toNat_natCast]
  · intro z uz hz hv
    have h := short_f uz (by omega)
    rw [hv] at h
    refine Ev.step (f := fun k => (nat_short.f k z).bind some) (fun k => ?_) (Ev.bind h (Ev.now _))
    simp only [nat_times.l0]
    rw [if_neg (by omega)]
def prodv (ls : List (List Int)) : Nat := (ls.map valn).foldr (· * ·) 1
def lensum (ls : List (List Int)) : Nat := (ls.map List.length).sum
theorem Mul_l0 {ls : List (List Int)} (hU : ∀ l ∈ ls, U l) (hL : ls.length ≤ 9223372036854775807) (n0 : Nat) (n : Nat) : ∀ (i : Nat) (s m : Nat), i + n = ls.length → s < pw m → m + lensum (ls.drop i) ≤ n0 → n0 < 35184372088832 →
    Ev (fun k => nat_Mul.l0 k (lb s) ls (ls.length : Int) (i : Int)) (lb (s * prodv (ls.drop i))) := by
  induction n with
  | zero =>
    intro i s m hi hlt hm hn
    obtain rfl : i = ls.length := by omega
    have hlen := lb_len_le hlt
    have h := Trim_f (U_lb s) (by omega)
    rw [valn_lb] at h
    have e : s * prodv (ls.drop ls.length) = s := by simp [prodv]
    rw [e]
    refine Ev.step (f := fun k => (nat_Trim.f k (lb s)).bind some) (fun k => ?_) (Ev.bind h (Ev.now _))
    simp only [nat_Mul.l0]
    rw [if_neg (by omega)]
  | succ n ih =>
    intro i s m hi hlt hm hn
    have hmem := rdL4_mem ls i (by omega)
    have hd := rdL4_at ls i (by omega)
    rw [hd] at hm ⊢
    have hm' : m + ((rd_L4 ls (i : Int)).length + lensum (ls.drop (i + 1))) ≤ n0 := by simpa [lensum] using hm
    have hlen := lb_len_le hlt
    have hlen2 := lb_len (hU _ hmem)
    have h1 := short_f (hU _ hmem) (by omega)
    have h2 := times_f (U_lb s) (U_lb (valn (rd_L4 ls (i : Int)))) (by omega)
    rw [valn_lb, valn_lb] at h2
    have hlt2 : s * valn (rd_L4 ls (i : Int)) < pw (m + (rd_L4 ls (i : Int)).length) := by
      rw [pw_add]
      exact Nat.mul_lt_mul'' hlt (valn_lt (hU _ hmem))
    have h3 := ih (i + 1) _ _ (by omega) hlt2 (by omega) hn
    have e : s * prodv (rd_L4 ls (i : Int) :: ls.drop (i + 1)) = s * valn (rd_L4 ls (i : Int)) * prodv (ls.drop (i + 1)) := by
      simp only [prodv, List.map_cons, List.foldr_cons, Nat.mul_assoc]
    rw [e]
    refine Ev.step (f := fun k => (nat_short.f k (rd_L4 ls (i : Int))).bind fun t => (nat_times.f k (lb s) t).bind fun t' => nat_Mul.l0 k t' ls (ls.length : Int) ((i + 1 : Nat) : Int)) (fun k => ?_) (Ev.bind h1 (Ev.bind h2 h3))
    simp only [nat_Mul.l0]
    rw [if_pos (by omega), if_pos (by omega), if_pos (by omega), up i (by omega)]
theorem lb_one : lb 1 = [1] := by rw [lb_pos (by omega)]; simp [lb_zero]
theorem Mul_f {ls : List (List Int)} (hU : ∀ l ∈ ls, U l) (hs : lensum ls < 35184372088831) (hn : ls.length ≤ 9223372036854775807) : Ev (fun k => nat_Mul.f k ls) (lb (prodv ls)) := by
  have h := Mul_l0 hU hn (1 + lensum ls) ls.length 0 1 1 (by omega) (by rw [pw_succ, pw_zero]; omega) (by simp) (by omega)
  rw [lb_one] at h
  simpa [nat_Mul.f] using h
theorem Mul_two {a b : List Int} (ha : U a) (hb : U b) (hs : a.length + b.length < 30000000000000) : Ev (fun k => nat_Mul.f k [a, b]) (lb (valn a * valn b)) := by
  have h := Mul_f (ls := [a, b]) (by intro l hl; simp at hl; rcases hl with rfl | rfl <;> assumption) (by simp [lensum]; omega) (by simp)
  simpa [prodv] using h
theorem addij (i j : Nat) (h : i + j < 9223372036854775807) : wrap64 ((i : Int) + (j : Int)) = ((i + j : Nat) : Int) := by rw [w64 (by omega) (by omega)]; rfl
theorem limb_f {l : List Int} (h : U l) (i : Nat) : codewrightref01_limb.f l (i : Int) = some (rd l (i : Int)) := by
  unfold codewrightref01_limb.f
  by_cases hi : i < l.length
  · have := U_rd h (i : Int)
    rw [if_pos (by omega), if_pos (by omega), u64 (by omega) (by omega)]
  · rw [if_neg (by omega), rd_ge l i (by omega)]
theorem tmod_nat (s : Nat) : Int.tmod (s : Int) 4294967296 = ((s % 4294967296 : Nat) : Int) := rfl
theorem tdiv_nat (s : Nat) : Int.tdiv (s : Int) 4294967296 = ((s / 4294967296 : Nat) : Int) := rfl
theorem radd_l0 {a b : List Int} (ha : U a) (hb : U b) (hsa : a.length < 30000000000000) (hsb : b.length < 30000000000000) (n : Nat) : ∀ (i : Nat) (z : List Int) (c : Nat), i + n = a.length + b.length + 1 → z.length = i → U z → c ≤ 1 → (max a.length b.length < i → c = 0) → i ≤ max a.length b.length + 1 →
    valn z + pw i * c = valn (a.take i) + valn (b.take i) →
    Ev (fun k => codewrightref01_Add.l0 k a b z (c : Int) (i : Int)) (lb (valn a + valn b)) := by
  induction n with
  | zero =>
    intro i z c hi hz uz hc hc0 hm hv
    have ec : c = 0 := by
      by_cases h : max a.length b.length < i
      · exact hc0 h
      · omega
    subst ec
    rw [Nat.mul_zero, Nat.add_zero, List.take_of_length_le (by omega), List.take_of_length_le (by omega)] at hv
    have h := rTrim_f uz (by omega)
    rw [hv] at h
    refine Ev.step (f := fun k => codewrightref01_Add.j1 k a b z (0 : Nat) (i : Int) false) (fun k => ?_) ?_
    · simp only [codewrightref01_Add.l0]
      rw [if_neg (by omega), if_neg (by omega)]; rfl
    · refine Ev.step (f := fun k => (codewrightref01_Trim.f k z).bind some) (fun k => ?_) (Ev.bind h (Ev.now _))
      simp only [codewrightref01_Add.j1]
      rw [if_neg (by simp)]
  | succ n ih =>
    intro i z c hi hz uz hc hc0 hm hv
    by_cases more : i < a.length ∨ i < b.length ∨ 0 < c
    · have h0 := U_rd ha (i : Int)
      have h1 := U_rd hb (i : Int)
      obtain ⟨s, hs1⟩ : ∃ s : Nat, rd a (i : Int) + rd b (i : Int) + (c : Int) = (s : Int) := ⟨(rd a (i : Int) + rd b (i : Int) + (c : Int)).toNat, by omega⟩
      have him : i ≤ max a.length b.length := by
        rcases more with h | h | h
        · omega
        · omega
        · by_cases h' : max a.length b.length < i
          · have := hc0 h'; omega
          · omega
      have step := ih (i + 1) (z ++ [((s % 4294967296 : Nat) : Int)]) (s / 4294967296) (by omega) (by simp [hz]) (U_append uz (U_cons (by omega) U_nil)) (by omega) (by
        intro hlt
        have e : i = max a.length b.length := by omega
        have r1 := rd_ge a i (by omega)
        have r2 := rd_ge b i (by omega)
        omega) (by omega) (by
        rw [valn_append, hz, valn_cons, valn_nil, valn_take_succ a, valn_take_succ b, pw_succ, Int.toNat_natCast, Nat.mul_zero, Nat.add_zero]
        exact step_val hv (by omega))
      refine Ev.step (f := fun k => codewrightref01_Add.j1 k a b z (c : Int) (i : Int) true) (fun k => ?_) (Ev.step (fun k => ?_) step)
      · simp only [codewrightref01_Add.l0]
        by_cases p1 : i < a.length
        · rw [if_pos (by omega)]
        · rw [if_neg (by omega)]
          by_cases p2 : i < b.length
          · rw [if_pos (by omega)]
          · rw [if_neg (by omega), decide_eq_true (by omega : (c : Int) > 0)]
      · simp only [codewrightref01_Add.j1]
        rw [if_pos trivial, limb_f ha, limb_f hb, Option.bind_some, Option.bind_some, if_pos (by omega), u64 (x := rd a (i : Int) + rd b (i : Int)) (by omega) (by omega), u64 (x := rd a (i : Int) + rd b (i : Int) + (c : Int)) (by omega) (by omega), hs1, tmod_nat, tdiv_nat, u64 (x := ((s / 4294967296 : Nat) : Int)) (by omega) (by omega), up i (by omega)]
        have em : (((s % 4294967296 : Nat) : Int)) % 4294967296 = ((s % 4294967296 : Nat) : Int) := by omega
        rw [em]
    · have ec : c = 0 := by omega
      subst ec
      rw [Nat.mul_zero, Nat.add_zero, List.take_of_length_le (by omega), List.take_of_length_le (by omega)] at hv
      have h := rTrim_f uz (by omega)
      rw [hv] at h
      refine Ev.step (f := fun k => codewrightref01_Add.j1 k a b z (0 : Nat) (i : Int) false) (fun k => ?_) ?_
      · simp only [codewrightref01_Add.l0]
        rw [if_neg (by omega), if_neg (by omega)]; rfl
      · refine Ev.step (f := fun k => (codewrightref01_Trim.f k z).bind some) (fun k => ?_) (Ev.bind h (Ev.now _))
        simp only [codewrightref01_Add.j1]
        rw [if_neg (by simp)]
theorem rAdd_f {a b : List Int} (ha : U a) (hb : U b) (hsa : a.length < 30000000000000) (hsb : b.length < 30000000000000) : Ev (fun k => codewrightref01_Add.f k a b) (lb (valn a + valn b)) := by
  have h := radd_l0 ha hb (by omega) (by omega) (a.length + b.length + 1) 0 [] 0 (by omega) rfl U_nil (by omega) (by omega) (by omega) (by simp [valn_nil])
  exact h
theorem rMul_f {a b : List Int} (ha : U a) (hb : U b) (hs : a.length + b.length < 35184372088832) : Ev (fun k => codewrightref01_Mul.f k a b) (lb (valn a * valn b)) := by
  have go := mulLoop ha hb (fun k z i => codewrightref01_Mul.l0 k a b z (i : Int)) (fun k i z c j => codewrightref01_Mul.l1 k a b z (i : Int) (c : Int) (j : Int)) (lb (valn a * valn b)) ?_ ?_ ?_ ?_
  · refine Ev.congr (fun k => ?_) go
    unfold codewrightref01_Mul.f
    have e : wrap64 ((a.length : Int) + (b.length : Int)) = ((a.length + b.length : Nat) : Int) := by rw [w64 (by omega) (by omega)]; rfl
    rw [e, if_pos (by omega), Int.toNat_natCast, if_pos (by omega)]; rfl
  · intro k z i hi hz
    simp only [codewrightref01_Mul.l0]
    rw [if_pos (by omega)]; rfl
  · intro k i z c j hi hj hz uz hc
    have a1 := U_rd ha (i : Int)
    have b1 := U_rd hb (j : Int)
    have b2 := U_rd uz ((i + j : Nat) : Int)
    have ht := tv_lt (d := (rd a (i : Int)).toNat) (bj := (rd b (j : Int)).toNat) (zij := (rd z ((i + j : Nat) : Int)).toNat) (c := c) (by omega) (by omega) (by omega) hc
    obtain ⟨A, hA⟩ : ∃ A : Nat, rd a (i : Int) = (A : Int) := ⟨(rd a (i : Int)).toNat, by omega⟩
    obtain ⟨B, hB⟩ : ∃ B : Nat, rd b (j : Int) = (B : Int) := ⟨(rd b (j : Int)).toNat, by omega⟩
    obtain ⟨Z, hZ⟩ : ∃ Z : Nat, rd z ((i + j : Nat) : Int) = (Z : Int) := ⟨(rd z ((i + j : Nat) : Int)).toNat, by omega⟩
    simp only [codewrightref01_Mul.l1]
    rw [if_pos (by omega), if_pos (by omega), if_pos (by omega), if_pos (by omega), addij i j (by omega)]
    rw [hA, hB, hZ] at ht ⊢
    simp only [Int.toNat_natCast] at ht ⊢
    have hp : A * B ≤ tv A B Z c := by unfold tv; omega
    have ht2 : A * B + Z + c < 18446744073709551616 := ht
    have e1 : IntKind.u64.wrap (A : Int) = (A : Int) := u64 (by omega) (by omega)
    have e2 : IntKind.u64.wrap (B : Int) = (B : Int) := u64 (by omega) (by omega)
    have e3 : IntKind.u64.wrap (Z : Int) = (Z : Int) := u64 (by omega) (by omega)
    have e4 : IntKind.u64.wrap ((A : Int) * (B : Int)) = ((A * B : Nat) : Int) := by rw [← Int.natCast_mul]; exact u64 (Int.natCast_nonneg _) (by omega)
    have e5 : IntKind.u64.wrap (((A * B : Nat) : Int) + (Z : Int)) = ((A * B + Z : Nat) : Int) := by
      rw [← Int.natCast_add]; exact u64 (Int.natCast_nonneg _) (by omega)
    have e6 : IntKind.u64.wrap (((A * B + Z : Nat) : Int) + (c : Int)) = ((tv A B Z c : Nat) : Int) := by
      rw [← Int.natCast_add]; exact u64 (Int.natCast_nonneg _) (by omega)
    rw [e1, e2, e3, e4, e5, e6]
    clear e1 e2 e3 e4 e5 e6
    generalize tv A B Z c = t at ht ⊢
    rw [tmod_nat, tdiv_nat, u64 (x := ((t / 4294967296 : Nat) : Int)) (by omega) (by omega)]
    have em : ((t % 4294967296 : Nat) : Int) % 4294967296 = ((t % 4294967296 : Nat) : Int) := by omega
    rw [if_pos (by omega), if_pos (by omega), em, up j (by omega)]
  · intro k i z c hi hz hc
    have ec : ((c : Nat) : Int) % 4294967296 = (c : Int) := by omega
    simp only [codewrightref01_Mul.l1]
    rw [if_neg (by omega), addij i b.length (by omega), ec]
    clear ec
    rw [if_pos (by omega), if_pos (by omega), up i (by omega), Int.toNat_natCast]
  · intro z uz hz hv
    have h := rTrim_f uz (by omega)
    rw [hv] at h
    refine Ev.step (f := fun k => (codewrightref01_Trim.f k z).bind some) (fun k => ?_) (Ev.bind h (Ev.now _))
    simp only [codewrightref01_Mul.l0]
    rw [if_neg (by omega)]
theorem Same_l0 {a b : List Int} (he : a.length = b.length) (hs : a.length < 9223372036854775807) (n : Nat) : ∀ i : Nat, i + n = a.length → a.take i = b.take i →
    Ev (fun k => codewrightref01_Same.l0 k a b (i : Int)) (decide (a = b)) := by
  induction n with
  | zero =>
    intro i hi ht
    rw [List.take_of_length_le (by omega), List.take_of_length_le (by omega)] at ht
    rw [decide_eq_true ht]
    refine Ev.step (f := fun _ => some true) (fun k => ?_) (Ev.now _)
    simp only [codewrightref01_Same.l0]
    rw [if_neg (by omega)]
  | succ n ih =>
    intro i hi ht
    by_cases e : rd a (i : Int) = rd b (i : Int)
    · refine Ev.step (fun k => ?_) (ih (i + 1) (by omega) (by rw [take_rd a i (by omega), take_rd b i (by omega), ht, e]))
      simp only [codewrightref01_Same.l0]
      rw [if_pos (by omega), if_pos (by omega), if_pos (by omega), if_pos e, up i (by omega)]
    · have hne : a ≠ b := by rintro rfl; exact e rfl
      rw [decide_eq_false hne]
      refine Ev.step (f := fun _ => some false) (fun k => ?_) (Ev.now _)
      simp only [codewrightref01_Same.l0]
      rw [if_pos (by omega), if_pos (by omega), if_pos (by omega), if_neg e]
theorem Same_f {a b : List Int} (hs : a.length < 9223372036854775807) : Ev (fun k => codewrightref01_Same.f k a b) (decide (a = b)) := by
  unfold codewrightref01_Same.f
  by_cases h : a.length = b.length
  · exact Ev.congr (fun k => if_pos (by omega)) (Same_l0 h hs a.length 0 (by omega) rfl)
  · have hne : a ≠ b := by rintro rfl; exact h rfl
    rw [decide_eq_false hne]
    exact Ev.congr (f := fun _ => some false) (fun k => if_neg (by omega)) (Ev.now _)
def sz (n : Nat) : Nat := if n = 0 then 0 else n.log2 + 1
end Go.Proofs.Ytecfdemglbfnoaa.Num
end
section
namespace Go.Proofs.Ytecfdemglbfnoaa.Pure
open Go.RowKit Go.Proofs.Ytecfdemglbfnoaa.PT Go.Proofs.YtecfdemglbfnoaaW.PrintWords Go.Proofs.YtecfdemglbfnoaaW.PrintLast Go.Proofs.YtecfdemglbfnoaaW.PrintMore
def cst (a : Int) : Int := if a < 0 then 0 else if 4611686018427387904 < a then 4611686018427387904 else a
def csum (a b : Int) : Int := if 4611686018427387904 < cst a + cst b then 4611686018427387904 else cst a + cst b
theorem cst_bd (a : Int) : 0 ≤ cst a ∧ cst a ≤ 4611686018427387904 := by unfold cst; omega
theorem cost_f (a : Int) : semiring_cost.f a = some (cst a) := by
  unfold semiring_cost.f mn mx cst; congr 1; omega
theorem capped_f {a b : Int} (ha : 0 ≤ a) (ha' : a ≤ 4611686018427387904) (hb : 0 ≤ b) (hb' : b ≤ 4611686018427387904) :
    semiring_capped.f a b = some (if 4611686018427387904 < a + b then 4611686018427387904 else a + b) := by
  unfold semiring_capped.f wrap64
  by_cases h : 4611686018427387904 < a + b
  · rw [if_pos (by omega), if_pos h]
  · rw [if_neg (by omega), if_neg h]; congr 1; omega
theorem Add_f (a b : Int) : semiring_MinPlus_Add.f a b = some (mn (cst a) (cst b)) := by
  simp [semiring_MinPlus_Add.f, cost_f]
theorem Mul_f (a b : Int) : semiring_MinPlus_Mul.f a b = some (csum a b) := by
  have := cst_bd a; have := cst_bd b
  simp only [semiring_MinPlus_Mul.f, cost_f, Option.bind_some]
  rw [capped_f (by omega) (by omega) (by omega) (by omega)]; rfl
theorem Same_f (a b : Int) : semiring_MinPlus_Same.f a b = some (cst a == cst b) := by
  simp [semiring_MinPlus_Same.f, cost_f]
def gn (a : Int) : Int := if a < -1 then -1 else if 4611686018427387904 < a then 4611686018427387904 else a
end Go.Proofs.Ytecfdemglbfnoaa.Pure
end
section
namespace Go.Proofs.Ytecfdemglbfnoaa.Num
open Go.RowKit Go.Proofs.Ytecfdemglbfnoaa.PT Go.Proofs.YtecfdemglbfnoaaW.PrintWords Go.Proofs.YtecfdemglbfnoaaW.PrintLast Go.Proofs.YtecfdemglbfnoaaW.PrintMore
theorem Ev_succ {α : Type} {g : Nat → Option α} {r : α} (h : Ev (fun k => g (k + 1)) r) : Ev g r := Ev.step (fun _ => rfl) h
theorem alive_f : codewrightlaw46_alive.f = some true := by
  unfold codewrightlaw46_alive.f
  rw [Pure.Mul_f]; rfl
theorem short_l1 {r : List (List Int)} (hr : r.length < 9223372036854775807) (hl : ∀ l ∈ r, l.length < 4611686018427387904) (n : Nat) : ∀ (j x : Nat), j + n = r.length → x < 5000000000000000000 →
    ∃ b, Ev (fun k => codewrightlaw46_short.l1 k [r] (x : Int) 0 (j : Int)) b ∧ (b = true → x + lensum (r.drop j) ≤ 120) := by
  have fin : ∀ x : Nat, Ev (fun k => codewrightlaw46_short.l0 k [r] (x : Int) 1) (decide ((x : Int) ≤ 120)) := by
    intro x
    refine Ev.step (f := fun _ => some (decide ((x : Int) ≤ 120))) (fun k => ?_) (Ev.now _)
    simp only [codewrightlaw46_short.l0]
    rw [if_neg (by simp)]
  have er : rd_L5 [r] 0 = r := rfl
  have w01 : wrap64 (0 + 1) = 1 := by unfold wrap64; omega
  induction n with
  | zero =>
    intro j x hj hx
    obtain rfl : j = r.length := by omega
    refine ⟨_, Ev.step (fun k => ?_) (fin x), fun h => ?_⟩
    · simp only [codewrightlaw46_short.l1]
      rw [if_pos (by omega), if_pos (by simp), er, if_neg (by omega), w01]
    · have := of_decide_eq_true h
      simp [lensum]; omega
  | succ n ih =>
    intro j x hj hx
    by_cases h : x ≤ 120
    · have hmem : rd_L4 r (j : Int) ∈ r := rdL4_mem r j (by omega)
      have hlen := hl _ hmem
      obtain ⟨b, hb, hb'⟩ := ih (j + 1) (x + (rd_L4 r (j : Int)).length) (by omega) (by omega)
      refine ⟨b, Ev.step (fun k => ?_) hb, fun h => ?_⟩
      · simp only [codewrightlaw46_short.l1]
        rw [if_pos (by omega), if_pos (by simp), er, if_pos (by omega), if_pos (by omega), if_pos (by omega), up j (by omega), addij x _ (by omega)]
      · have := hb' h
        rw [rdL4_at r j (by omega)]
        simp only [lensum, List.map_cons, List.sum_cons] at this ⊢
        omega
    · refine ⟨_, Ev.step (fun k => ?_) (fin x), fun h' => ?_⟩
      · simp only [codewrightlaw46_short.l1]
        rw [if_pos (by omega), if_pos (by simp), er, if_pos (by omega), if_neg (by omega), w01]
      · have := of_decide_eq_true h'
        omega
theorem short_one {r : List (List Int)} (hr : r.length < 4611686018427387904) (hl : ∀ l ∈ r, l.length < 4611686018427387904) :
    ∃ b, Ev (fun k => codewrightlaw46_short.f k [r]) b ∧ (b = true → r.length + lensum r ≤ 120) := by
  obtain ⟨b, hb, hb'⟩ := short_l1 (r := r) (by omega) hl r.length 0 r.length (by omega) (by omega)
  refine ⟨b, ?_, by simpa using hb'⟩
  unfold codewrightlaw46_short.f
  refine Ev.step (fun k => ?_) hb
  simp only [codewrightlaw46_short.l0]
  rw [if_pos (by simp), if_pos (by omega)]
  have er : rd_L5 [r] 0 = r := rfl
  have e : wrap64 (0 + (r.length : Int)) = (r.length : Int) := by rw [w64 (by omega) (by omega)]; omega
  rw [er, e]; rfl
theorem lensum_mem {r : List (List Int)} {l : List Int} (h : l ∈ r) : l.length ≤ lensum r := by
  induction r with
  | nil => cases h
  | cons x r ih =>
    simp only [lensum, List.map_cons, List.sum_cons]
    rcases List.mem_cons.1 h with rfl | h
    · omega
    · have := ih h
      simp only [lensum] at this
      omega
theorem mul_pw {x y m n : Nat} (h1 : x < pw m) (h2 : y < pw n) : x * y < pw (m + n) := by rw [pw_add]; exact Nat.mul_lt_mul'' h1 h2
end Go.Proofs.Ytecfdemglbfnoaa.Num
end
section
namespace Go.Proofs.Ytecfdemglbfnoaa.PT
open Go.RowKit Go.Proofs.YtecfdemglbfnoaaW.PrintWords Go.Proofs.YtecfdemglbfnoaaW.PrintLast Go.Proofs.YtecfdemglbfnoaaW.PrintMore
attribute [local go_sem] max2_int min2_int max_two min_two max_three min_three max_four min_four   -- for this text's walks alone
set_option linter.unusedVariables false
set_option linter.unusedSimpArgs false
end Go.Proofs.Ytecfdemglbfnoaa.PT
end
section
namespace Go.Proofs.Ytecfdemglbfnoaa.PT
open Go.RowKit Go.Proofs.YtecfdemglbfnoaaW.PrintWords Go.Proofs.YtecfdemglbfnoaaW.PrintLast Go.Proofs.YtecfdemglbfnoaaW.PrintMore
attribute [local go_sem] max2_int min2_int max_two min_two max_three min_three max_four min_four
set_option linter.unusedVariables false
set_option linter.unusedSimpArgs false
set_option maxHeartbeats 8000000
set_option maxRecDepth 100000
end Go.Proofs.Ytecfdemglbfnoaa.PT
end
section
namespace Go.Proofs.Ytecfdemglbfnoaa.Num
open Go.RowKit Go.Proofs.Ytecfdemglbfnoaa.PT Go.Proofs.YtecfdemglbfnoaaW.PrintWords Go.Proofs.YtecfdemglbfnoaaW.PrintLast Go.Proofs.YtecfdemglbfnoaaW.PrintMore
theorem Ev_pos {α : Type} {c : Prop} [Decidable c] {f g : Nat → Option α} {r : α} (h : c) (k : Ev f r) : Ev (fun n => if c then f n else g n) r := Ev.congr (fun _ => if_pos h) k
theorem Ev_neg {α : Type} {c : Prop} [Decidable c] {f g : Nat → Option α} {r : α} (h : ¬ c) (k : Ev g r) : Ev (fun n => if c then f n else g n) r := Ev.congr (fun _ => if_neg h) k
theorem Ev_as {α : Type} {g : Nat → Option α} {a b : α} (h : Ev g a) (e : a = b) : Ev g b := e ▸ h
theorem lb_len_zero {n : Nat} : (lb n).length = 0 ↔ n = 0 := by rw [List.length_eq_zero_iff, lb_eq_nil]
theorem rZero_f {l : List Int} (ul : U l) (hl : l.length < 35184372088832) : Ev (fun k => codewrightref01_Zero.f k l) (decide (valn l = 0)) := by
  refine Ev.bind (rTrim_f ul hl) (Ev_as (Ev.now _) ?_)
  by_cases h : valn l = 0
  · rw [h, lb_zero]; rfl
  · rw [decide_eq_false h]
    have := mt lb_len_zero.mp h
    exact beq_eq_false_iff_ne.mpr (by omega)
end Go.Proofs.Ytecfdemglbfnoaa.Num
end
