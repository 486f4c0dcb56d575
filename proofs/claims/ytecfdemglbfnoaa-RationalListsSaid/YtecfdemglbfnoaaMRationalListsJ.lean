/- Walks and plain facts for the law RationalLists, several texts in one: each theorem says what it shows; no condition beyond those that it names. -/
import Derived.Test.YtecfdemglbfnoaaMRationalListsI
section
namespace Go.Proofs.Ytecfdemglbfnoaa.PT
open Go.RowKit Go.Proofs.YtecfdemglbfnoaaW.PrintWords Go.Proofs.YtecfdemglbfnoaaW.PrintLast Go.Proofs.YtecfdemglbfnoaaW.PrintMore
attribute [local go_sem] max2_int min2_int max_two min_two max_three min_three max_four min_four
set_option linter.unusedVariables false
set_option linter.unusedSimpArgs false
set_option maxHeartbeats 8000000
set_option maxRecDepth 100000
def rational_plus.f (k : Nat) (a0_0 : Bool) (l0_1 : List Int) (l0_2 : List Int) (a1_0 : Bool) (l1_1 : List Int) (l1_2 : List Int) : Option (Bool × List Int × List Int) := (nat_Mul.f k (([l0_1, l1_2] : List (List Int)))).bind fun t1633 => ((nat_Mul.f k (([l1_1, l0_2] : List (List Int)))).bind fun t1639 => ((nat_Mul.f k (([l0_2, l1_2] : List (List Int)))).bind fun t1645 => (if (a0_0 == a1_0) = true then ((nat_Add.f k (([t1633, t1639] : List (List Int)))).bind fun t1651 => ((rational_canonical.f k a0_0 t1651 t1645).bind fun bt1654 => (some (bt1654.1, bt1654.2.1, bt1654.2.2)))) else ((nat_Cmp.f k t1633 t1639).bind fun t1661 => (if t1661 < 0 then ((nat_Sub.f k t1639 t1633).bind fun bt1662 => ((rational_canonical.f k a1_0 bt1662.1 t1645).bind fun bt1666 => (some (bt1666.1, bt1666.2.1, bt1666.2.2)))) else ((nat_Sub.f k t1633 t1639).bind fun bt1673 => ((rational_canonical.f k a0_0 bt1673.1 t1645).bind fun bt1677 => (some (bt1677.1, bt1677.2.1, bt1677.2.2)))))))))
def rational_plus.T1 : Bool × List (List Nat × List Nat) := (true, [([], []), ([0], [0]), ([], []), ([2], [2]), ([1, 3], [1, 3]), ([4], [4]), ([], []), ([6], [6]), ([], []), ([8], [8]), ([7, 9], [7, 9]), ([10, 5], [10]), ([5, 11, 0, 1, 2, 3, 4, 5], [5]), ([11, 12, 0, 1, 2, 3, 4, 5, 6, 7, 8, 9, 10, 11, 12], [11])])
def rational_plus.B1 : List Nat := [0, 1, 0, 4, 15, 31, 0, 64, 0, 256, 960, 2047, 4095, 8191]
theorem rational_plus.tab1 : rtab .any (opsOf Try.f165 1) = rational_plus.T1 := by kernel_rfl
theorem rational_plus.bits1 : waitsOk rational_plus.T1.2 rational_plus.B1 = true := by kernel_rfl
def rational_plus.T4 : Bool × List (List Nat × List Nat) := (true, [([], []), ([0], [0]), ([], []), ([], []), ([2, 3], [2, 3]), ([4], [4]), ([], []), ([1, 5, 6, 5], [1, 5, 6]), ([7, 7, 0, 1, 2, 3, 4, 5, 6, 7], [7])])
def rational_plus.B4 : List Nat := [0, 1, 0, 0, 12, 28, 0, 127, 255]
theorem rational_plus.tab4 : rtab .any (opsOf Try.f165 4) = rational_plus.T4 := by kernel_rfl
theorem rational_plus.bits4 : waitsOk rational_plus.T4.2 rational_plus.B4 = true := by kernel_rfl
theorem rational_plus.calls (k : Nat) (a0_0 : Bool) (P0_1_ : Nat → Prop) (A0_1 : Option Addr) (c0_1 : Nat) (l0_1 : List Int) (P0_2_ : Nat → Prop) (A0_2 : Option Addr) (c0_2 : Nat) (l0_2 : List Int) (a1_0 : Bool) (P1_1_ : Nat → Prop) (A1_1 : Option Addr) (c1_1 : Nat) (l1_1 : List Int) (P1_2_ : Nat → Prop) (A1_2 : Option Addr) (c1_2 : Nat) (l1_2 : List Int) (r1 : Bool) (r2 : List Int) (r3 : List Int) (w : World) (hs0_1 : Kd.V (Kd.int .u32) 48 w w.heap.size (fun k_ => P0_1_ k_) (.slice A0_1 l0_1.length c0_1) l0_1) (hs0_2 : Kd.V (Kd.int .u32) 48 w w.heap.size (fun k_ => P0_2_ k_) (.slice A0_2 l0_2.length c0_2) l0_2) (hs1_1 : Kd.V (Kd.int .u32) 48 w w.heap.size (fun k_ => P1_1_ k_) (.slice A1_1 l1_1.length c1_1) l1_1) (hs1_2 : Kd.V (Kd.int .u32) 48 w w.heap.size (fun k_ => P1_2_ k_) (.slice A1_2 l1_2.length c1_2) l1_2) (h : rational_plus.f k a0_0 l0_1 l0_2 a1_0 l1_1 l1_2 = some (r1, r2, r3)) :
 Calls Try.prog 165 #[.agg #[.bool a0_0, .slice A0_1 l0_1.length c0_1, .slice A0_2 l0_2.length c0_2], .agg #[.bool a1_0, .slice A1_1 l1_1.length c1_1, .slice A1_2 l1_2.length c1_2]] w fun e w' => ∃ v1_ v2_ : Value, e = .returned (.agg #[.bool r1, v1_, v2_]) ∧ Kd.V (Kd.int .u32) 48 w' w.heap.size (fun k_ => ((P0_1_ k_ ∨ P0_2_ k_ ∨ P1_1_ k_ ∨ P1_2_ k_) ∨ w.heap.size ≤ k_)) v1_ r2 ∧ Kd.V (Kd.int .u32) 48 w' w.heap.size (fun k_ => ((P0_1_ k_ ∨ P0_2_ k_ ∨ P1_1_ k_ ∨ P1_2_ k_) ∨ w.heap.size ≤ k_)) v2_ r3 ∧ Below w.heap.size w w' := by
 have e3 := Try.underlying67
 have ak := am (show Kd.V (Kd.int .u32) 48 w w.heap.size (fun k_ => ((P0_1_ k_ ∨ P0_2_ k_ ∨ P1_1_ k_ ∨ P1_2_ k_) ∨ w.heap.size ≤ k_)) (.slice A0_1 l0_1.length c0_1) l0_1 from Kd.V_mono hs0_1 (fun k_ hk => .inl (.inl hk)))
 have ag := am (show Kd.V (Kd.int .u32) 48 w w.heap.size (fun k_ => ((P0_1_ k_ ∨ P0_2_ k_ ∨ P1_1_ k_ ∨ P1_2_ k_) ∨ w.heap.size ≤ k_)) (.slice A0_2 l0_2.length c0_2) l0_2 from Kd.V_mono hs0_2 (fun k_ hk => .inl (.inr (.inl hk))))
 have al := am (show Kd.V (Kd.int .u32) 48 w w.heap.size (fun k_ => ((P0_1_ k_ ∨ P0_2_ k_ ∨ P1_1_ k_ ∨ P1_2_ k_) ∨ w.heap.size ≤ k_)) (.slice A1_1 l1_1.length c1_1) l1_1 from Kd.V_mono hs1_1 (fun k_ hk => .inl (.inr (.inr (.inl hk)))))
 have ah := am (show Kd.V (Kd.int .u32) 48 w w.heap.size (fun k_ => ((P0_1_ k_ ∨ P0_2_ k_ ∨ P1_1_ k_ ∨ P1_2_ k_) ∨ w.heap.size ≤ k_)) (.slice A1_2 l1_2.length c1_2) l1_2 from Kd.V_mono hs1_2 (fun k_ hk => .inl (.inr (.inr (.inr hk)))))
 have HB := am (Below.refl w.heap.size w)
 have H : ((nat_Mul.f k (([l0_1, l1_2] : List (List Int)))).bind fun aR => ((nat_Mul.f k (([l1_1, l0_2] : List (List Int)))).bind fun aS => ((nat_Mul.f k (([l0_2, l1_2] : List (List Int)))).bind fun aU => (if (a0_0 == a1_0) = true then ((nat_Add.f k (([aR, aS] : List (List Int)))).bind fun a9 => ((rational_canonical.f k a0_0 a9 aU).bind fun a1 => (some (a1.1, a1.2.1, a1.2.2)))) else ((nat_Cmp.f k aR aS).bind fun ba => (if ba < 0 then ((nat_Sub.f k aS aR).bind fun cd => ((rational_canonical.f k a1_0 cd.1 aU).bind fun bm => (some (bm.1, bm.2.1, bm.2.2)))) else ((nat_Sub.f k aR aS).bind fun ce => ((rational_canonical.f k a0_0 ce.1 aU).bind fun bn => (some (bn.1, bn.2.1, bn.2.2)))))))))) = some (r1, r2, r3) := h
 clear h
 obtain ⟨bi, bo⟩ : ∃ y_ : List (List Int), y_ = (([l0_1, l1_2] : List (List Int))) := ⟨_, rfl⟩
 rw [← bo] at H
 have bB := am bo
 clear bo
 obtain ⟨aR, A3, H⟩ := bs H
 (try dsimp -simprocs only at H)
 obtain ⟨bb, bp⟩ : ∃ y_ : List (List Int), y_ = (([l1_1, l0_2] : List (List Int))) := ⟨_, rfl⟩
 rw [← bp] at H
 have bC := am bp
 clear bp
 obtain ⟨aS, A4, H⟩ := bs H
 (try dsimp -simprocs only at H)
 obtain ⟨aK, bq⟩ : ∃ y_ : List (List Int), y_ = (([l0_2, l1_2] : List (List Int))) := ⟨_, rfl⟩
 rw [← bq] at H
 have a5 := am bq
 clear bq
 obtain ⟨aU, A5, H⟩ := bs H
 (try dsimp -simprocs only at H)
 go_enter Try.func165, Try.ntmps165
 try go_wp2_with (first | ((with_reducible refine gate_dst (N := 2) rfl ?_); refine box_event ?hg (N := 2) ?hd (cs := #[.bool a0_0, .slice A0_1 l0_1.length c0_1, .slice A0_2 l0_2.length c0_2]) (t := 67) ?hr ?_; (case hd => rfl); (case hg => rfl); (case hr => first | (go_simp; done) | (go_simp; rfl)); intro ac hg w9 hbox hb; replace ak := ke ak hg hb; replace ag := ke ag hg hb; replace al := ke al hg hb; replace ah := ke ah hg hb; have aa := am (hbox); have ed := ng hg (bu HB.out); have ai := ng hg (bu HB.out); replace HB := be HB hb; clear hb hbox hg) | ((with_reducible refine gate_dst (N := 3) rfl ?_); refine box_event ?hg (N := 3) ?hd (cs := #[.bool a1_0, .slice A1_1 l1_1.length c1_1, .slice A1_2 l1_2.length c1_2]) (t := 67) ?hr ?_; (case hd => rfl); (case hg => rfl); (case hr => first | (go_simp; done) | (go_simp; rfl)); intro af hg fl hbox hb; replace ak := ke ak hg hb; replace ag := ke ag hg hb; replace al := ke al hg hb; replace ah := ke ah hg hb; have ab := am (hbox); have ee := ng hg (bu1 HB.out ai.out); have an := ng hg (bu1 HB.out ai.out); replace HB := be1 HB ai hb; have aV := nl hg aa; have aG := nr hg aa; replace aa := kb aa hb; clear hb hbox hg) | ((with_reducible refine gate_dst (N := 4) rfl ?_); refine box_event ?hg (N := 4) ?hd (cs := #[.bool false, .slice none 0 0, .slice none 0 0]) (t := 67) ?hr ?_; (case hd => rfl); (case hg => rfl); (case hr => first | (go_simp; done) | (go_simp; rfl)); intro ae hg e4 hbox hb; replace ak := ke ak hg hb; replace ag := ke ag hg hb; replace al := ke al hg hb; replace ah := ke ah hg hb; have ad := am (hbox); have ef := ng hg (bu2 HB.out ai.out an.out); have au := ng hg (bu2 HB.out ai.out an.out); replace HB := be2 HB ai an hb; have az := nl hg aa; have aP := nr hg aa; replace aa := kb aa hb; have aW := nl hg ab; have aX := nr hg ab; replace ab := kb ab hb; clear hb hbox hg))
 replace ak := am (Kd.V_drew ak.out)
 replace ag := am (Kd.V_drew ag.out)
 replace al := am (Kd.V_drew al.out)
 replace ah := am (Kd.V_drew ah.out)
 replace aa := am (blk_drew aa.out)
 replace ab := am (blk_drew ab.out)
 replace ad := am (blk_drew ad.out)
 replace HB := am (below_drew1 HB.out)
 refine start_ (n := 14) (S := fun w' => True) (ds := []) #[false, false, false, false, false, false, false, false, false, false, false, false, false, false] (by kernel_rfl) rfl rfl trivial (fun hHeld => ?_); refine with_tabW rational_plus.tab1 rational_plus.bits1 (fun HT_ HW_ => ?_)
 generalize e4.drew = fm at ak ag al ah aa ab ad HB hHeld ⊢
 refine pq 0 (some 10) #[true, false, false, false, false, false, false, false, false, false, false, false, false, false] HT_ ?_
 refine pq 2 (some 12) #[true, false, true, false, false, false, false, false, false, false, false, false, false, false] HT_ ?_
 refine pq 6 (some 16) #[true, false, true, false, false, false, true, false, false, false, false, false, false, false] HT_ ?_
 refine pq 8 (some 18) #[true, false, true, false, false, false, true, false, true, false, false, false, false, false] HT_ ?_
 refine inv_at [1, 3, 4, 5, 7, 9, 10, 11, 12, 13] (fun a0_ b a w' => ∃ (aN : Value) (aL : Value) (aO : Value) (aM : Value) (m12_ : Value) (m13_ : Value), a = putSel a0_ b [(1, 11, .slice A0_1 l0_1.length c0_1), (3, 13, .slice A1_2 l1_2.length c1_2), (4, 14, aN), (5, 15, aL), (7, 17, .slice A1_1 l1_1.length c1_1), (9, 19, .slice A0_2 l0_2.length c0_2), (10, 20, aO), (11, 21, aM), (12, 5, m12_), (13, 6, m13_)] ∧ (Kd.V (Kd.int .u32) 48 w' w.heap.size (fun k_ => ((P0_1_ k_ ∨ P0_2_ k_ ∨ P1_1_ k_ ∨ P1_2_ k_) ∨ w.heap.size ≤ k_) ∧ k_ ≠ ac ∧ k_ ≠ af ∧ k_ ≠ ae) (.slice A0_1 l0_1.length c0_1) l0_1) ∧ (Kd.V (Kd.int .u32) 48 w' w.heap.size (fun k_ => ((P0_1_ k_ ∨ P0_2_ k_ ∨ P1_1_ k_ ∨ P1_2_ k_) ∨ w.heap.size ≤ k_) ∧ k_ ≠ ac ∧ k_ ≠ af ∧ k_ ≠ ae) (.slice A0_2 l0_2.length c0_2) l0_2) ∧ (Kd.V (Kd.int .u32) 48 w' w.heap.size (fun k_ => ((P0_1_ k_ ∨ P0_2_ k_ ∨ P1_1_ k_ ∨ P1_2_ k_) ∨ w.heap.size ≤ k_) ∧ k_ ≠ ac ∧ k_ ≠ af ∧ k_ ≠ ae) (.slice A1_1 l1_1.length c1_1) l1_1) ∧ (Kd.V (Kd.int .u32) 48 w' w.heap.size (fun k_ => ((P0_1_ k_ ∨ P0_2_ k_ ∨ P1_1_ k_ ∨ P1_2_ k_) ∨ w.heap.size ≤ k_) ∧ k_ ≠ ac ∧ k_ ≠ af ∧ k_ ≠ ae) (.slice A1_2 l1_2.length c1_2) l1_2) ∧ (w'.heap[ac]? = some (.cells #[.bool a0_0, .slice A0_1 l0_1.length c0_1, .slice A0_2 l0_2.length c0_2] 67 (0, 0))) ∧ (w'.heap[af]? = some (.cells #[.bool a1_0, .slice A1_1 l1_1.length c1_1, .slice A1_2 l1_2.length c1_2] 67 (0, 0))) ∧ (w'.heap[ae]? = some (.cells #[.bool false, .slice none 0 0, .slice none 0 0] 67 (0, 0))) ∧ (Below w.heap.size w w') ∧ (b 4 = true → Kd.N (Kd.slice 48 (Kd.int .u32)) 42 w' w.heap.size (fun k_ => ((P0_1_ k_ ∨ P0_2_ k_ ∨ P1_1_ k_ ∨ P1_2_ k_) ∨ w.heap.size ≤ k_) ∧ k_ ≠ ac ∧ k_ ≠ af ∧ k_ ≠ ae) aN bi) ∧ (b 5 = true → Kd.V (Kd.int .u32) 48 w' w.heap.size (fun k_ => ((P0_1_ k_ ∨ P0_2_ k_ ∨ P1_1_ k_ ∨ P1_2_ k_) ∨ w.heap.size ≤ k_) ∧ k_ ≠ ac ∧ k_ ≠ af ∧ k_ ≠ ae) aL aR) ∧ (b 10 = true → Kd.N (Kd.slice 48 (Kd.int .u32)) 42 w' w.heap.size (fun k_ => ((P0_1_ k_ ∨ P0_2_ k_ ∨ P1_1_ k_ ∨ P1_2_ k_) ∨ w.heap.size ≤ k_) ∧ k_ ≠ ac ∧ k_ ≠ af ∧ k_ ≠ ae) aO bb) ∧ (b 11 = true → Kd.V (Kd.int .u32) 48 w' w.heap.size (fun k_ => ((P0_1_ k_ ∨ P0_2_ k_ ∨ P1_1_ k_ ∨ P1_2_ k_) ∨ w.heap.size ≤ k_) ∧ k_ ≠ ac ∧ k_ ≠ af ∧ k_ ≠ ae) aM aS) ∧ (b 12 = true → (m12_ : Value) = aL) ∧ (b 13 = true → (m13_ : Value) = aM)) HT_.out HW_.out (by kernel_rfl) (by kernel_rfl) ?_ ?_ ?_
 ·
  exact ⟨.bool false, .bool false, .bool false, .bool false, .bool false, .bool false, by simp only [putSel, Bool.false_eq_true, if_false], (vz ak.out), (vz ag.out), (vz al.out), (vz ah.out), aa.out, ab.out, ad.out, HB.out, fun h_ => absurd h_ (by decide), fun h_ => absurd h_ (by decide), fun h_ => absurd h_ (by decide), fun h_ => absurd h_ (by decide), fun h_ => absurd h_ (by decide), fun h_ => absurd h_ (by decide)⟩
 ·
  skip
  clear aa ab ad HB ak ag al ah
  refine steps_cons ?_ ?_
  ·
   rintro b a w' ⟨aN, aL, aO, aM, m12_, m13_, ha, aA, aB, aC, aD, aw, ax, ay, Q_HB, aF, aH, aE, aJ, Q_X12_, Q_X13_⟩ hb_ hon hoff
   refine ⟨_, rfl, fun K hK => ?_⟩
   have e10 : a.tmps[10]? = some (.pointer (some ⟨ac, 1, none⟩)) := by rw [ha]; exact (putSel_off rfl).trans rfl
   replace ha := am ha
   have ak := am aA
   have ag := am aB
   have al := am aC
   have ah := am aD
   have aa := am aw
   have ab := am ax
   have ad := am ay
   have HB := am Q_HB
   obtain ⟨cf, cg, ch⟩ := bx aa
   refine value_ (w1 := w') (v := .slice A0_1 l0_1.length c0_1) (by rfl) rfl ?_ ?_
   ·
    go_simp
    (try simp only [i64_w])
    try rfl
   refine hK.out _ _ ⟨aN, aL, aO, aM, m12_, m13_, (by rw [ha.out]; exact putSel_upk 0 hb_ rfl rfl rfl), aA, aB, aC, aD, aw, ax, ay, Q_HB, fun aQ => absurd ((hoff 4 (by kernel_rfl)).symm.trans aQ) (by decide), fun aQ => absurd ((hoff 5 (by kernel_rfl)).symm.trans aQ) (by decide), aE, fun aQ => absurd ((hoff 11 (by kernel_rfl)).symm.trans aQ) (by decide), fun aQ => absurd ((hoff 12 (by kernel_rfl)).symm.trans aQ) (by decide), fun aQ => absurd ((hoff 13 (by kernel_rfl)).symm.trans aQ) (by decide)⟩
  refine steps_cons ?_ ?_
  ·
   rintro b a w' ⟨aN, aL, aO, aM, m12_, m13_, ha, aA, aB, aC, aD, aw, ax, ay, Q_HB, aF, aH, aE, aJ, Q_X12_, Q_X13_⟩ hb_ hon hoff
   refine ⟨_, rfl, fun K hK => ?_⟩
   have e12 : a.tmps[12]? = some (.pointer (some ⟨af, 2, none⟩)) := by rw [ha]; exact (putSel_off rfl).trans rfl
   replace ha := am ha
   have ak := am aA
   have ag := am aB
   have al := am aC
   have ah := am aD
   have aa := am aw
   have ab := am ax
   have ad := am ay
   have HB := am Q_HB
   obtain ⟨cf, cg, ch⟩ := bx ab
   refine value_ (w1 := w') (v := .slice A1_2 l1_2.length c1_2) (by rfl) rfl ?_ ?_
   ·
    go_simp
    (try simp only [i64_w])
    try rfl
   refine hK.out _ _ ⟨aN, aL, aO, aM, m12_, m13_, (by rw [ha.out]; exact putSel_upk 1 hb_ rfl rfl rfl), aA, aB, aC, aD, aw, ax, ay, Q_HB, fun aQ => absurd ((hoff 4 (by kernel_rfl)).symm.trans aQ) (by decide), fun aQ => absurd ((hoff 5 (by kernel_rfl)).symm.trans aQ) (by decide), aE, fun aQ => absurd ((hoff 11 (by kernel_rfl)).symm.trans aQ) (by decide), fun aQ => absurd ((hoff 12 (by kernel_rfl)).symm.trans aQ) (by decide), fun aQ => absurd ((hoff 13 (by kernel_rfl)).symm.trans aQ) (by decide)⟩
  refine steps_cons ?_ ?_
  ·
   rintro b a w' ⟨aN, aL, aO, aM, m12_, m13_, ha, aA, aB, aC, aD, aw, ax, ay, Q_HB, aF, aH, aE, aJ, Q_X12_, Q_X13_⟩ hb_ hon hoff
   refine ⟨_, rfl, fun K hK => ?_⟩
   have e11 : a.tmps[11]? = some (.slice A0_1 l0_1.length c0_1) := by rw [ha]; exact putSel_on (e := (1, 11, .slice A0_1 l0_1.length c0_1)) 0 rfl rfl (hon 1 (by kernel_rfl)) rfl
   have e13 : a.tmps[13]? = some (.slice A1_2 l1_2.length c1_2) := by rw [ha]; exact putSel_on (e := (3, 13, .slice A1_2 l1_2.length c1_2)) 1 rfl rfl (hon 3 (by kernel_rfl)) rfl
   replace ha := am ha
   have ak := am aA
   have ag := am aB
   have al := am aC
   have ah := am aD
   have aa := am aw
   have ab := am ax
   have ad := am ay
   have HB := am Q_HB
   refine Kd.N_lit_step (Kd.slice 48 (Kd.int .u32)) _ 42 ?hg (N' := 14) ?hd (xs := ([l0_1, l1_2] : List (List Int))) (inner := [.slice A0_1 l0_1.length c0_1, .slice A1_2 l1_2.length c1_2]) (ok := (fun k_ => ((P0_1_ k_ ∨ P0_2_ k_ ∨ P1_1_ k_ ∨ P1_2_ k_) ∨ w.heap.size ≤ k_) ∧ k_ ≠ ac ∧ k_ ≠ af ∧ k_ ≠ ae)) (okp := (fun k_ => ((P0_1_ k_ ∨ P0_2_ k_ ∨ P1_1_ k_ ∨ P1_2_ k_) ∨ w.heap.size ≤ k_) ∧ k_ ≠ ac ∧ k_ ≠ af ∧ k_ ≠ ae)) ?hr ?hp (fun _ hk => hk) ((show ∀ k_, w'.heap.size ≤ k_ → (fun k_ => ((P0_1_ k_ ∨ P0_2_ k_ ∨ P1_1_ k_ ∨ P1_2_ k_) ∨ w.heap.size ≤ k_) ∧ k_ ≠ ac ∧ k_ ≠ af ∧ k_ ≠ ae) k_ from fun k_ hk => ⟨(.inr (Nat.le_trans (below_size (bu3 HB.out ai.out an.out au.out)) hk)), Kd.freshB (g := ac) (o := .cells #[.bool a0_0, .slice A0_1 l0_1.length c0_1, .slice A0_2 l0_2.length c0_2] 67 (0, 0)) (ku aa.out) k_ hk, Kd.freshB (g := af) (o := .cells #[.bool a1_0, .slice A1_1 l1_1.length c1_1, .slice A1_2 l1_2.length c1_2] 67 (0, 0)) (ku ab.out) k_ hk, Kd.freshB (g := ae) (o := .cells #[.bool false, .slice none 0 0, .slice none 0 0] 67 (0, 0)) (ku ad.out) k_ hk⟩) _ (Nat.le_refl _)) (Below.refl _ _) (Nat.le_refl _) (by simp) ?_; (case hd => rfl); (case hg => rfl); (case hr => first | (go_simp; done) | (go_simp; rfl)); (case hp => exact (Reps.one (show Kd.FK (Kd.slice 48 (Kd.int .u32)) _ _ l0_1 [.slice A0_1 l0_1.length c0_1] from (Kd.FK_slice_mk (Kd.V_reads' (vy ((fun k_ => ((P0_1_ k_ ∨ P0_2_ k_ ∨ P1_1_ k_ ∨ P1_2_ k_) ∨ w.heap.size ≤ k_) ∧ k_ ≠ ac ∧ k_ ≠ af ∧ k_ ≠ ae)) ak.out)).2.1 (Kd.V_F (vy ((fun k_ => ((P0_1_ k_ ∨ P0_2_ k_ ∨ P1_1_ k_ ∨ P1_2_ k_) ∨ w.heap.size ≤ k_) ∧ k_ ≠ ac ∧ k_ ≠ af ∧ k_ ≠ ae)) ak.out)))) (Reps.one (show Kd.FK (Kd.slice 48 (Kd.int .u32)) _ _ l1_2 [.slice A1_2 l1_2.length c1_2] from (Kd.FK_slice_mk (Kd.V_reads' (vy ((fun k_ => ((P0_1_ k_ ∨ P0_2_ k_ ∨ P1_1_ k_ ∨ P1_2_ k_) ∨ w.heap.size ≤ k_) ∧ k_ ≠ ac ∧ k_ ≠ af ∧ k_ ≠ ae)) ah.out)).2.1 (Kd.V_F (vy ((fun k_ => ((P0_1_ k_ ∨ P0_2_ k_ ∨ P1_1_ k_ ∨ P1_2_ k_) ∨ w.heap.size ≤ k_) ∧ k_ ≠ ac ∧ k_ ≠ af ∧ k_ ≠ ae)) ah.out)))) (Reps.none _ _))))
   intro aN dn aT hb hg_ hnew_
   clear hg_ hnew_
   (first | rw [← bB.out] at aT | (simp only [Int.reduceToNat] at aT; rw [← bB.out] at aT))
   have bO := el ak aT hb
   have bP := el ag aT hb
   have bQ := el al aT hb
   have bR := el ah aT hb
   have bS := am (Kd.N_lower aT (below_size (bu3 HB.out ai.out an.out au.out)))
   have bT := kb aa hb
   have bU := kb ab hb
   have bV := kb ad hb
   have bW := be3 HB ai an au hb
   have bd := fun (aQ : b 10 = true) => (show Kd.N (Kd.slice 48 (Kd.int .u32)) 42 dn w.heap.size (fun k_ => ((P0_1_ k_ ∨ P0_2_ k_ ∨ P1_1_ k_ ∨ P1_2_ k_) ∨ w.heap.size ≤ k_) ∧ k_ ≠ ac ∧ k_ ≠ af ∧ k_ ≠ ae) aO bb from by first | exact (Kd.N_elder' (by (with_reducible repeat (first | apply Kd.N_alloc | apply Kd.N_drewN | apply Kd.N_drew)); exact (aE aQ)) (Kd.N_base aT) hb) | exact Kd.N_mono (Kd.N_elder' (by (with_reducible repeat (first | apply Kd.N_alloc | apply Kd.N_drewN | apply Kd.N_drew)); exact (aE aQ)) (Kd.N_base aT) hb) (fun _ h_ => by first | trivial | exact h_ | exact h_.1))
   clear ak ag al ah aa ab ad HB
   have ak := bO
   have ag := bP
   have al := bQ
   have ah := bR
   have ao := bS
   have aa := bT
   have ab := bU
   have ad := bV
   have HB := bW
   clear bO bP bQ bR bS bT bU bV bW hb aT
   refine hK.out _ _ ⟨aN, aL, aO, aM, m12_, m13_, (by rw [ha.out]; exact putSel_upk 2 hb_ rfl rfl rfl), (vz ak.out), (vz ag.out), (vz al.out), (vz ah.out), (ku aa.out), (ku ab.out), (ku ad.out), (bu3 HB.out ai.out an.out au.out), fun _ => (nu ao.out), fun aQ => absurd ((hoff 5 (by kernel_rfl)).symm.trans aQ) (by decide), bd, fun aQ => absurd ((hoff 11 (by kernel_rfl)).symm.trans aQ) (by decide), fun aQ => absurd ((hoff 12 (by kernel_rfl)).symm.trans aQ) (by decide), fun aQ => absurd ((hoff 13 (by kernel_rfl)).symm.trans aQ) (by decide)⟩
  refine steps_cons ?_ ?_
  ·
   rintro b a w' ⟨aN, aL, aO, aM, m12_, m13_, ha, aA, aB, aC, aD, aw, ax, ay, Q_HB, aF, aH, aE, aJ, Q_X12_, Q_X13_⟩ hb_ hon hoff
   refine ⟨_, rfl, fun K hK => ?_⟩
   have e14 : a.tmps[14]? = some (aN) := by rw [ha]; exact putSel_on (e := (4, 14, aN)) 2 rfl rfl (hon 4 (by kernel_rfl)) rfl
   replace ha := am ha
   have ak := am aA
   have ag := am aB
   have al := am aC
   have ah := am aD
   have aa := am aw
   have ab := am ax
   have ad := am ay
   have HB := am Q_HB
   have ao := am (aF (hon 4 (by kernel_rfl)))
   obtain ⟨ci, cj, cn⟩ := Kd.N_slice ao.out
   (first | subst cn | (injection cn with f1_ f2_ f3_; have f4_ := f1_.symm; have f5_ := f3_.symm; clear f1_ f2_ f3_; subst f4_; subst f5_))
   refine goes_ Try.func145 (by kernel_rfl) rfl #[.slice ci bi.length cj] (by rfl) rfl rfl (by first | (simp only [List.map_toArray, List.map_cons, List.map_nil, Act.eval, Array.getD_eq_getD_getElem?, Option.getD_some, e14]; done) | (simp only [List.map_toArray, List.map_cons, List.map_nil, Act.eval, Array.getD_eq_getD_getElem?, Option.getD_some, e14]; rfl)) ?_
   with_reducible refine (nat_Mul.calls k _ _ bi aR _ ?side1 ?side2 A3.out).mono ?_
   (case side1 => exact cu (Kd.N_reads' ao.out).2.2)
   (case side2 => exact (Kd.N_reads' ao.out).2.1)
   rintro e e5 ⟨aL, rfl, aY, hb⟩
   refine ⟨_, rfl, ?_⟩
   replace aY := R_V_base rfl aY
   have bO := kv ak hb
   have bP := kv ag hb
   have bQ := kv al hb
   have bR := kv ah hb
   have bS := kn ao hb
   have bT := ar0 w.heap.size (ok' := fun k_ => ((P0_1_ k_ ∨ P0_2_ k_ ∨ P1_1_ k_ ∨ P1_2_ k_) ∨ w.heap.size ≤ k_) ∧ some k_ ≠ (.slice ci bi.length cj : Value).ownBlock ∧ k_ ≠ ac ∧ k_ ≠ af ∧ k_ ≠ ae) aY (fa (fz3 HB ai an au) (fa (fo ao) (fa (fb aa) (fa (fb ab) (fb ad)))))
   have bU := kb aa hb
   have bV := kb ab hb
   have bW := kb ad hb
   have eL := be3 HB ai an au hb
   have bd := fun (aQ : b 10 = true) => (show Kd.N (Kd.slice 48 (Kd.int .u32)) 42 e5 w.heap.size (fun k_ => ((P0_1_ k_ ∨ P0_2_ k_ ∨ P1_1_ k_ ∨ P1_2_ k_) ∨ w.heap.size ≤ k_) ∧ k_ ≠ ac ∧ k_ ≠ af ∧ k_ ≠ ae) aO bb from by first | exact (Kd.N_below (by (with_reducible repeat (first | apply Kd.N_alloc | apply Kd.N_drewN | apply Kd.N_drew)); exact (aE aQ)) hb) | exact Kd.N_mono (Kd.N_below (by (with_reducible repeat (first | apply Kd.N_alloc | apply Kd.N_drewN | apply Kd.N_drew)); exact (aE aQ)) hb) (fun _ h_ => by first | trivial | exact h_ | exact h_.1))
   clear ak ag al ah ao aa ab ad HB
   have ak := bO
   have ag := bP
   have al := bQ
   have ah := bR
   have ao := bS
   have aj := bT
   have aa := bU
   have ab := bV
   have ad := bW
   have HB := eL
   clear bO bP bQ bR bS bT bU bV bW eL
   (try clear hb)
   (try clear hb2)
   (try clear hk)
   (try clear hi)
   (try clear aY)
   refine hK.out _ _ ⟨.slice ci bi.length cj, aL, aO, aM, m12_, m13_, (by rw [ha.out]; exact putSel_upk 3 hb_ rfl rfl rfl), (vz ak.out), (vz ag.out), (vz al.out), (vz ah.out), (ku aa.out), (ku ab.out), (ku ad.out), (bu3 HB.out ai.out an.out au.out), fun _ => (nu ao.out), fun _ => (vz aj.out), bd, fun aQ => absurd ((hoff 11 (by kernel_rfl)).symm.trans aQ) (by decide), fun aQ => absurd ((hoff 12 (by kernel_rfl)).symm.trans aQ) (by decide), fun aQ => absurd ((hoff 13 (by kernel_rfl)).symm.trans aQ) (by decide)⟩
  refine steps_cons ?_ ?_
  ·
   rintro b a w' ⟨aN, aL, aO, aM, m12_, m13_, ha, aA, aB, aC, aD, aw, ax, ay, Q_HB, aF, aH, aE, aJ, Q_X12_, Q_X13_⟩ hb_ hon hoff
   refine ⟨_, rfl, fun K hK => ?_⟩
   have e16 : a.tmps[16]? = some (.pointer (some ⟨af, 1, none⟩)) := by rw [ha]; exact (putSel_off rfl).trans rfl
   replace ha := am ha
   have ak := am aA
   have ag := am aB
   have al := am aC
   have ah := am aD
   have aa := am aw
   have ab := am ax
   have ad := am ay
   have HB := am Q_HB
   obtain ⟨cf, cg, ch⟩ := bx ab
   refine value_ (w1 := w') (v := .slice A1_1 l1_1.length c1_1) (by rfl) rfl ?_ ?_
   ·
    go_simp
    (try simp only [i64_w])
    try rfl
   refine hK.out _ _ ⟨aN, aL, aO, aM, m12_, m13_, (by rw [ha.out]; exact putSel_upk 4 hb_ rfl rfl rfl), aA, aB, aC, aD, aw, ax, ay, Q_HB, aF, aH, fun aQ => absurd ((hoff 10 (by kernel_rfl)).symm.trans aQ) (by decide), fun aQ => absurd ((hoff 11 (by kernel_rfl)).symm.trans aQ) (by decide), fun aQ => absurd ((hoff 12 (by kernel_rfl)).symm.trans aQ) (by decide), fun aQ => absurd ((hoff 13 (by kernel_rfl)).symm.trans aQ) (by decide)⟩
  refine steps_cons ?_ ?_
  ·
   rintro b a w' ⟨aN, aL, aO, aM, m12_, m13_, ha, aA, aB, aC, aD, aw, ax, ay, Q_HB, aF, aH, aE, aJ, Q_X12_, Q_X13_⟩ hb_ hon hoff
   refine ⟨_, rfl, fun K hK => ?_⟩
   have e18 : a.tmps[18]? = some (.pointer (some ⟨ac, 2, none⟩)) := by rw [ha]; exact (putSel_off rfl).trans rfl
   replace ha := am ha
   have ak := am aA
   have ag := am aB
   have al := am aC
   have ah := am aD
   have aa := am aw
   have ab := am ax
   have ad := am ay
   have HB := am Q_HB
   obtain ⟨cf, cg, ch⟩ := bx aa
   refine value_ (w1 := w') (v := .slice A0_2 l0_2.length c0_2) (by rfl) rfl ?_ ?_
   ·
    go_simp
    (try simp only [i64_w])
    try rfl
   refine hK.out _ _ ⟨aN, aL, aO, aM, m12_, m13_, (by rw [ha.out]; exact putSel_upk 5 hb_ rfl rfl rfl), aA, aB, aC, aD, aw, ax, ay, Q_HB, aF, aH, fun aQ => absurd ((hoff 10 (by kernel_rfl)).symm.trans aQ) (by decide), fun aQ => absurd ((hoff 11 (by kernel_rfl)).symm.trans aQ) (by decide), fun aQ => absurd ((hoff 12 (by kernel_rfl)).symm.trans aQ) (by decide), fun aQ => absurd ((hoff 13 (by kernel_rfl)).symm.trans aQ) (by decide)⟩
  refine steps_cons ?_ ?_
  ·
   rintro b a w' ⟨aN, aL, aO, aM, m12_, m13_, ha, aA, aB, aC, aD, aw, ax, ay, Q_HB, aF, aH, aE, aJ, Q_X12_, Q_X13_⟩ hb_ hon hoff
   refine ⟨_, rfl, fun K hK => ?_⟩
   have e17 : a.tmps[17]? = some (.slice A1_1 l1_1.length c1_1) := by rw [ha]; exact putSel_on (e := (7, 17, .slice A1_1 l1_1.length c1_1)) 4 rfl rfl (hon 7 (by kernel_rfl)) rfl
   have e19 : a.tmps[19]? = some (.slice A0_2 l0_2.length c0_2) := by rw [ha]; exact putSel_on (e := (9, 19, .slice A0_2 l0_2.length c0_2)) 5 rfl rfl (hon 9 (by kernel_rfl)) rfl
   replace ha := am ha
   have ak := am aA
   have ag := am aB
   have al := am aC
   have ah := am aD
   have aa := am aw
   have ab := am ax
   have ad := am ay
   have HB := am Q_HB
   refine Kd.N_lit_step (Kd.slice 48 (Kd.int .u32)) _ 42 ?hg (N' := 20) ?hd (xs := ([l1_1, l0_2] : List (List Int))) (inner := [.slice A1_1 l1_1.length c1_1, .slice A0_2 l0_2.length c0_2]) (ok := (fun k_ => ((P0_1_ k_ ∨ P0_2_ k_ ∨ P1_1_ k_ ∨ P1_2_ k_) ∨ w.heap.size ≤ k_) ∧ k_ ≠ ac ∧ k_ ≠ af ∧ k_ ≠ ae)) (okp := (fun k_ => ((P0_1_ k_ ∨ P0_2_ k_ ∨ P1_1_ k_ ∨ P1_2_ k_) ∨ w.heap.size ≤ k_) ∧ k_ ≠ ac ∧ k_ ≠ af ∧ k_ ≠ ae)) ?hr ?hp (fun _ hk => hk) ((show ∀ k_, w'.heap.size ≤ k_ → (fun k_ => ((P0_1_ k_ ∨ P0_2_ k_ ∨ P1_1_ k_ ∨ P1_2_ k_) ∨ w.heap.size ≤ k_) ∧ k_ ≠ ac ∧ k_ ≠ af ∧ k_ ≠ ae) k_ from fun k_ hk => ⟨(.inr (Nat.le_trans (below_size (bu3 HB.out ai.out an.out au.out)) hk)), Kd.freshB (g := ac) (o := .cells #[.bool a0_0, .slice A0_1 l0_1.length c0_1, .slice A0_2 l0_2.length c0_2] 67 (0, 0)) (ku aa.out) k_ hk, Kd.freshB (g := af) (o := .cells #[.bool a1_0, .slice A1_1 l1_1.length c1_1, .slice A1_2 l1_2.length c1_2] 67 (0, 0)) (ku ab.out) k_ hk, Kd.freshB (g := ae) (o := .cells #[.bool false, .slice none 0 0, .slice none 0 0] 67 (0, 0)) (ku ad.out) k_ hk⟩) _ (Nat.le_refl _)) (Below.refl _ _) (Nat.le_refl _) (by simp) ?_; (case hd => rfl); (case hg => rfl); (case hr => first | (go_simp; done) | (go_simp; rfl)); (case hp => exact (Reps.one (show Kd.FK (Kd.slice 48 (Kd.int .u32)) _ _ l1_1 [.slice A1_1 l1_1.length c1_1] from (Kd.FK_slice_mk (Kd.V_reads' (vy ((fun k_ => ((P0_1_ k_ ∨ P0_2_ k_ ∨ P1_1_ k_ ∨ P1_2_ k_) ∨ w.heap.size ≤ k_) ∧ k_ ≠ ac ∧ k_ ≠ af ∧ k_ ≠ ae)) al.out)).2.1 (Kd.V_F (vy ((fun k_ => ((P0_1_ k_ ∨ P0_2_ k_ ∨ P1_1_ k_ ∨ P1_2_ k_) ∨ w.heap.size ≤ k_) ∧ k_ ≠ ac ∧ k_ ≠ af ∧ k_ ≠ ae)) al.out)))) (Reps.one (show Kd.FK (Kd.slice 48 (Kd.int .u32)) _ _ l0_2 [.slice A0_2 l0_2.length c0_2] from (Kd.FK_slice_mk (Kd.V_reads' (vy ((fun k_ => ((P0_1_ k_ ∨ P0_2_ k_ ∨ P1_1_ k_ ∨ P1_2_ k_) ∨ w.heap.size ≤ k_) ∧ k_ ≠ ac ∧ k_ ≠ af ∧ k_ ≠ ae)) ag.out)).2.1 (Kd.V_F (vy ((fun k_ => ((P0_1_ k_ ∨ P0_2_ k_ ∨ P1_1_ k_ ∨ P1_2_ k_) ∨ w.heap.size ≤ k_) ∧ k_ ≠ ac ∧ k_ ≠ af ∧ k_ ≠ ae)) ag.out)))) (Reps.none _ _))))
   intro aO dn aT hb hg_ hnew_
   clear hg_ hnew_
   (first | rw [← bC.out] at aT | (simp only [Int.reduceToNat] at aT; rw [← bC.out] at aT))
   have bO := el ak aT hb
   have bP := el ag aT hb
   have bQ := el al aT hb
   have bR := el ah aT hb
   have bS := am (Kd.N_lower aT (below_size (bu3 HB.out ai.out an.out au.out)))
   have bT := kb aa hb
   have bU := kb ab hb
   have bV := kb ad hb
   have bW := be3 HB ai an au hb
   have bD := fun (aQ : b 4 = true) => (show Kd.N (Kd.slice 48 (Kd.int .u32)) 42 dn w.heap.size (fun k_ => ((P0_1_ k_ ∨ P0_2_ k_ ∨ P1_1_ k_ ∨ P1_2_ k_) ∨ w.heap.size ≤ k_) ∧ k_ ≠ ac ∧ k_ ≠ af ∧ k_ ≠ ae) aN bi from by first | exact (Kd.N_elder' (by (with_reducible repeat (first | apply Kd.N_alloc | apply Kd.N_drewN | apply Kd.N_drew)); exact (aF aQ)) (Kd.N_base aT) hb) | exact Kd.N_mono (Kd.N_elder' (by (with_reducible repeat (first | apply Kd.N_alloc | apply Kd.N_drewN | apply Kd.N_drew)); exact (aF aQ)) (Kd.N_base aT) hb) (fun _ h_ => by first | trivial | exact h_ | exact h_.1))
   have bE := fun (aQ : b 5 = true) => (show Kd.V (Kd.int .u32) 48 dn w.heap.size (fun k_ => ((P0_1_ k_ ∨ P0_2_ k_ ∨ P1_1_ k_ ∨ P1_2_ k_) ∨ w.heap.size ≤ k_) ∧ k_ ≠ ac ∧ k_ ≠ af ∧ k_ ≠ ae) aL aR from by first | exact (Kd.V_elder' (by (with_reducible repeat (first | apply Kd.V_alloc | apply Kd.V_drewN | apply Kd.V_drew)); exact (aH aQ)) (Kd.N_base aT) hb) | exact Kd.V_mono (Kd.V_elder' (by (with_reducible repeat (first | apply Kd.V_alloc | apply Kd.V_drewN | apply Kd.V_drew)); exact (aH aQ)) (Kd.N_base aT) hb) (fun _ h_ => by first | trivial | exact h_ | exact h_.1))
   clear ak ag al ah aa ab ad HB
   have ak := bO
   have ag := bP
   have al := bQ
   have ah := bR
   have av := bS
   have aa := bT
   have ab := bU
   have ad := bV
   have HB := bW
   clear bO bP bQ bR bS bT bU bV bW hb aT
   refine hK.out _ _ ⟨aN, aL, aO, aM, m12_, m13_, (by rw [ha.out]; exact putSel_upk 6 hb_ rfl rfl rfl), (vz ak.out), (vz ag.out), (vz al.out), (vz ah.out), (ku aa.out), (ku ab.out), (ku ad.out), (bu3 HB.out ai.out an.out au.out), bD, bE, fun _ => (nu av.out), fun aQ => absurd ((hoff 11 (by kernel_rfl)).symm.trans aQ) (by decide), fun aQ => absurd ((hoff 12 (by kernel_rfl)).symm.trans aQ) (by decide), fun aQ => absurd ((hoff 13 (by kernel_rfl)).symm.trans aQ) (by decide)⟩
  refine steps_cons ?_ ?_
  ·
   rintro b a w' ⟨aN, aL, aO, aM, m12_, m13_, ha, aA, aB, aC, aD, aw, ax, ay, Q_HB, aF, aH, aE, aJ, Q_X12_, Q_X13_⟩ hb_ hon hoff
   refine ⟨_, rfl, fun K hK => ?_⟩
   have e20 : a.tmps[20]? = some (aO) := by rw [ha]; exact putSel_on (e := (10, 20, aO)) 6 rfl rfl (hon 10 (by kernel_rfl)) rfl
   replace ha := am ha
   have ak := am aA
   have ag := am aB
   have al := am aC
   have ah := am aD
   have aa := am aw
   have ab := am ax
   have ad := am ay
   have HB := am Q_HB
   have ao := am (aF (hon 4 (by kernel_rfl)))
   have aj := am (aH (hon 5 (by kernel_rfl)))
   have av := am (aE (hon 10 (by kernel_rfl)))
   obtain ⟨ck, cl, co⟩ := Kd.N_slice av.out
   (first | subst co | (injection co with f1_ f2_ f3_; have f4_ := f1_.symm; have f5_ := f3_.symm; clear f1_ f2_ f3_; subst f4_; subst f5_))
   refine goes_ Try.func145 (by kernel_rfl) rfl #[.slice ck bb.length cl] (by rfl) rfl rfl (by first | (simp only [List.map_toArray, List.map_cons, List.map_nil, Act.eval, Array.getD_eq_getD_getElem?, Option.getD_some, e20]; done) | (simp only [List.map_toArray, List.map_cons, List.map_nil, Act.eval, Array.getD_eq_getD_getElem?, Option.getD_some, e20]; rfl)) ?_
   with_reducible refine (nat_Mul.calls k _ _ bb aS _ ?side1 ?side2 A4.out).mono ?_
   (case side1 => exact cu (Kd.N_reads' av.out).2.2)
   (case side2 => exact (Kd.N_reads' av.out).2.1)
   rintro e dp ⟨aM, rfl, aY, hb⟩
   refine ⟨_, rfl, ?_⟩
   replace aY := R_V_base rfl aY
   replace ak := kv ak hb
   replace ag := kv ag hb
   replace al := kv al hb
   replace ah := kv ah hb
   replace aj := kv aj hb
   have aq := ar0 w.heap.size (ok' := fun k_ => ((P0_1_ k_ ∨ P0_2_ k_ ∨ P1_1_ k_ ∨ P1_2_ k_) ∨ w.heap.size ≤ k_) ∧ some k_ ≠ (aN : Value).ownBlock ∧ some k_ ≠ (.slice ck bb.length cl : Value).ownBlock ∧ k_ ≠ ac ∧ k_ ≠ af ∧ k_ ≠ ae) aY (fa (fz3 HB ai an au) (fa (fo ao) (fa (fo av) (fa (fb aa) (fa (fb ab) (fb ad))))))
   replace ao := kn ao hb
   replace av := kn av hb
   replace aa := kb aa hb
   replace ab := kb ab hb
   replace ad := kb ad hb
   replace HB := be3 HB ai an au hb
   (try clear hb)
   (try clear hb2)
   (try clear hk)
   (try clear hi)
   (try clear aY)
   refine hK.out _ _ ⟨aN, aL, .slice ck bb.length cl, aM, m12_, m13_, (by rw [ha.out]; exact putSel_upk 7 hb_ rfl rfl rfl), (vz ak.out), (vz ag.out), (vz al.out), (vz ah.out), (ku aa.out), (ku ab.out), (ku ad.out), (bu3 HB.out ai.out an.out au.out), fun _ => (nu ao.out), fun _ => (vz aj.out), fun _ => (nu av.out), fun _ => (vz aq.out), fun aQ => absurd ((hoff 12 (by kernel_rfl)).symm.trans aQ) (by decide), fun aQ => absurd ((hoff 13 (by kernel_rfl)).symm.trans aQ) (by decide)⟩
  refine steps_cons ?_ ?_
  ·
   rintro b a w' ⟨aN, aL, aO, aM, m12_, m13_, ha, aA, aB, aC, aD, aw, ax, ay, Q_HB, aF, aH, aE, aJ, Q_X12_, Q_X13_⟩ hb_ hon hoff
   refine ⟨_, rfl, fun K hK => ?_⟩
   have e15 : a.tmps[15]? = some (aL) := by rw [ha]; exact putSel_on (e := (5, 15, aL)) 3 rfl rfl (hon 5 (by kernel_rfl)) rfl
   replace ha := am ha
   have ak := am aA
   have ag := am aB
   have al := am aC
   have ah := am aD
   have aa := am aw
   have ab := am ax
   have ad := am ay
   have HB := am Q_HB
   have ao := am (aF (hon 4 (by kernel_rfl)))
   have aj := am (aH (hon 5 (by kernel_rfl)))
   have av := am (aE (hon 10 (by kernel_rfl)))
   have aq := am (aJ (hon 11 (by kernel_rfl)))
   refine value_ (w1 := w') (v := aL) (by rfl) rfl ?_ ?_
   ·
    go_simp
    (try simp only [i64_w])
    try rfl
   refine hK.out _ _ ⟨aN, aL, aO, aM, (aL), m13_, (by rw [ha.out]; exact putSel_upk 8 hb_ rfl rfl rfl), aA, aB, aC, aD, aw, ax, ay, Q_HB, aF, aH, aE, aJ, fun _ => rfl, fun aQ => absurd ((hoff 13 (by kernel_rfl)).symm.trans aQ) (by decide)⟩
  refine steps_cons ?_ ?_
  ·
   rintro b a w' ⟨aN, aL, aO, aM, m12_, m13_, ha, aA, aB, aC, aD, aw, ax, ay, Q_HB, aF, aH, aE, aJ, Q_X12_, Q_X13_⟩ hb_ hon hoff
   refine ⟨_, rfl, fun K hK => ?_⟩
   have e21 : a.tmps[21]? = some (aM) := by rw [ha]; exact putSel_on (e := (11, 21, aM)) 7 rfl rfl (hon 11 (by kernel_rfl)) rfl
   replace ha := am ha
   have ak := am aA
   have ag := am aB
   have al := am aC
   have ah := am aD
   have aa := am aw
   have ab := am ax
   have ad := am ay
   have HB := am Q_HB
   have ao := am (aF (hon 4 (by kernel_rfl)))
   have aj := am (aH (hon 5 (by kernel_rfl)))
   have av := am (aE (hon 10 (by kernel_rfl)))
   have aq := am (aJ (hon 11 (by kernel_rfl)))
   refine value_ (w1 := w') (v := aM) (by rfl) rfl ?_ ?_
   ·
    go_simp
    (try simp only [i64_w])
    try rfl
   refine hK.out _ _ ⟨aN, aL, aO, aM, m12_, (aM), (by rw [ha.out]; exact putSel_upk 9 hb_ rfl rfl rfl), aA, aB, aC, aD, aw, ax, ay, Q_HB, aF, aH, aE, aJ, Q_X12_, fun _ => rfl⟩
  exact steps_nil
 rintro b a dp hall ⟨aN, aL, aO, aM, m12_, m13_, ha, aA, aB, aC, aD, aw, ax, ay, Q_HB, aF, aH, aE, aJ, Q_X12_, Q_X13_⟩
 clear aa ab ad HB ak ag al ah
 have hb1_ := hall 1 (by kernel_rfl)
 have hb3_ := hall 3 (by kernel_rfl)
 have hb4_ := hall 4 (by kernel_rfl)
 have hb5_ := hall 5 (by kernel_rfl)
 have hb7_ := hall 7 (by kernel_rfl)
 have hb9_ := hall 9 (by kernel_rfl)
 have hb10_ := hall 10 (by kernel_rfl)
 have hb11_ := hall 11 (by kernel_rfl)
 have hb12_ := hall 12 (by kernel_rfl)
 have hb13_ := hall 13 (by kernel_rfl)
 subst ha
 obtain rfl := Q_X12_ hb12_
 obtain rfl := Q_X13_ hb13_
 simp only [putSel, hb1_, hb3_, hb4_, hb5_, hb7_, hb9_, hb10_, hb11_, hb12_, hb13_, if_true, Act.put, List.setIfInBounds_toArray, List.set_cons_zero, List.set_cons_succ]
 have ak := am aA
 clear aA
 have ag := am aB
 clear aB
 have al := am aC
 clear aC
 have ah := am aD
 clear aD
 have aa := am aw
 clear aw
 have ab := am ax
 clear ax
 have ad := am ay
 clear ay
 have HB := am Q_HB
 clear Q_HB
 have ao := am (aF hb4_)
 clear aF
 have aj := am (aH hb5_)
 clear aH
 have av := am (aE hb10_)
 clear aE
 have aq := am (aJ hb11_)
 clear aJ
 clear hall hb1_ hb3_ hb4_ hb5_ hb7_ hb9_ hb10_ hb11_ hb12_ hb13_
 have eM := aV.out
 have eN := aG.out
 have eO := az.out
 have eP := aP.out
 obtain ⟨dq, dr, dt, du, dv, dw⟩ := bz aa
 have eQ := aW.out
 have eR := aX.out
 obtain ⟨dx, dy, dz, dA, dB, dC⟩ := bz ab
 by_cases c6 : (a0_0 == a1_0) = true
 ·
  rw [if_pos c6] at H
  have eg : (a0_0 == a1_0) = true := c6
  (try (have eh : decide (a0_0 = a1_0) = true := by simpa using c6))
  (try (have ei : (a0_0 == a1_0) = true := by simpa using c6))
  clear c6
  obtain ⟨a8, bf⟩ : ∃ y_ : List (List Int), y_ = (([aR, aS] : List (List Int))) := ⟨_, rfl⟩
  replace H : ((nat_Add.f k a8).bind fun a9 => ((rational_canonical.f k a0_0 a9 aU).bind fun a1 => (some (a1.1, a1.2.1, a1.2.2)))) = some (r1, r2, r3) := by first | (rw [bf]; with_reducible exact H) | (have H2_ := (Option.bind_some _ _).symm.trans H; rw [bf]; with_reducible exact H2_) | (have H2_ := (Option.bind_some _ _).symm.trans H; with_reducible exact H2_) | with_reducible exact H | (rw [bf]; exact H) | exact H
  have bF := am bf
  clear bf
  obtain ⟨a9, A7, H⟩ := bs H
  (try dsimp -simprocs only at H)
  obtain ⟨⟨bX, bY, bZ⟩, A8, H⟩ := bs H
  (try dsimp -simprocs only at H)
  simp only [Option.some.injEq, Prod.mk.injEq] at H
  obtain ⟨rfl, rfl, rfl⟩ := H
  try go_wp2_with (first | ((with_reducible refine gate_dst (N := 26) rfl ?_); refine Kd.N_lit (Kd.slice 48 (Kd.int .u32)) _ 42 ?hg (N' := 26) ?hd (xs := ([l0_2, l1_2] : List (List Int))) (inner := [.slice A0_2 l0_2.length c0_2, .slice A1_2 l1_2.length c1_2]) (ok := (fun k_ => ((P0_1_ k_ ∨ P0_2_ k_ ∨ P1_1_ k_ ∨ P1_2_ k_) ∨ w.heap.size ≤ k_) ∧ k_ ≠ ac ∧ k_ ≠ af ∧ k_ ≠ ae)) (okp := (fun k_ => ((P0_1_ k_ ∨ P0_2_ k_ ∨ P1_1_ k_ ∨ P1_2_ k_) ∨ w.heap.size ≤ k_) ∧ k_ ≠ ac ∧ k_ ≠ af ∧ k_ ≠ ae)) ?hr ?hp (fun _ hk => hk) ((show ∀ k_, dp.heap.size ≤ k_ → (fun k_ => ((P0_1_ k_ ∨ P0_2_ k_ ∨ P1_1_ k_ ∨ P1_2_ k_) ∨ w.heap.size ≤ k_) ∧ k_ ≠ ac ∧ k_ ≠ af ∧ k_ ≠ ae) k_ from fun k_ hk => ⟨(.inr (Nat.le_trans (below_size (bu3 HB.out ai.out an.out au.out)) hk)), Kd.freshB (g := ac) (o := .cells #[.bool a0_0, .slice A0_1 l0_1.length c0_1, .slice A0_2 l0_2.length c0_2] 67 (0, 0)) (ku aa.out) k_ hk, Kd.freshB (g := af) (o := .cells #[.bool a1_0, .slice A1_1 l1_1.length c1_1, .slice A1_2 l1_2.length c1_2] 67 (0, 0)) (ku ab.out) k_ hk, Kd.freshB (g := ae) (o := .cells #[.bool false, .slice none 0 0, .slice none 0 0] 67 (0, 0)) (ku ad.out) k_ hk⟩) _ (Nat.le_refl _)) (Below.refl _ _) (Nat.le_refl _) (by simp) ?_; (case hd => rfl); (case hg => rfl); (case hr => first | (go_simp; done) | (go_simp; rfl)); (case hp => exact (Reps.one (show Kd.FK (Kd.slice 48 (Kd.int .u32)) _ _ l0_2 [.slice A0_2 l0_2.length c0_2] from (Kd.FK_slice_mk (Kd.V_reads' (vy ((fun k_ => ((P0_1_ k_ ∨ P0_2_ k_ ∨ P1_1_ k_ ∨ P1_2_ k_) ∨ w.heap.size ≤ k_) ∧ k_ ≠ ac ∧ k_ ≠ af ∧ k_ ≠ ae)) ag.out)).2.1 (Kd.V_F (vy ((fun k_ => ((P0_1_ k_ ∨ P0_2_ k_ ∨ P1_1_ k_ ∨ P1_2_ k_) ∨ w.heap.size ≤ k_) ∧ k_ ≠ ac ∧ k_ ≠ af ∧ k_ ≠ ae)) ag.out)))) (Reps.one (show Kd.FK (Kd.slice 48 (Kd.int .u32)) _ _ l1_2 [.slice A1_2 l1_2.length c1_2] from (Kd.FK_slice_mk (Kd.V_reads' (vy ((fun k_ => ((P0_1_ k_ ∨ P0_2_ k_ ∨ P1_1_ k_ ∨ P1_2_ k_) ∨ w.heap.size ≤ k_) ∧ k_ ≠ ac ∧ k_ ≠ af ∧ k_ ≠ ae)) ah.out)).2.1 (Kd.V_F (vy ((fun k_ => ((P0_1_ k_ ∨ P0_2_ k_ ∨ P1_1_ k_ ∨ P1_2_ k_) ∨ w.heap.size ≤ k_) ∧ k_ ≠ ac ∧ k_ ≠ af ∧ k_ ≠ ae)) ah.out)))) (Reps.none _ _)))); intro b0 fn a6 hb hg_ hnew_; clear hg_ hnew_; (first | rw [← a5.out] at a6 | (simp only [Int.reduceToNat] at a6; rw [← a5.out] at a6)); replace ak := el ak a6 hb; replace ag := el ag a6 hb; replace al := el al a6 hb; replace ah := el ah a6 hb; replace ao := en ao a6 hb; replace aj := el aj a6 hb; replace av := en av a6 hb; replace aq := el aq a6 hb; have ap := am (Kd.N_lower a6 (below_size (bu3 HB.out ai.out an.out au.out))); replace aa := kb aa hb; replace ab := kb ab hb; replace ad := kb ad hb; replace HB := be3 HB ai an au hb; clear hb a6; obtain ⟨a3, a4, ej⟩ := Kd.N_slice ap.out; subst ej) | ((with_reducible refine gate_callee (f := 145) rfl ?_); refine goesL_ (some 27) rfl rfl Try.func145 (by kernel_rfl) rfl #[.slice a3 aK.length a4] rfl lu ?_; (with_reducible refine (nat_Mul.calls k _ _ aK aU _ ?side1 ?side2 A5.out).mono ?_); (case side1 => exact cu (Kd.N_reads' ap.out).2.2); (case side2 => exact (Kd.N_reads' ap.out).2.1); rintro e e6 ⟨b1, rfl, aY, hb⟩; refine ⟨_, rfl, ?_⟩; replace aY := R_V_base rfl aY; replace ak := kv ak hb; replace ag := kv ag hb; replace al := kv al hb; replace ah := kv ah hb; replace aj := kv aj hb; replace aq := kv aq hb; have aI := ar0 w.heap.size (ok' := fun k_ => ((P0_1_ k_ ∨ P0_2_ k_ ∨ P1_1_ k_ ∨ P1_2_ k_) ∨ w.heap.size ≤ k_) ∧ some k_ ≠ (.slice a3 aK.length a4 : Value).ownBlock ∧ k_ ≠ ac ∧ k_ ≠ af ∧ k_ ≠ ae) aY (fa (fz3 HB ai an au) (fa (fo ap) (fa (fb aa) (fa (fb ab) (fb ad))))); replace ao := kn ao hb; replace av := kn av hb; replace ap := kn ap hb; replace aa := kb aa hb; replace ab := kb ab hb; replace ad := kb ad hb; replace HB := be3 HB ai an au hb; (try clear hb); (try clear hk); (try clear aY); obtain ⟨dD, dE, dF, dG, dH, dI⟩ := bz aa; obtain ⟨dJ, dK, dL, dM, dN, dO⟩ := bz ab))
  replace ak := am (Kd.V_drew ak.out)
  replace ag := am (Kd.V_drew ag.out)
  replace al := am (Kd.V_drew al.out)
  replace ah := am (Kd.V_drew ah.out)
  replace ao := am (Kd.N_drew ao.out)
  replace aj := am (Kd.V_drew aj.out)
  replace av := am (Kd.N_drew av.out)
  replace aq := am (Kd.V_drew aq.out)
  replace ap := am (Kd.N_drew ap.out)
  replace aI := am (Kd.V_drew aI.out)
  replace aa := am (blk_drew aa.out)
  replace ab := am (blk_drew ab.out)
  replace ad := am (blk_drew ad.out)
  replace HB := am (below_drew1 HB.out)
  obtain ⟨cp, cq, cr⟩ := Kd.V_slice aj.out
  (first | subst cr | (injection cr with f1_ f2_ f3_; have f4_ := f1_.symm; have f5_ := f3_.symm; clear f1_ f2_ f3_; subst f4_; subst f5_))
  obtain ⟨ct, cv, cw⟩ := Kd.V_slice aq.out
  (first | subst cw | (injection cw with f1_ f2_ f3_; have f4_ := f1_.symm; have f5_ := f3_.symm; clear f1_ f2_ f3_; subst f4_; subst f5_))
  refine start_ (n := 9) (S := fun w' => w'.cell? ⟨ac, 0, none⟩ = some (.bool a0_0) ∧ w'.cell? ⟨ac, 1, none⟩ = some (.slice A0_1 l0_1.length c0_1) ∧ w'.cell? ⟨ac, 2, none⟩ = some (.slice A0_2 l0_2.length c0_2)) (ds := []) #[false, false, false, false, false, false, false, false, false] (by kernel_rfl) rfl rfl ⟨bc aa 0, bc aa 1, bc aa 2⟩ (fun hHeld => ?_); refine with_tabW rational_plus.tab4 rational_plus.bits4 (fun HT_ HW_ => ?_)
  generalize e6.drew = e7 at ak ag al ah ao aj av aq ap aI aa ab ad HB hHeld ⊢
  refine pq 0 (some 33) #[true, false, false, false, false, false, false, false, false] HT_ ?_
  refine pq 2 (some 35) #[true, false, true, false, false, false, false, false, false] HT_ ?_
  refine pq 3 (some 36) #[true, false, true, true, false, false, false, false, false] HT_ ?_
  refine pq 6 (some 39) #[true, false, true, true, false, false, true, false, false] HT_ ?_
  refine tq 1 (some 34) #[true, true, true, true, false, false, true, false, false] HT_ HW_ hHeld ?_
  refine one_ (i := 4) (N := some 37) #[true, true, true, true, true, false, true, false, false] rfl rfl (one_of HT_.out (by kernel_rfl)) (by decide) (fun K hK => ?_)
  refine Kd.N_lit_step (Kd.slice 48 (Kd.int .u32)) _ 42 ?hg (N' := 37) ?hd (xs := ([aR, aS] : List (List Int))) (inner := [.slice cp aR.length cq, .slice ct aS.length cv]) (ok := (fun k_ => ((P0_1_ k_ ∨ P0_2_ k_ ∨ P1_1_ k_ ∨ P1_2_ k_) ∨ w.heap.size ≤ k_) ∧ some k_ ≠ (.slice a3 aK.length a4 : Value).ownBlock ∧ k_ ≠ ac ∧ k_ ≠ af ∧ k_ ≠ ae)) (okp := (fun k_ => ((P0_1_ k_ ∨ P0_2_ k_ ∨ P1_1_ k_ ∨ P1_2_ k_) ∨ w.heap.size ≤ k_) ∧ some k_ ≠ (.slice a3 aK.length a4 : Value).ownBlock ∧ k_ ≠ ac ∧ k_ ≠ af ∧ k_ ≠ ae)) ?hr ?hp (fun _ hk => hk) ((show ∀ k_, e7.heap.size ≤ k_ → (fun k_ => ((P0_1_ k_ ∨ P0_2_ k_ ∨ P1_1_ k_ ∨ P1_2_ k_) ∨ w.heap.size ≤ k_) ∧ some k_ ≠ (.slice a3 aK.length a4 : Value).ownBlock ∧ k_ ≠ ac ∧ k_ ≠ af ∧ k_ ≠ ae) k_ from fun k_ hk => ⟨(.inr (Nat.le_trans (below_size (bu3 HB.out ai.out an.out au.out)) hk)), Kd.fresh' (Kd.N_lt (nu ap.out)) k_ hk, Kd.freshB (g := ac) (o := .cells #[.bool a0_0, .slice A0_1 l0_1.length c0_1, .slice A0_2 l0_2.length c0_2] 67 (0, 0)) (ku aa.out) k_ hk, Kd.freshB (g := af) (o := .cells #[.bool a1_0, .slice A1_1 l1_1.length c1_1, .slice A1_2 l1_2.length c1_2] 67 (0, 0)) (ku ab.out) k_ hk, Kd.freshB (g := ae) (o := .cells #[.bool false, .slice none 0 0, .slice none 0 0] 67 (0, 0)) (ku ad.out) k_ hk⟩) _ (Nat.le_refl _)) (Below.refl _ _) (Nat.le_refl _) (by simp) ?_; (case hd => rfl); (case hg => rfl); (case hr => first | (go_simp; done) | (go_simp; rfl)); (case hp => exact (Reps.one (show Kd.FK (Kd.slice 48 (Kd.int .u32)) _ _ aR [.slice cp aR.length cq] from (Kd.FK_slice_mk (Kd.V_reads' (vy ((fun k_ => ((P0_1_ k_ ∨ P0_2_ k_ ∨ P1_1_ k_ ∨ P1_2_ k_) ∨ w.heap.size ≤ k_) ∧ some k_ ≠ (.slice a3 aK.length a4 : Value).ownBlock ∧ k_ ≠ ac ∧ k_ ≠ af ∧ k_ ≠ ae)) aj.out)).2.1 (Kd.V_F (vy ((fun k_ => ((P0_1_ k_ ∨ P0_2_ k_ ∨ P1_1_ k_ ∨ P1_2_ k_) ∨ w.heap.size ≤ k_) ∧ some k_ ≠ (.slice a3 aK.length a4 : Value).ownBlock ∧ k_ ≠ ac ∧ k_ ≠ af ∧ k_ ≠ ae)) aj.out)))) (Reps.one (show Kd.FK (Kd.slice 48 (Kd.int .u32)) _ _ aS [.slice ct aS.length cv] from (Kd.FK_slice_mk (Kd.V_reads' (vy ((fun k_ => ((P0_1_ k_ ∨ P0_2_ k_ ∨ P1_1_ k_ ∨ P1_2_ k_) ∨ w.heap.size ≤ k_) ∧ some k_ ≠ (.slice a3 aK.length a4 : Value).ownBlock ∧ k_ ≠ ac ∧ k_ ≠ af ∧ k_ ≠ ae)) aq.out)).2.1 (Kd.V_F (vy ((fun k_ => ((P0_1_ k_ ∨ P0_2_ k_ ∨ P1_1_ k_ ∨ P1_2_ k_) ∨ w.heap.size ≤ k_) ∧ some k_ ≠ (.slice a3 aK.length a4 : Value).ownBlock ∧ k_ ≠ ac ∧ k_ ≠ af ∧ k_ ≠ ae)) aq.out)))) (Reps.none _ _))))
  intro eS fp a2 hb hg_ hnew_
  clear hg_ hnew_
  (first | rw [← bF.out] at a2 | (simp only [Int.reduceToNat] at a2; rw [← bF.out] at a2))
  replace ak := el ak a2 hb
  replace ag := el ag a2 hb
  replace al := el al a2 hb
  replace ah := el ah a2 hb
  replace ao := en ao a2 hb
  replace aj := el aj a2 hb
  replace av := en av a2 hb
  replace aq := el aq a2 hb
  replace ap := en ap a2 hb
  replace aI := el aI a2 hb
  have aZ := am (Kd.N_lower a2 (below_size (bu3 HB.out ai.out an.out au.out)))
  replace aa := kb aa hb
  replace ab := kb ab hb
  replace ad := kb ad hb
  replace HB := be3 HB ai an au hb
  clear hb a2
  obtain ⟨bw, bA, cx⟩ := Kd.N_slice aZ.out
  (first | subst cx | (injection cx with f1_ f2_ f3_; have f4_ := f1_.symm; have f5_ := f3_.symm; clear f1_ f2_ f3_; subst f4_; subst f5_))
  refine hK.out _ _ ⟨bc aa 0, bc aa 1, bc aa 2⟩ (fun hHeld => ?_)
  clear hK K
  refine nq 37 ?_
  refine one_ (i := 5) (N := some 38) #[true, true, true, true, true, true, true, false, false] rfl rfl (one_of HT_.out (by kernel_rfl)) (by decide) (fun K hK => ?_)
  refine goes_ Try.func142 (by kernel_rfl) rfl #[.slice bw a8.length bA] (by rfl) rfl rfl lu ?_
  with_reducible refine (nat_Add.calls k _ _ a8 a9 _ ?side1 ?side2 A7.out).mono ?_
  (case side1 => exact cu (Kd.N_reads' aZ.out).2.2)
  (case side2 => exact (Kd.N_reads' aZ.out).2.1)
  rintro e fq ⟨eT, rfl, aY, hb⟩
  refine ⟨_, rfl, ?_⟩
  replace aY := R_V_base rfl aY
  replace ak := kv ak hb
  replace ag := kv ag hb
  replace al := kv al hb
  replace ah := kv ah hb
  replace aj := kv aj hb
  replace aq := kv aq hb
  replace aI := kv aI hb
  have bj := ar0 w.heap.size (ok' := fun k_ => ((P0_1_ k_ ∨ P0_2_ k_ ∨ P1_1_ k_ ∨ P1_2_ k_) ∨ w.heap.size ≤ k_) ∧ some k_ ≠ (.slice a3 aK.length a4 : Value).ownBlock ∧ some k_ ≠ (.slice bw a8.length bA : Value).ownBlock ∧ k_ ≠ ac ∧ k_ ≠ af ∧ k_ ≠ ae) aY (fa (fz3 HB ai an au) (fa (fo ap) (fa (fo aZ) (fa (fb aa) (fa (fb ab) (fb ad))))))
  replace ao := kn ao hb
  replace av := kn av hb
  replace ap := kn ap hb
  replace aZ := kn aZ hb
  replace aa := kb aa hb
  replace ab := kb ab hb
  replace ad := kb ad hb
  replace HB := be3 HB ai an au hb
  (try clear hb)
  (try clear hb2)
  (try clear hk)
  (try clear hi)
  (try clear aY)
  obtain ⟨ek, em, cy⟩ := Kd.V_slice bj.out
  (first | subst cy | (injection cy with f1_ f2_ f3_; have f4_ := f1_.symm; have f5_ := f3_.symm; clear f1_ f2_ f3_; subst f4_; subst f5_))
  obtain ⟨eo, ep, cz⟩ := Kd.V_slice aI.out
  (first | subst cz | (injection cz with f1_ f2_ f3_; have f4_ := f1_.symm; have f5_ := f3_.symm; clear f1_ f2_ f3_; subst f4_; subst f5_))
  refine hK.out _ _ ⟨bc aa 0, bc aa 1, bc aa 2⟩ (fun hHeld => ?_)
  clear hK K
  refine nq 38 ?_
  refine one_ (i := 7) (N := some 40) #[true, true, true, true, true, true, true, true, false] rfl rfl (one_of HT_.out (by kernel_rfl)) (by decide) (fun K hK => ?_)
  refine goes_ Try.func155 (by kernel_rfl) rfl #[.bool a0_0, .slice ek a9.length em, .slice eo aU.length ep] (by rfl) rfl rfl lu ?_
  with_reducible refine (rational_canonical.calls k a0_0 (fun k_ => (((P0_1_ k_ ∨ P0_2_ k_ ∨ P1_1_ k_ ∨ P1_2_ k_) ∨ w.heap.size ≤ k_) ∧ (((some k_ ≠ (.slice a3 aK.length a4 : Value).ownBlock ∧ (some k_ ≠ (.slice bw a8.length bA : Value).ownBlock ∧ (k_ ≠ ac ∧ (k_ ≠ af ∧ k_ ≠ ae)))))))) _ _ a9 (fun k_ => ((((P0_1_ k_ ∨ P0_2_ k_ ∨ P1_1_ k_ ∨ P1_2_ k_) ∨ w.heap.size ≤ k_) ∧ (((some k_ ≠ (.slice a3 aK.length a4 : Value).ownBlock ∧ (k_ ≠ ac ∧ (k_ ≠ af ∧ k_ ≠ ae)))))) ∧ some k_ ≠ (.slice bw a8.length bA : Value).ownBlock)) _ _ aU bX bY bZ _ ?side1 ?side2 A8.out).mono ?_
  (case side1 => exact vz bj.out)
  (case side2 => exact vz aI.out)
  rintro e eq ⟨eU, eV, rfl, aY, b2, hb⟩
  refine ⟨_, rfl, ?_⟩
  replace ak := kv ak hb
  replace ag := kv ag hb
  replace al := kv al hb
  replace ah := kv ah hb
  replace aj := kv aj hb
  replace aq := kv aq hb
  replace aI := kv aI hb
  replace bj := kv bj hb
  have bG := ar w.heap.size (ok' := fun k_ => ((P0_1_ k_ ∨ P0_2_ k_ ∨ P1_1_ k_ ∨ P1_2_ k_) ∨ w.heap.size ≤ k_) ∧ some k_ ≠ (.slice a3 aK.length a4 : Value).ownBlock ∧ some k_ ≠ (.slice bw a8.length bA : Value).ownBlock ∧ k_ ≠ ac ∧ k_ ≠ af ∧ k_ ≠ ae) aY (fa (fz3 HB ai an au) (fa (fo ap) (fa (fo aZ) (fa (fb aa) (fa (fb ab) (fb ad))))))
  have bH := ar w.heap.size (ok' := fun k_ => ((P0_1_ k_ ∨ P0_2_ k_ ∨ P1_1_ k_ ∨ P1_2_ k_) ∨ w.heap.size ≤ k_) ∧ some k_ ≠ (.slice a3 aK.length a4 : Value).ownBlock ∧ some k_ ≠ (.slice bw a8.length bA : Value).ownBlock ∧ k_ ≠ ac ∧ k_ ≠ af ∧ k_ ≠ ae) b2 (fa (fz3 HB ai an au) (fa (fo ap) (fa (fo aZ) (fa (fb aa) (fa (fb ab) (fb ad))))))
  replace ao := kn ao hb
  replace av := kn av hb
  replace ap := kn ap hb
  replace aZ := kn aZ hb
  replace aa := kb aa hb
  replace ab := kb ab hb
  replace ad := kb ad hb
  replace HB := be3 HB ai an au hb
  (try clear hb)
  (try clear hb2)
  (try clear hk)
  (try clear hi)
  (try clear aY)
  (try clear b2)
  obtain ⟨er, es, cA⟩ := Kd.V_slice bG.out
  (first | subst cA | (injection cA with f1_ f2_ f3_; have f4_ := f1_.symm; have f5_ := f3_.symm; clear f1_ f2_ f3_; subst f4_; subst f5_))
  obtain ⟨et, eu, cB⟩ := Kd.V_slice bH.out
  (first | subst cB | (injection cB with f1_ f2_ f3_; have f4_ := f1_.symm; have f5_ := f3_.symm; clear f1_ f2_ f3_; subst f4_; subst f5_))
  refine hK.out _ _ ⟨bc aa 0, bc aa 1, bc aa 2⟩ (fun hHeld => ?_)
  clear hK K
  refine nq 40 ?_
  refine one_ (i := 8) (N := none) #[true, true, true, true, true, true, true, true, true] rfl rfl (one_of HT_.out (by kernel_rfl)) (by decide) (fun K hK => ?_)
  have hs43 : eq.cell? ⟨ae, 0, none⟩ = some (.bool false) := bc ad 0
  have hfs43 := blk_frozen ad.out 0
  have hns43_0 := az.out
  have hns43_1 := aW.out
  have hms43_0 := aP.out
  have hms43_1 := aX.out
  have hs45 : eq.cell? ⟨ae, 1, none⟩ = some (.slice none 0 0) := bc ad 1
  have hfs45 := blk_frozen ad.out 1
  have hns45_0 := az.out
  have hns45_1 := aW.out
  have hms45_0 := aP.out
  have hms45_1 := aX.out
  have hs47 : eq.cell? ⟨ae, 2, none⟩ = some (.slice none 0 0) := bc ad 2
  have hfs47 := blk_frozen ad.out 2
  have hns47_0 := az.out
  have hns47_1 := aW.out
  have hms47_0 := aP.out
  have hms47_1 := aX.out
  refine skip_ (w1 := ?_) (by rfl) rfl ?_ ?_
  rotate_left
  ·
   go_simp
   rfl
  refine hK.out _ _ ⟨((cell_far (p := ⟨ae, _, none⟩) az.out _).trans (((cell_far (p := ⟨ae, _, none⟩) az.out _).trans (((cell_far (p := ⟨ae, _, none⟩) az.out _).trans (hHeld.1)))))), ((cell_far (p := ⟨ae, _, none⟩) az.out _).trans (((cell_far (p := ⟨ae, _, none⟩) az.out _).trans (((cell_far (p := ⟨ae, _, none⟩) az.out _).trans (hHeld.2.1)))))), ((cell_far (p := ⟨ae, _, none⟩) az.out _).trans (((cell_far (p := ⟨ae, _, none⟩) az.out _).trans (((cell_far (p := ⟨ae, _, none⟩) az.out _).trans (hHeld.2.2))))))⟩ (fun hHeld => ?_)
  clear hK K
  refine done_ (done_of HT_.out (by kernel_rfl)) ?_
  try go_wp2
  refine bodyPost_ret (results_cell_row rfl _ _ ae 67 #[.bool bX, .slice er bY.length es, .slice et bZ.length eu] (0, 0) _ rfl (kp ad.out) Try.underlying67 rfl (by kernel_rfl)) rfl ?_
  exact ⟨_, _, by first | rfl | (simp [errW_none, errW_some] <;> rfl) | (simp [*, errW_none, errW_some] <;> rfl), by exact vf bG.out, by exact vf bH.out, by repeat (first | (with_reducible first | exact HB.out | apply below_alloc | apply pw_below_drewN | apply below_drew1 | refine below_set ?_ ai.out | refine below_set ?_ an.out | refine below_set ?_ au.out) | exact HB.out)⟩
 ·
  rw [if_neg c6] at H
  have eg : (a0_0 == a1_0) = false := by simpa using c6
  (try (have eh : decide (a0_0 = a1_0) = false := by simpa using c6))
  (try (have ei : (a0_0 == a1_0) = false := by simpa using c6))
  (try (have e8 : ¬ (a0_0 = a1_0) := by simpa using c6))
  clear c6
  obtain ⟨ba, eW, H⟩ := bs H
  (try dsimp -simprocs only at H)
  by_cases cm : ba < 0
  ·
   rw [if_pos cm] at H
   have cC : decide (ba < 0) = true := decide_eq_true cm
   clear cm
   obtain ⟨⟨bI, cD⟩, e9, H⟩ := bs H
   (try dsimp -simprocs only at H)
   obtain ⟨⟨b3, b4, b5⟩, fc, H⟩ := bs H
   (try dsimp -simprocs only at H)
   simp only [Option.some.injEq, Prod.mk.injEq] at H
   obtain ⟨rfl, rfl, rfl⟩ := H
   try go_wp2_with (first | ((with_reducible refine gate_dst (N := 26) rfl ?_); refine Kd.N_lit (Kd.slice 48 (Kd.int .u32)) _ 42 ?hg (N' := 26) ?hd (xs := ([l0_2, l1_2] : List (List Int))) (inner := [.slice A0_2 l0_2.length c0_2, .slice A1_2 l1_2.length c1_2]) (ok := (fun k_ => ((P0_1_ k_ ∨ P0_2_ k_ ∨ P1_1_ k_ ∨ P1_2_ k_) ∨ w.heap.size ≤ k_) ∧ k_ ≠ ac ∧ k_ ≠ af ∧ k_ ≠ ae)) (okp := (fun k_ => ((P0_1_ k_ ∨ P0_2_ k_ ∨ P1_1_ k_ ∨ P1_2_ k_) ∨ w.heap.size ≤ k_) ∧ k_ ≠ ac ∧ k_ ≠ af ∧ k_ ≠ ae)) ?hr ?hp (fun _ hk => hk) ((show ∀ k_, dp.heap.size ≤ k_ → (fun k_ => ((P0_1_ k_ ∨ P0_2_ k_ ∨ P1_1_ k_ ∨ P1_2_ k_) ∨ w.heap.size ≤ k_) ∧ k_ ≠ ac ∧ k_ ≠ af ∧ k_ ≠ ae) k_ from fun k_ hk => ⟨(.inr (Nat.le_trans (below_size (bu3 HB.out ai.out an.out au.out)) hk)), Kd.freshB (g := ac) (o := .cells #[.bool a0_0, .slice A0_1 l0_1.length c0_1, .slice A0_2 l0_2.length c0_2] 67 (0, 0)) (ku aa.out) k_ hk, Kd.freshB (g := af) (o := .cells #[.bool a1_0, .slice A1_1 l1_1.length c1_1, .slice A1_2 l1_2.length c1_2] 67 (0, 0)) (ku ab.out) k_ hk, Kd.freshB (g := ae) (o := .cells #[.bool false, .slice none 0 0, .slice none 0 0] 67 (0, 0)) (ku ad.out) k_ hk⟩) _ (Nat.le_refl _)) (Below.refl _ _) (Nat.le_refl _) (by simp) ?_; (case hd => rfl); (case hg => rfl); (case hr => first | (go_simp; done) | (go_simp; rfl)); (case hp => exact (Reps.one (show Kd.FK (Kd.slice 48 (Kd.int .u32)) _ _ l0_2 [.slice A0_2 l0_2.length c0_2] from (Kd.FK_slice_mk (Kd.V_reads' (vy ((fun k_ => ((P0_1_ k_ ∨ P0_2_ k_ ∨ P1_1_ k_ ∨ P1_2_ k_) ∨ w.heap.size ≤ k_) ∧ k_ ≠ ac ∧ k_ ≠ af ∧ k_ ≠ ae)) ag.out)).2.1 (Kd.V_F (vy ((fun k_ => ((P0_1_ k_ ∨ P0_2_ k_ ∨ P1_1_ k_ ∨ P1_2_ k_) ∨ w.heap.size ≤ k_) ∧ k_ ≠ ac ∧ k_ ≠ af ∧ k_ ≠ ae)) ag.out)))) (Reps.one (show Kd.FK (Kd.slice 48 (Kd.int .u32)) _ _ l1_2 [.slice A1_2 l1_2.length c1_2] from (Kd.FK_slice_mk (Kd.V_reads' (vy ((fun k_ => ((P0_1_ k_ ∨ P0_2_ k_ ∨ P1_1_ k_ ∨ P1_2_ k_) ∨ w.heap.size ≤ k_) ∧ k_ ≠ ac ∧ k_ ≠ af ∧ k_ ≠ ae)) ah.out)).2.1 (Kd.V_F (vy ((fun k_ => ((P0_1_ k_ ∨ P0_2_ k_ ∨ P1_1_ k_ ∨ P1_2_ k_) ∨ w.heap.size ≤ k_) ∧ k_ ≠ ac ∧ k_ ≠ af ∧ k_ ≠ ae)) ah.out)))) (Reps.none _ _)))); intro b0 fr a7 hb hg_ hnew_; clear hg_ hnew_; (first | rw [← a5.out] at a7 | (simp only [Int.reduceToNat] at a7; rw [← a5.out] at a7)); replace ak := el ak a7 hb; replace ag := el ag a7 hb; replace al := el al a7 hb; replace ah := el ah a7 hb; replace ao := en ao a7 hb; replace aj := el aj a7 hb; replace av := en av a7 hb; replace aq := el aq a7 hb; have ap := am (Kd.N_lower a7 (below_size (bu3 HB.out ai.out an.out au.out))); replace aa := kb aa hb; replace ab := kb ab hb; replace ad := kb ad hb; replace HB := be3 HB ai an au hb; clear hb a7; obtain ⟨br, bv, ev⟩ := Kd.N_slice ap.out; subst ev) | ((with_reducible refine gate_callee (f := 145) rfl ?_); refine goesL_ (some 27) rfl rfl Try.func145 (by kernel_rfl) rfl #[.slice br aK.length bv] rfl lu ?_; (with_reducible refine (nat_Mul.calls k _ _ aK aU _ ?side1 ?side2 A5.out).mono ?_); (case side1 => exact cu (Kd.N_reads' ap.out).2.2); (case side2 => exact (Kd.N_reads' ap.out).2.1); rintro e ft ⟨b1, rfl, aY, hb⟩; refine ⟨_, rfl, ?_⟩; replace aY := R_V_base rfl aY; replace ak := kv ak hb; replace ag := kv ag hb; replace al := kv al hb; replace ah := kv ah hb; replace aj := kv aj hb; replace aq := kv aq hb; have aI := ar0 w.heap.size (ok' := fun k_ => ((P0_1_ k_ ∨ P0_2_ k_ ∨ P1_1_ k_ ∨ P1_2_ k_) ∨ w.heap.size ≤ k_) ∧ some k_ ≠ (.slice br aK.length bv : Value).ownBlock ∧ k_ ≠ ac ∧ k_ ≠ af ∧ k_ ≠ ae) aY (fa (fz3 HB ai an au) (fa (fo ap) (fa (fb aa) (fa (fb ab) (fb ad))))); replace ao := kn ao hb; replace av := kn av hb; replace ap := kn ap hb; replace aa := kb aa hb; replace ab := kb ab hb; replace ad := kb ad hb; replace HB := be3 HB ai an au hb; (try clear hb); (try clear hk); (try clear aY); obtain ⟨dP, dQ, dR, dS, dT, dU⟩ := bz aa; obtain ⟨dV, dW, dX, dY, dZ, d0⟩ := bz ab; obtain ⟨cE, cF, ew⟩ := Kd.V_slice aj.out; subst ew; obtain ⟨cG, cH, ex⟩ := Kd.V_slice aq.out; subst ex) | ((with_reducible refine gate_callee (f := 146) rfl ?_); refine goesL_ (some 43) rfl rfl Try.func146 (by kernel_rfl) rfl #[.slice cE aR.length cF, .slice cG aS.length cH] rfl lu ?_; (with_reducible refine (nat_Cmp.calls k _ _ aR _ _ aS ba _ ?side1 ?side2 ?side3 ?side4 eW.out).mono ?_); (case side1 => exact cu (Kd.V_reads' aj.out).2.2); (case side2 => exact (Kd.V_reads' aj.out).2.1); (case side3 => exact cu (Kd.V_reads' aq.out).2.2); (case side4 => exact (Kd.V_reads' aq.out).2.1); rintro e fd ⟨rfl, hb⟩; refine ⟨_, rfl, ?_⟩; replace ak := kv ak hb; replace ag := kv ag hb; replace al := kv al hb; replace ah := kv ah hb; replace ao := kn ao hb; replace aj := kv aj hb; replace av := kn av hb; replace aq := kv aq hb; replace ap := kn ap hb; replace aI := kv aI hb; replace aa := kb aa hb; replace ab := kb ab hb; replace ad := kb ad hb; replace HB := be3 HB ai an au hb; (try clear hb); (try clear hk)))
   replace ak := am (Kd.V_drew ak.out)
   replace ag := am (Kd.V_drew ag.out)
   replace al := am (Kd.V_drew al.out)
   replace ah := am (Kd.V_drew ah.out)
   replace ao := am (Kd.N_drew ao.out)
   replace aj := am (Kd.V_drew aj.out)
   replace av := am (Kd.N_drew av.out)
   replace aq := am (Kd.V_drew aq.out)
   replace ap := am (Kd.N_drew ap.out)
   replace aI := am (Kd.V_drew aI.out)
   replace aa := am (blk_drew aa.out)
   replace ab := am (blk_drew ab.out)
   replace ad := am (blk_drew ad.out)
   replace HB := am (below_drew1 HB.out)
   refine start_ (n := 6) (S := fun w' => w'.cell? ⟨af, 0, none⟩ = some (.bool a1_0) ∧ w'.cell? ⟨af, 1, none⟩ = some (.slice A1_1 l1_1.length c1_1) ∧ w'.cell? ⟨af, 2, none⟩ = some (.slice A1_2 l1_2.length c1_2)) (ds := []) #[false, false, false, false, false, false] (by kernel_rfl) rfl rfl ⟨bc ab 0, bc ab 1, bc ab 2⟩ (fun hHeld => ?_)
   generalize fd.drew = ey at ak ag al ah ao aj av aq ap aI aa ab ad HB hHeld ⊢
   refine pure_ (i := 0) (N := some 45) (v := ?_) (a' := ?_) #[true, false, false, false, false, false] rfl rfl (by kernel_rfl) (fun _ _ _ h => h) (Or.inl ⟨by rfl, ?_⟩) ?_ ?_
   rotate_left
   ·
    intro w'
    go_simp
    with_reducible rfl
   rotate_left
   ·
    simp only [Act.put, List.setIfInBounds_toArray, List.set_cons_zero, List.set_cons_succ, i64_w, i32_w]
    rfl
   refine pure_ (i := 1) (N := some 46) (v := ?_) (a' := ?_) #[true, true, false, false, false, false] rfl rfl (by kernel_rfl) (fun _ _ _ h => h) (Or.inl ⟨by rfl, ?_⟩) ?_ ?_
   rotate_left
   ·
    intro w'
    go_simp
    with_reducible rfl
   rotate_left
   ·
    simp only [Act.put, List.setIfInBounds_toArray, List.set_cons_zero, List.set_cons_succ, i64_w, i32_w]
    rfl
   refine pure_ (i := 3) (N := some 5) (v := ?_) (a' := ?_) #[true, true, false, true, false, false] rfl rfl (by kernel_rfl) (fun _ _ _ h => h) (Or.inl ⟨by rfl, ?_⟩) ?_ ?_
   rotate_left
   ·
    intro w'
    go_simp
    with_reducible rfl
   rotate_left
   ·
    simp only [Act.put, List.setIfInBounds_toArray, List.set_cons_zero, List.set_cons_succ, i64_w, i32_w]
    rfl
   refine pure_ (i := 4) (N := some 6) (v := ?_) (a' := ?_) #[true, true, false, true, true, false] rfl rfl (by kernel_rfl) (fun _ _ _ h => h) (Or.inl ⟨by rfl, ?_⟩) ?_ ?_
   rotate_left
   ·
    intro w'
    go_simp
    with_reducible rfl
   rotate_left
   ·
    simp only [Act.put, List.setIfInBounds_toArray, List.set_cons_zero, List.set_cons_succ, i64_w, i32_w]
    rfl
   refine take_ (i := 2) (N := some 47) (v := ?_) (a' := ?_) #[true, true, true, true, true, false] rfl rfl (by kernel_rfl) (fun _ _ _ h => h) (Or.inl ⟨by rfl, ?_⟩) hHeld ?_ ?_
   rotate_left
   ·
    rintro w' ⟨s0, s1, s2⟩
    go_simp
    with_reducible rfl
   rotate_left
   ·
    simp only [Act.put, List.setIfInBounds_toArray, List.set_cons_zero, List.set_cons_succ, i64_w, i32_w]
    rfl
   refine one_ (i := 5) (N := none) #[true, true, true, true, true, true] rfl rfl (by kernel_rfl) (by decide) (fun K hK => ?_)
   have hs80 : ey.cell? ⟨ac, 0, none⟩ = some (.bool a0_0) := bc aa 0
   have hfs80 := blk_frozen aa.out 0
   have hns80_1 := aG.out
   have hns80_2 := aP.out
   have hms80_1 := aV.out
   have hms80_2 := az.out
   have hs81 : ey.cell? ⟨ac, 1, none⟩ = some (.slice A0_1 l0_1.length c0_1) := bc aa 1
   have hfs81 := blk_frozen aa.out 1
   have hns81_1 := aG.out
   have hns81_2 := aP.out
   have hms81_1 := aV.out
   have hms81_2 := az.out
   have hs82 : ey.cell? ⟨ac, 2, none⟩ = some (.slice A0_2 l0_2.length c0_2) := bc aa 2
   have hfs82 := blk_frozen aa.out 2
   have hns82_1 := aG.out
   have hns82_2 := aP.out
   have hms82_1 := aV.out
   have hms82_2 := az.out
   refine skip_ (w1 := ?_) (by rfl) rfl ?_ ?_
   rotate_left
   ·
    go_simp
    rfl
   refine hK.out _ _ ⟨((cell_far (p := ⟨ac, _, none⟩) aG.out _).trans (((cell_far (p := ⟨ac, _, none⟩) aG.out _).trans (((cell_far (p := ⟨ac, _, none⟩) aG.out _).trans (hHeld.1)))))), ((cell_far (p := ⟨ac, _, none⟩) aG.out _).trans (((cell_far (p := ⟨ac, _, none⟩) aG.out _).trans (((cell_far (p := ⟨ac, _, none⟩) aG.out _).trans (hHeld.2.1)))))), ((cell_far (p := ⟨ac, _, none⟩) aG.out _).trans (((cell_far (p := ⟨ac, _, none⟩) aG.out _).trans (((cell_far (p := ⟨ac, _, none⟩) aG.out _).trans (hHeld.2.2))))))⟩ (fun hHeld => ?_)
   clear hK K
   refine done_ (by kernel_rfl) ?_
   try go_wp2_with (first | ((with_reducible refine gate_callee (f := 185) rfl ?_); refine goesL_ (some 51) rfl rfl Try.func185 (by kernel_rfl) rfl #[.slice cG aS.length cH, .slice cE aR.length cF] rfl lu ?_; (with_reducible refine (nat_Sub.calls k _ _ aS _ _ aR bI cD _ ?side1 ?side2 ?side3 ?side4 e9.out).mono ?_); (case side1 => exact vr aq.out); (case side2 => exact (Kd.V_reads' aq.out).2.1); (case side3 => exact vr aj.out); (case side4 => exact (Kd.V_reads' aj.out).2.1); rintro e fu ⟨eX, rfl, aY, hb⟩; refine ⟨_, rfl, ?_⟩; replace ak := kx ak hb; replace ag := kx ag hb; replace al := kx al hb; replace ah := kx ah hb; replace aj := kx aj hb; replace aq := kx aq hb; replace aI := kx aI hb; have bk := ar0 w.heap.size (ok' := fun k_ => ((P0_1_ k_ ∨ P0_2_ k_ ∨ P1_1_ k_ ∨ P1_2_ k_) ∨ w.heap.size ≤ k_) ∧ some k_ ≠ (.slice br aK.length bv : Value).ownBlock ∧ k_ ≠ ac ∧ k_ ≠ af ∧ k_ ≠ ae) aY (fa (fz3 HB ai an au) (fa (fo ap) (fa (fs aa) (fa (fs ab) (fs ad))))); replace ao := kn ao hb; replace av := kn av hb; replace ap := kn ap hb; replace aa := am (blk_below (g := ac) (o := .cells #[.bool a1_0, .slice A1_1 l1_1.length c1_1, .slice A1_2 l1_2.length c1_2] 67 (0, 0)) (kp aa.out) hb); replace ab := am (blk_below (g := af) (o := .cells #[.bool a1_0, .slice A1_1 l1_1.length c1_1, .slice A1_2 l1_2.length c1_2] 67 (0, 0)) (kf aG.out ab.out) hb); replace ad := am (blk_below (g := ae) (o := .cells #[.bool false, .slice none 0 0, .slice none 0 0] 67 (0, 0)) (kf aP.out ad.out) hb); replace HB := be3 HB ai an au hb; (try clear hb); (try clear aY); obtain ⟨d1, d2, d3, d4, d5, d6⟩ := bz aa; obtain ⟨ez, eA, eB⟩ := Kd.V_slice bk.out; subst eB; obtain ⟨eC, eD, eE⟩ := Kd.V_slice aI.out; subst eE) | ((with_reducible refine gate_callee (f := 155) rfl ?_); refine goesL_ (some 58) rfl rfl Try.func155 (by kernel_rfl) rfl #[.bool a1_0, .slice ez bI.length eA, .slice eC aU.length eD] rfl lu ?_; (with_reducible refine (rational_canonical.calls k a1_0 (fun k_ => (((P0_1_ k_ ∨ P0_2_ k_ ∨ P1_1_ k_ ∨ P1_2_ k_) ∨ w.heap.size ≤ k_) ∧ (((some k_ ≠ (.slice br aK.length bv : Value).ownBlock ∧ (k_ ≠ ac ∧ (k_ ≠ af ∧ k_ ≠ ae))))))) _ _ bI (fun k_ => (((P0_1_ k_ ∨ P0_2_ k_ ∨ P1_1_ k_ ∨ P1_2_ k_) ∨ w.heap.size ≤ k_) ∧ (((some k_ ≠ (.slice br aK.length bv : Value).ownBlock ∧ (k_ ≠ ac ∧ (k_ ≠ af ∧ k_ ≠ ae))))))) _ _ aU b3 b4 b5 _ ?side1 ?side2 fc.out).mono ?_); (case side1 => exact vz bk.out); (case side2 => exact vz aI.out); rintro e fv ⟨eY, eZ, rfl, aY, b2, hb⟩; refine ⟨_, rfl, ?_⟩; replace ak := kv ak hb; replace ag := kv ag hb; replace al := kv al hb; replace ah := kv ah hb; replace aj := kv aj hb; replace aq := kv aq hb; replace aI := kv aI hb; replace bk := kv bk hb; have bJ := ar w.heap.size (ok' := fun k_ => ((P0_1_ k_ ∨ P0_2_ k_ ∨ P1_1_ k_ ∨ P1_2_ k_) ∨ w.heap.size ≤ k_) ∧ some k_ ≠ (.slice br aK.length bv : Value).ownBlock ∧ k_ ≠ ac ∧ k_ ≠ af ∧ k_ ≠ ae) aY (fa (fz3 HB ai an au) (fa (fo ap) (fa (fb aa) (fa (fb ab) (fb ad))))); have bK := ar w.heap.size (ok' := fun k_ => ((P0_1_ k_ ∨ P0_2_ k_ ∨ P1_1_ k_ ∨ P1_2_ k_) ∨ w.heap.size ≤ k_) ∧ some k_ ≠ (.slice br aK.length bv : Value).ownBlock ∧ k_ ≠ ac ∧ k_ ≠ af ∧ k_ ≠ ae) b2 (fa (fz3 HB ai an au) (fa (fo ap) (fa (fb aa) (fa (fb ab) (fb ad))))); replace ao := kn ao hb; replace av := kn av hb; replace ap := kn ap hb; replace aa := kb aa hb; replace ab := kb ab hb; replace ad := kb ad hb; replace HB := be3 HB ai an au hb; (try clear hb); (try clear aY); (try clear b2); obtain ⟨d7, d8, d9, ea, eb, ec⟩ := bz ad; obtain ⟨eF, eG, eH⟩ := Kd.V_slice bJ.out; subst eH; obtain ⟨eI, eJ, eK⟩ := Kd.V_slice bK.out; subst eK))
   refine bodyPost_ret (results_cell_row rfl _ _ ae 67 #[.bool b3, .slice eF b4.length eG, .slice eI b5.length eJ] (0, 0) _ rfl (kp ad.out) Try.underlying67 rfl (by kernel_rfl)) rfl ?_
   exact ⟨_, _, by first | rfl | (simp [errW_none, errW_some] <;> rfl) | (simp [*, errW_none, errW_some] <;> rfl), by exact vf bJ.out, by exact vf bK.out, by repeat (first | (with_reducible first | exact HB.out | apply below_alloc | apply pw_below_drewN | apply below_drew1 | refine below_set ?_ ai.out | refine below_set ?_ an.out | refine below_set ?_ au.out) | exact HB.out)⟩
  ·
   rw [if_neg cm] at H
   have cC : decide (ba < 0) = false := decide_eq_false cm
   clear cm
   obtain ⟨⟨bL, cI⟩, fe, H⟩ := bs H
   (try dsimp -simprocs only at H)
   obtain ⟨⟨b6, b7, b8⟩, ff, H⟩ := bs H
   (try dsimp -simprocs only at H)
   simp only [Option.some.injEq, Prod.mk.injEq] at H
   obtain ⟨rfl, rfl, rfl⟩ := H
   try go_wp2_with (first | ((with_reducible refine gate_dst (N := 26) rfl ?_); refine Kd.N_lit (Kd.slice 48 (Kd.int .u32)) _ 42 ?hg (N' := 26) ?hd (xs := ([l0_2, l1_2] : List (List Int))) (inner := [.slice A0_2 l0_2.length c0_2, .slice A1_2 l1_2.length c1_2]) (ok := (fun k_ => ((P0_1_ k_ ∨ P0_2_ k_ ∨ P1_1_ k_ ∨ P1_2_ k_) ∨ w.heap.size ≤ k_) ∧ k_ ≠ ac ∧ k_ ≠ af ∧ k_ ≠ ae)) (okp := (fun k_ => ((P0_1_ k_ ∨ P0_2_ k_ ∨ P1_1_ k_ ∨ P1_2_ k_) ∨ w.heap.size ≤ k_) ∧ k_ ≠ ac ∧ k_ ≠ af ∧ k_ ≠ ae)) ?hr ?hp (fun _ hk => hk) ((show ∀ k_, dp.heap.size ≤ k_ → (fun k_ => ((P0_1_ k_ ∨ P0_2_ k_ ∨ P1_1_ k_ ∨ P1_2_ k_) ∨ w.heap.size ≤ k_) ∧ k_ ≠ ac ∧ k_ ≠ af ∧ k_ ≠ ae) k_ from fun k_ hk => ⟨(.inr (Nat.le_trans (below_size (bu3 HB.out ai.out an.out au.out)) hk)), Kd.freshB (g := ac) (o := .cells #[.bool a0_0, .slice A0_1 l0_1.length c0_1, .slice A0_2 l0_2.length c0_2] 67 (0, 0)) (ku aa.out) k_ hk, Kd.freshB (g := af) (o := .cells #[.bool a1_0, .slice A1_1 l1_1.length c1_1, .slice A1_2 l1_2.length c1_2] 67 (0, 0)) (ku ab.out) k_ hk, Kd.freshB (g := ae) (o := .cells #[.bool false, .slice none 0 0, .slice none 0 0] 67 (0, 0)) (ku ad.out) k_ hk⟩) _ (Nat.le_refl _)) (Below.refl _ _) (Nat.le_refl _) (by simp) ?_; (case hd => rfl); (case hg => rfl); (case hr => first | (go_simp; done) | (go_simp; rfl)); (case hp => exact (Reps.one (show Kd.FK (Kd.slice 48 (Kd.int .u32)) _ _ l0_2 [.slice A0_2 l0_2.length c0_2] from (Kd.FK_slice_mk (Kd.V_reads' (vy ((fun k_ => ((P0_1_ k_ ∨ P0_2_ k_ ∨ P1_1_ k_ ∨ P1_2_ k_) ∨ w.heap.size ≤ k_) ∧ k_ ≠ ac ∧ k_ ≠ af ∧ k_ ≠ ae)) ag.out)).2.1 (Kd.V_F (vy ((fun k_ => ((P0_1_ k_ ∨ P0_2_ k_ ∨ P1_1_ k_ ∨ P1_2_ k_) ∨ w.heap.size ≤ k_) ∧ k_ ≠ ac ∧ k_ ≠ af ∧ k_ ≠ ae)) ag.out)))) (Reps.one (show Kd.FK (Kd.slice 48 (Kd.int .u32)) _ _ l1_2 [.slice A1_2 l1_2.length c1_2] from (Kd.FK_slice_mk (Kd.V_reads' (vy ((fun k_ => ((P0_1_ k_ ∨ P0_2_ k_ ∨ P1_1_ k_ ∨ P1_2_ k_) ∨ w.heap.size ≤ k_) ∧ k_ ≠ ac ∧ k_ ≠ af ∧ k_ ≠ ae)) ah.out)).2.1 (Kd.V_F (vy ((fun k_ => ((P0_1_ k_ ∨ P0_2_ k_ ∨ P1_1_ k_ ∨ P1_2_ k_) ∨ w.heap.size ≤ k_) ∧ k_ ≠ ac ∧ k_ ≠ af ∧ k_ ≠ ae)) ah.out)))) (Reps.none _ _)))); intro b0 fg a0 hb hg_ hnew_; clear hg_ hnew_; (first | rw [← a5.out] at a0 | (simp only [Int.reduceToNat] at a0; rw [← a5.out] at a0)); replace ak := el ak a0 hb; replace ag := el ag a0 hb; replace al := el al a0 hb; replace ah := el ah a0 hb; replace ao := en ao a0 hb; replace aj := el aj a0 hb; replace av := en av a0 hb; replace aq := el aq a0 hb; have ap := am (Kd.N_lower a0 (below_size (bu3 HB.out ai.out an.out au.out))); replace aa := kb aa hb; replace ab := kb ab hb; replace ad := kb ad hb; replace HB := be3 HB ai an au hb; clear hb a0; obtain ⟨bg, bh, cJ⟩ := Kd.N_slice ap.out; subst cJ) | ((with_reducible refine gate_callee (f := 145) rfl ?_); refine goesL_ (some 27) rfl rfl Try.func145 (by kernel_rfl) rfl #[.slice bg aK.length bh] rfl lu ?_; (with_reducible refine (nat_Mul.calls k _ _ aK aU _ ?side1 ?side2 A5.out).mono ?_); (case side1 => exact cu (Kd.N_reads' ap.out).2.2); (case side2 => exact (Kd.N_reads' ap.out).2.1); rintro e fh ⟨b1, rfl, aY, hb⟩; refine ⟨_, rfl, ?_⟩; replace aY := R_V_base rfl aY; replace ak := kv ak hb; replace ag := kv ag hb; replace al := kv al hb; replace ah := kv ah hb; replace aj := kv aj hb; replace aq := kv aq hb; have aI := ar0 w.heap.size (ok' := fun k_ => ((P0_1_ k_ ∨ P0_2_ k_ ∨ P1_1_ k_ ∨ P1_2_ k_) ∨ w.heap.size ≤ k_) ∧ some k_ ≠ (.slice bg aK.length bh : Value).ownBlock ∧ k_ ≠ ac ∧ k_ ≠ af ∧ k_ ≠ ae) aY (fa (fz3 HB ai an au) (fa (fo ap) (fa (fb aa) (fa (fb ab) (fb ad))))); replace ao := kn ao hb; replace av := kn av hb; replace ap := kn ap hb; replace aa := kb aa hb; replace ab := kb ab hb; replace ad := kb ad hb; replace HB := be3 HB ai an au hb; (try clear hb); (try clear hk); (try clear aY); obtain ⟨cK, cL, cM, cN, cO, cP⟩ := bz aa; obtain ⟨cQ, cR, cS, cT, cU, cV⟩ := bz ab; obtain ⟨b9, ca, cW⟩ := Kd.V_slice aj.out; subst cW; obtain ⟨cb, cc, cX⟩ := Kd.V_slice aq.out; subst cX) | ((with_reducible refine gate_callee (f := 146) rfl ?_); refine goesL_ (some 43) rfl rfl Try.func146 (by kernel_rfl) rfl #[.slice b9 aR.length ca, .slice cb aS.length cc] rfl lu ?_; (with_reducible refine (nat_Cmp.calls k _ _ aR _ _ aS ba _ ?side1 ?side2 ?side3 ?side4 eW.out).mono ?_); (case side1 => exact cu (Kd.V_reads' aj.out).2.2); (case side2 => exact (Kd.V_reads' aj.out).2.1); (case side3 => exact cu (Kd.V_reads' aq.out).2.2); (case side4 => exact (Kd.V_reads' aq.out).2.1); rintro e fi ⟨rfl, hb⟩; refine ⟨_, rfl, ?_⟩; replace ak := kv ak hb; replace ag := kv ag hb; replace al := kv al hb; replace ah := kv ah hb; replace ao := kn ao hb; replace aj := kv aj hb; replace av := kn av hb; replace aq := kv aq hb; replace ap := kn ap hb; replace aI := kv aI hb; replace aa := kb aa hb; replace ab := kb ab hb; replace ad := kb ad hb; replace HB := be3 HB ai an au hb; (try clear hb); (try clear hk)) | ((with_reducible refine gate_callee (f := 185) rfl ?_); refine goesL_ (some 51) rfl rfl Try.func185 (by kernel_rfl) rfl #[.slice b9 aR.length ca, .slice cb aS.length cc] rfl lu ?_; (with_reducible refine (nat_Sub.calls k _ _ aR _ _ aS bL cI _ ?side1 ?side2 ?side3 ?side4 fe.out).mono ?_); (case side1 => exact cu (Kd.V_reads' aj.out).2.2); (case side2 => exact (Kd.V_reads' aj.out).2.1); (case side3 => exact cu (Kd.V_reads' aq.out).2.2); (case side4 => exact (Kd.V_reads' aq.out).2.1); rintro e fj ⟨e0, rfl, aY, hb⟩; refine ⟨_, rfl, ?_⟩; replace ak := kv ak hb; replace ag := kv ag hb; replace al := kv al hb; replace ah := kv ah hb; replace aj := kv aj hb; replace aq := kv aq hb; replace aI := kv aI hb; have bl := ar0 w.heap.size (ok' := fun k_ => ((P0_1_ k_ ∨ P0_2_ k_ ∨ P1_1_ k_ ∨ P1_2_ k_) ∨ w.heap.size ≤ k_) ∧ some k_ ≠ (.slice bg aK.length bh : Value).ownBlock ∧ k_ ≠ ac ∧ k_ ≠ af ∧ k_ ≠ ae) aY (fa (fz3 HB ai an au) (fa (fo ap) (fa (fb aa) (fa (fb ab) (fb ad))))); replace ao := kn ao hb; replace av := kn av hb; replace ap := kn ap hb; replace aa := kb aa hb; replace ab := kb ab hb; replace ad := kb ad hb; replace HB := be3 HB ai an au hb; (try clear hb); (try clear hk); (try clear aY); obtain ⟨cY, cZ, c0, c1, c2, c3⟩ := bz aa; obtain ⟨c4, c5, c7⟩ := Kd.V_slice bl.out; subst c7; obtain ⟨c8, c9, da⟩ := Kd.V_slice aI.out; subst da) | ((with_reducible refine gate_callee (f := 155) rfl ?_); refine goesL_ (some 58) rfl rfl Try.func155 (by kernel_rfl) rfl #[.bool a0_0, .slice c4 bL.length c5, .slice c8 aU.length c9] rfl lu ?_; (with_reducible refine (rational_canonical.calls k a0_0 (fun k_ => (((P0_1_ k_ ∨ P0_2_ k_ ∨ P1_1_ k_ ∨ P1_2_ k_) ∨ w.heap.size ≤ k_) ∧ (((some k_ ≠ (.slice bg aK.length bh : Value).ownBlock ∧ (k_ ≠ ac ∧ (k_ ≠ af ∧ k_ ≠ ae))))))) _ _ bL (fun k_ => (((P0_1_ k_ ∨ P0_2_ k_ ∨ P1_1_ k_ ∨ P1_2_ k_) ∨ w.heap.size ≤ k_) ∧ (((some k_ ≠ (.slice bg aK.length bh : Value).ownBlock ∧ (k_ ≠ ac ∧ (k_ ≠ af ∧ k_ ≠ ae))))))) _ _ aU b6 b7 b8 _ ?side1 ?side2 ff.out).mono ?_); (case side1 => exact vz bl.out); (case side2 => exact vz aI.out); rintro e fk ⟨e1, e2, rfl, aY, b2, hb⟩; refine ⟨_, rfl, ?_⟩; replace ak := kv ak hb; replace ag := kv ag hb; replace al := kv al hb; replace ah := kv ah hb; replace aj := kv aj hb; replace aq := kv aq hb; replace aI := kv aI hb; replace bl := kv bl hb; have bM := ar w.heap.size (ok' := fun k_ => ((P0_1_ k_ ∨ P0_2_ k_ ∨ P1_1_ k_ ∨ P1_2_ k_) ∨ w.heap.size ≤ k_) ∧ some k_ ≠ (.slice bg aK.length bh : Value).ownBlock ∧ k_ ≠ ac ∧ k_ ≠ af ∧ k_ ≠ ae) aY (fa (fz3 HB ai an au) (fa (fo ap) (fa (fb aa) (fa (fb ab) (fb ad))))); have bN := ar w.heap.size (ok' := fun k_ => ((P0_1_ k_ ∨ P0_2_ k_ ∨ P1_1_ k_ ∨ P1_2_ k_) ∨ w.heap.size ≤ k_) ∧ some k_ ≠ (.slice bg aK.length bh : Value).ownBlock ∧ k_ ≠ ac ∧ k_ ≠ af ∧ k_ ≠ ae) b2 (fa (fz3 HB ai an au) (fa (fo ap) (fa (fb aa) (fa (fb ab) (fb ad))))); replace ao := kn ao hb; replace av := kn av hb; replace ap := kn ap hb; replace aa := kb aa hb; replace ab := kb ab hb; replace ad := kb ad hb; replace HB := be3 HB ai an au hb; (try clear hb); (try clear hk); (try clear aY); (try clear b2); obtain ⟨db, dc, dd, de, df, dg⟩ := bz ad; obtain ⟨dh, di, dj⟩ := Kd.V_slice bM.out; subst dj; obtain ⟨dk, dl, dm⟩ := Kd.V_slice bN.out; subst dm))
   refine bodyPost_ret (results_cell_row rfl _ _ ae 67 #[.bool b6, .slice dh b7.length di, .slice dk b8.length dl] (0, 0) _ rfl (kp ad.out) Try.underlying67 rfl (by kernel_rfl)) rfl ?_
   exact ⟨_, _, by first | rfl | (simp [errW_none, errW_some] <;> rfl) | (simp [*, errW_none, errW_some] <;> rfl), by exact vf bM.out, by exact vf bN.out, by repeat (first | (with_reducible first | exact HB.out | apply below_alloc | apply pw_below_drewN | apply below_drew1 | refine below_set ?_ ai.out | refine below_set ?_ an.out | refine below_set ?_ au.out) | exact HB.out)⟩
def rational_Add.l0 : Nat → List (S67) → Int → Int → Bool → List Int → List Int → Option (Bool × List Int × List Int)
 | 0, _, _, _, _, _, _ => none
 | k + 1, x8, x9, x10, x1689000, x1689001, x1689002 => if x10 < x9 then (if 0 ≤ x10 then (if x10 < (x8.length : Int) then ((rational_Trim.f k ((rd_T67 x8 x10).f0) ((rd_T67 x8 x10).f1) ((rd_T67 x8 x10).f2)).bind fun bt1691 => ((rational_plus.f k x1689000 x1689001 x1689002 bt1691.1 bt1691.2.1 bt1691.2.2).bind fun bt1698 => (rational_Add.l0 k x8 x9 (wrap64 (x10 + 1)) bt1698.1 bt1698.2.1 bt1698.2.2))) else (none)) else (none)) else (some (x1689000, x1689001, x1689002))
def rational_Add.f (k : Nat) (l0 : List (S67)) : Option (Bool × List Int × List Int) := (rational_one.f).bind fun t1685 => (rational_Add.l0 k l0 (l0.length : Int) 0 false ([] : List Int) t1685)
theorem rational_Add.calls (k : Nat) (P0_ : Nat → Prop) (A0 : Option Addr) (c0 : Nat) (l0 : List (S67)) (r1 : Bool) (r2 : List Int) (r3 : List Int) (w : World) (hs0 : Kd.V k67 67 w w.heap.size (fun k_ => P0_ k_) (.slice A0 l0.length c0) l0) (h : rational_Add.f k l0 = some (r1, r2, r3)) :
 Calls Try.prog 98 #[.slice A0 l0.length c0] w fun e w' => ∃ v1_ v2_ : Value, e = .returned (.agg #[.bool r1, v1_, v2_]) ∧ Kd.V (Kd.int .u32) 48 w' w.heap.size (fun k_ => (P0_ k_ ∨ w.heap.size ≤ k_)) v1_ r2 ∧ Kd.V (Kd.int .u32) 48 w' w.heap.size (fun k_ => (P0_ k_ ∨ w.heap.size ≤ k_)) v2_ r3 ∧ Below w.heap.size w w' := by
 have cp := Try.underlying67
 have a2 := am (show Kd.V k67 67 w w.heap.size (fun k_ => (P0_ k_ ∨ w.heap.size ≤ k_)) (.slice A0 l0.length c0) l0 from Kd.V_mono hs0 (fun k_ hk => .inl hk))
 have HB := am (Below.refl w.heap.size w)
 have H : ((rational_one.f).bind fun aK => (rational_Add.l0 k l0 (l0.length : Int) 0 false ([] : List Int) aK)) = some (r1, r2, r3) := h
 clear h
 obtain ⟨aK, A2, H⟩ := bs H
 (try dsimp -simprocs only at H)
 have H' := am H
 clear H
 go_enter Try.func98, Try.ntmps98
 go_wp2_with (first | ((with_reducible refine gate_dst (N := 2) rfl ?_); refine box_event ?hg (N := 2) ?hd (cs := #[.bool false, .slice none 0 0, .slice none 0 0]) (t := 67) ?hr ?_; (case hd => rfl); (case hg => rfl); (case hr => first | (go_simp; done) | (go_simp; rfl)); intro ak hg w3 hbox hb; replace a2 := ke a2 hg hb; have af := am (hbox); have bM := ng hg (bu HB.out); have av := ng hg (bu HB.out); replace HB := be HB hb; clear hb hbox hg) | ((with_reducible refine gate_callee (f := 161) rfl ?_); refine goesL_ (some 6) rfl rfl Try.func161 (by kernel_rfl) rfl #[] rfl lu ?_; (with_reducible refine (rational_one.calls  aK _ A2.out).mono ?_); rintro e w4 ⟨cc, rfl, aY, hb⟩; refine ⟨_, rfl, ?_⟩; replace aY := R_V_base rfl aY; replace a2 := kv a2 hb; have aH := ar0 w.heap.size (ok' := fun k_ => (P0_ k_ ∨ w.heap.size ≤ k_) ∧ k_ ≠ ak) aY (fa (fz1 HB av) (fb af)); replace af := kb af hb; replace HB := be1 HB av hb; (try clear hb); (try clear aY); obtain ⟨cq, cr, ct⟩ := Kd.V_slice aH.out; subst ct) | ((with_reducible refine gate_dst (N := 3) rfl ?_); refine box_event ?hg (N := 3) ?hd (cs := #[.bool false, .slice none 0 0, .slice none 0 0]) (t := 67) ?hr ?_; (case hd => rfl); (case hg => rfl); (case hr => first | (go_simp; done) | (go_simp; rfl)); intro ag hg w6 hbox hb; replace a2 := ke a2 hg hb; replace aH := ke aH hg hb; have ac := am (hbox); have bN := ng hg (bu1 HB.out av.out); have az := ng hg (bu1 HB.out av.out); replace HB := be1 HB av hb; have ah := nl hg af; have aA := nr hg af; replace af := kb af hb; clear hb hbox hg; have cv := aA.out; have cw := ah.out; obtain ⟨a3, a4, a5, a6, a7, a8⟩ := bz ac))
 go_loopg [10] k (fun kq cx w' => ∃ (aa : Int) (ao : Bool) (ap : List Int) (aj : List Int) (u1689001 : Value) (u1689002 : Value), cx = .int .i64 aa ∧ Aside0 (rational_Add.l0 kq l0 (l0.length : Int) aa ao ap aj = some (r1, r2, r3)) ∧ Aside0 (kq ≤ k) ∧ Aside0 (Kd.V k67 67 w' w.heap.size (fun k_ => (P0_ k_ ∨ w.heap.size ≤ k_) ∧ k_ ≠ ak ∧ k_ ≠ ag) (.slice A0 l0.length c0) l0) ∧ Aside0 (Kd.V (Kd.int .u32) 48 w' w.heap.size (fun k_ => (P0_ k_ ∨ w.heap.size ≤ k_) ∧ k_ ≠ ak ∧ k_ ≠ ag) u1689001 ap) ∧ Aside0 (Kd.V (Kd.int .u32) 48 w' w.heap.size (fun k_ => (P0_ k_ ∨ w.heap.size ≤ k_) ∧ k_ ≠ ak ∧ k_ ≠ ag) u1689002 aj) ∧ Aside0 (w'.heap[ak]? = some (.cells #[.bool false, (.slice none 0 0), (.slice none 0 0)] 67 (0, 0))) ∧ Aside0 (w'.heap[ag]? = some (.cells #[.bool ao, u1689001, u1689002] 67 (0, 0))) ∧ Aside0 (Below w.heap.size w w'))
 case atStart => exact ⟨(0), (false), (([] : List Int)), (aK), (.slice none 0 0), (.slice cq aK.length cr), (by first | rfl | (simp; done) | (simp [*]; done)), H', ⟨Nat.le_refl _⟩, ⟨by exact vf a2.out⟩, ⟨Kd.V_nil _ _ _ _ _⟩, ⟨by exact vf aH.out⟩, ⟨by (with_reducible repeat (first | refine blk_drewN ?_ _ | refine blk_drew ?_ | refine blk_alloc ?_ _)); refine blk_far ?_ ah.out _; (with_reducible repeat (first | refine blk_drewN ?_ _ | refine blk_drew ?_ | refine blk_alloc ?_ _)); refine blk_far ?_ ah.out _; (with_reducible repeat (first | refine blk_drewN ?_ _ | refine blk_drew ?_ | refine blk_alloc ?_ _)); refine blk_far ?_ ah.out _; (with_reducible repeat (first | refine blk_drewN ?_ _ | refine blk_drew ?_ | refine blk_alloc ?_ _)); exact af.out⟩, ⟨by (with_reducible repeat (first | refine blk_drewN ?_ _ | refine blk_drew ?_ | refine blk_alloc ?_ _)); refine blk_put (cs := #[.bool false, .slice none 0 0, .slice none 0 0]) ?_ 2 _ rfl; (with_reducible repeat (first | refine blk_drewN ?_ _ | refine blk_drew ?_ | refine blk_alloc ?_ _)); refine blk_put (cs := #[.bool false, .slice none 0 0, .slice none 0 0]) ?_ 1 _ rfl; (with_reducible repeat (first | refine blk_drewN ?_ _ | refine blk_drew ?_ | refine blk_alloc ?_ _)); refine blk_put (cs := #[.bool false, .slice none 0 0, .slice none 0 0]) ?_ 0 _ rfl; (with_reducible repeat (first | refine blk_drewN ?_ _ | refine blk_drew ?_ | refine blk_alloc ?_ _)); exact ac.out⟩, ⟨by repeat (first | (with_reducible first | exact HB.out | apply below_alloc | apply pw_below_drewN | apply below_drew1 | refine below_set ?_ av.out | refine below_set ?_ az.out) | exact HB.out)⟩⟩
 case round =>
  clear H'
  try clear c1
  try clear p2
  try clear c7
  try clear a3
  try clear a4
  try clear a5
  try clear a6
  try clear a7
  try clear a8
  obtain ⟨aa, ao, ap, aj, u1689001, u1689002, rfl, HA, HK1, aE, ad, ae, af, ac, HB⟩ := hrel
  cases gk with
  | zero => exact absurd HA.out (by simp [rational_Add.l0])
  | succ k1 =>
   have H := HA.out
   clear HA
   simp only [rational_Add.l0] at H
   by_cases c9 : aa < (l0.length : Int)
   ·
    rw [if_pos c9] at H
    have bO : decide (aa < (l0.length : Int)) = true := decide_eq_true c9
    clear c9
    by_cases bn : 0 ≤ aa
    ·
     rw [if_pos bn] at H
     have cd : decide (0 ≤ aa) = true := decide_eq_true bn
     clear bn
     by_cases bo : aa < (l0.length : Int)
     ·
      rw [if_pos bo] at H
      have ce : decide (aa < (l0.length : Int)) = true := decide_eq_true bo
      clear bo
      obtain ⟨⟨aO, aP, aQ⟩, cy, H⟩ := bs H
      (try dsimp -simprocs only at H)
      obtain ⟨⟨aM, aN, aR⟩, cz, H⟩ := bs H
      (try dsimp -simprocs only at H)
      have H' := am H
      clear H
      have p1689 : 0 ≤ (aa : Int) := of_decide_eq_true (by first | (with_reducible assumption) | assumption)
      have q1689 : aa < (l0.length : Int) := of_decide_eq_true (by first | (with_reducible assumption) | assumption)
      obtain ⟨ad1689, aq, au, aw, ax, e1689, a9, aS, aT, hl1689_1, hi1689_1, hl1689_2, hi1689_2⟩ := at_T67 (Kd.V_reads' aE.out).2.2 aa p1689 q1689
      cases e1689
      obtain ⟨ce1689, hce1689, hMe1689, hcc1689⟩ := Kd.V_get aE.out z67 aa p1689 (by first | exact q1689 | exact of_decide_eq_true (by first | (with_reducible assumption) | assumption) | (have e_ := (Kd.V_reads' aE.out).1; omega))
      obtain ⟨ua1689_1, uc1689_1, ua1689_2, uc1689_2, rfl, ul1689_1, ge1689_1, ul1689_2, ge1689_2⟩ := k67_openF hMe1689
      have hv1689_1 := hcc1689 1 _ rfl
      rw [add_field _ _ 1 (by omega)] at hv1689_1
      replace hv1689_1 := Option.some.inj (hv1689_1.symm.trans aS)
      injection hv1689_1 with hva_ hvn_ hvc_
      rw [hva_] at ge1689_1
      rw [hvc_] at ul1689_1
      have al := am (show Kd.V (Kd.int .u32) 48 _ w.heap.size _ _ ((rd_T67 l0 aa).f1) from Kd.V_mk ul1689_1 ge1689_1)
      clear hva_ hvn_ hvc_ ge1689_1 ul1689_1
      have hv1689_2 := hcc1689 2 _ rfl
      rw [add_field _ _ 2 (by omega)] at hv1689_2
      replace hv1689_2 := Option.some.inj (hv1689_2.symm.trans aT)
      injection hv1689_2 with hva_ hvn_ hvc_
      rw [hva_] at ge1689_2
      rw [hvc_] at ul1689_2
      have an := am (show Kd.V (Kd.int .u32) 48 _ w.heap.size _ _ ((rd_T67 l0 aa).f2) from Kd.V_mk ul1689_2 ge1689_2)
      clear hva_ hvn_ hvc_ ge1689_2 ul1689_2
      clear hcc1689 hce1689
      have aF := am hi1689_1
      have ba := am hl1689_1
      clear hi1689_1 hl1689_1
      have aG := am hi1689_2
      have bb := am hl1689_2
      clear hi1689_2 hl1689_2
      replace p1689 := eq_true p1689
      replace q1689 := eq_true q1689
      try go_wp2_with (first | ((with_reducible refine gate_dst (N := 5) rfl ?_); refine box_event ?hg (N := 5) ?hd (cs := #[.bool false, .slice none 0 0, .slice none 0 0]) (t := 67) ?hr ?_; (case hd => rfl); (case hg => rfl); (case hr => first | (go_simp; done) | (go_simp; rfl)); intro ab hg aZ hbox hb; replace aE := ke aE hg hb; replace ad := ke ad hg hb; replace ae := ke ae hg hb; replace al := ke al hg hb; replace an := ke an hg hb; replace aF := am (Kd.C_below (by repeat (first | (with_reducible exact aF.out) | (with_reducible refine Kd.C_alloc ?_ _) | (with_reducible refine Kd.C_drewN ?_ _) | (with_reducible refine Kd.C_drew ?_) | exact aF.out)) hb); replace aG := am (Kd.C_below (by repeat (first | (with_reducible exact aG.out) | (with_reducible refine Kd.C_alloc ?_ _) | (with_reducible refine Kd.C_drewN ?_ _) | (with_reducible refine Kd.C_drew ?_) | exact aG.out)) hb); have ai := am (hbox); have bP := ng hg (bu2 HB.out av.out az.out); have aD := ng hg (bu2 HB.out av.out az.out); replace HB := be2 HB av az hb; have aB := nl hg af; have aL := nr hg af; replace af := kb af hb; have ay := nl hg ac; have aC := nr hg ac; replace ac := kb ac hb; clear hb hbox hg; have cf := aL.out; have cg := aB.out; have ch := aC.out; have ci := ay.out; obtain ⟨bp, bq, br, bv, bw, bx⟩ := bz ai))
      have bQ : Aside0 (Kd.V k67 67 (((aZ.setCell ⟨ab, 0, none⟩ (.bool ((rd_T67 l0 aa).f0))).setCell ⟨ab, 1, none⟩ (.slice aq ((rd_T67 l0 aa).f1).length au)).setCell ⟨ab, 2, none⟩ (.slice aw ((rd_T67 l0 aa).f2).length ax)) w.heap.size (fun k_ => (P0_ k_ ∨ w.heap.size ≤ k_) ∧ k_ ≠ ak ∧ k_ ≠ ag ∧ k_ ≠ ab) (.slice (some ad1689) l0.length c0) l0) := ⟨by exact vf aE.out⟩
      have bR : Aside0 (Kd.V (Kd.int .u32) 48 (((aZ.setCell ⟨ab, 0, none⟩ (.bool ((rd_T67 l0 aa).f0))).setCell ⟨ab, 1, none⟩ (.slice aq ((rd_T67 l0 aa).f1).length au)).setCell ⟨ab, 2, none⟩ (.slice aw ((rd_T67 l0 aa).f2).length ax)) w.heap.size (fun k_ => (P0_ k_ ∨ w.heap.size ≤ k_) ∧ k_ ≠ ak ∧ k_ ≠ ag ∧ k_ ≠ ab) u1689001 ap) := ⟨by exact vf ad.out⟩
      have bS : Aside0 (Kd.V (Kd.int .u32) 48 (((aZ.setCell ⟨ab, 0, none⟩ (.bool ((rd_T67 l0 aa).f0))).setCell ⟨ab, 1, none⟩ (.slice aq ((rd_T67 l0 aa).f1).length au)).setCell ⟨ab, 2, none⟩ (.slice aw ((rd_T67 l0 aa).f2).length ax)) w.heap.size (fun k_ => (P0_ k_ ∨ w.heap.size ≤ k_) ∧ k_ ≠ ak ∧ k_ ≠ ag ∧ k_ ≠ ab) u1689002 aj) := ⟨by exact vf ae.out⟩
      have bT : Aside0 (Kd.V (Kd.int .u32) 48 (((aZ.setCell ⟨ab, 0, none⟩ (.bool ((rd_T67 l0 aa).f0))).setCell ⟨ab, 1, none⟩ (.slice aq ((rd_T67 l0 aa).f1).length au)).setCell ⟨ab, 2, none⟩ (.slice aw ((rd_T67 l0 aa).f2).length ax)) w.heap.size (fun k_ => (P0_ k_ ∨ w.heap.size ≤ k_) ∧ k_ ≠ ak ∧ k_ ≠ ag ∧ k_ ≠ ab) (.slice aq ((rd_T67 l0 aa).f1).length au) ((rd_T67 l0 aa).f1)) := ⟨by exact vf al.out⟩
      have bU : Aside0 (Kd.V (Kd.int .u32) 48 (((aZ.setCell ⟨ab, 0, none⟩ (.bool ((rd_T67 l0 aa).f0))).setCell ⟨ab, 1, none⟩ (.slice aq ((rd_T67 l0 aa).f1).length au)).setCell ⟨ab, 2, none⟩ (.slice aw ((rd_T67 l0 aa).f2).length ax)) w.heap.size (fun k_ => (P0_ k_ ∨ w.heap.size ≤ k_) ∧ k_ ≠ ak ∧ k_ ≠ ag ∧ k_ ≠ ab) (.slice aw ((rd_T67 l0 aa).f2).length ax) ((rd_T67 l0 aa).f2)) := ⟨by exact vf an.out⟩
      have bV : Aside0 ((((aZ.setCell ⟨ab, 0, none⟩ (.bool ((rd_T67 l0 aa).f0))).setCell ⟨ab, 1, none⟩ (.slice aq ((rd_T67 l0 aa).f1).length au)).setCell ⟨ab, 2, none⟩ (.slice aw ((rd_T67 l0 aa).f2).length ax)).heap[ak]? = some (.cells #[.bool false, .slice none 0 0, .slice none 0 0] 67 (0, 0))) := ⟨by (with_reducible repeat (first | refine blk_drewN ?_ _ | refine blk_drew ?_ | refine blk_alloc ?_ _)); refine blk_far ?_ aB.out _; (with_reducible repeat (first | refine blk_drewN ?_ _ | refine blk_drew ?_ | refine blk_alloc ?_ _)); refine blk_far ?_ aB.out _; (with_reducible repeat (first | refine blk_drewN ?_ _ | refine blk_drew ?_ | refine blk_alloc ?_ _)); refine blk_far ?_ aB.out _; (with_reducible repeat (first | refine blk_drewN ?_ _ | refine blk_drew ?_ | refine blk_alloc ?_ _)); exact af.out⟩
      have bW : Aside0 ((((aZ.setCell ⟨ab, 0, none⟩ (.bool ((rd_T67 l0 aa).f0))).setCell ⟨ab, 1, none⟩ (.slice aq ((rd_T67 l0 aa).f1).length au)).setCell ⟨ab, 2, none⟩ (.slice aw ((rd_T67 l0 aa).f2).length ax)).heap[ag]? = some (.cells #[.bool ao, u1689001, u1689002] 67 (0, 0))) := ⟨by (with_reducible repeat (first | refine blk_drewN ?_ _ | refine blk_drew ?_ | refine blk_alloc ?_ _)); refine blk_far ?_ ay.out _; (with_reducible repeat (first | refine blk_drewN ?_ _ | refine blk_drew ?_ | refine blk_alloc ?_ _)); refine blk_far ?_ ay.out _; (with_reducible repeat (first | refine blk_drewN ?_ _ | refine blk_drew ?_ | refine blk_alloc ?_ _)); refine blk_far ?_ ay.out _; (with_reducible repeat (first | refine blk_drewN ?_ _ | refine blk_drew ?_ | refine blk_alloc ?_ _)); exact ac.out⟩
      have bX : Aside0 ((((aZ.setCell ⟨ab, 0, none⟩ (.bool ((rd_T67 l0 aa).f0))).setCell ⟨ab, 1, none⟩ (.slice aq ((rd_T67 l0 aa).f1).length au)).setCell ⟨ab, 2, none⟩ (.slice aw ((rd_T67 l0 aa).f2).length ax)).heap[ab]? = some (.cells #[.bool ((rd_T67 l0 aa).f0), .slice aq ((rd_T67 l0 aa).f1).length au, .slice aw ((rd_T67 l0 aa).f2).length ax] 67 (0, 0))) := ⟨by (with_reducible repeat (first | refine blk_drewN ?_ _ | refine blk_drew ?_ | refine blk_alloc ?_ _)); refine blk_put (cs := #[.bool ((rd_T67 l0 aa).f0), .slice aq ((rd_T67 l0 aa).f1).length au, .slice none 0 0]) ?_ 2 _ rfl; (with_reducible repeat (first | refine blk_drewN ?_ _ | refine blk_drew ?_ | refine blk_alloc ?_ _)); refine blk_put (cs := #[.bool ((rd_T67 l0 aa).f0), .slice none 0 0, .slice none 0 0]) ?_ 1 _ rfl; (with_reducible repeat (first | refine blk_drewN ?_ _ | refine blk_drew ?_ | refine blk_alloc ?_ _)); refine blk_put (cs := #[.bool false, .slice none 0 0, .slice none 0 0]) ?_ 0 _ rfl; (with_reducible repeat (first | refine blk_drewN ?_ _ | refine blk_drew ?_ | refine blk_alloc ?_ _)); exact ai.out⟩
      have bY : Aside0 (Below w.heap.size w (((aZ.setCell ⟨ab, 0, none⟩ (.bool ((rd_T67 l0 aa).f0))).setCell ⟨ab, 1, none⟩ (.slice aq ((rd_T67 l0 aa).f1).length au)).setCell ⟨ab, 2, none⟩ (.slice aw ((rd_T67 l0 aa).f2).length ax))) := ⟨by repeat (first | (with_reducible first | exact HB.out | apply below_alloc | apply pw_below_drewN | apply below_drew1 | refine below_set ?_ av.out | refine below_set ?_ az.out | refine below_set ?_ aD.out) | exact HB.out)⟩
      (try clear aE)
      (try clear ad)
      (try clear ae)
      (try clear al)
      (try clear an)
      (try clear af)
      (try clear ac)
      (try clear ai)
      (try clear HB)
      generalize (((aZ.setCell ⟨ab, 0, none⟩ (.bool ((rd_T67 l0 aa).f0))).setCell ⟨ab, 1, none⟩ (.slice aq ((rd_T67 l0 aa).f1).length au)).setCell ⟨ab, 2, none⟩ (.slice aw ((rd_T67 l0 aa).f2).length ax)) = cA at bQ bR bS bT bU bV bW bX bY ⊢
      have aE := bQ
      have ad := bR
      have ae := bS
      have al := bT
      have an := bU
      have af := bV
      have ac := bW
      have ai := bX
      have HB := bY
      clear bQ bR bS bT bU bV bW bX bY
      replace aE := am (Kd.V_drew aE.out)
      replace ad := am (Kd.V_drew ad.out)
      replace ae := am (Kd.V_drew ae.out)
      replace al := am (Kd.V_drew al.out)
      replace an := am (Kd.V_drew an.out)
      replace af := am (blk_drew af.out)
      replace ac := am (blk_drew ac.out)
      replace ai := am (blk_drew ai.out)
      replace HB := am (below_drew1 HB.out)
      refine start_ (n := 5) (S := fun w' => w'.cell? ⟨ag, 0, none⟩ = some (.bool ao) ∧ w'.cell? ⟨ag, 1, none⟩ = some (u1689001) ∧ w'.cell? ⟨ag, 2, none⟩ = some (u1689002) ∧ w'.cell? ⟨ab, 0, none⟩ = some (.bool ((rd_T67 l0 aa).f0)) ∧ w'.cell? ⟨ab, 1, none⟩ = some (.slice aq ((rd_T67 l0 aa).f1).length au) ∧ w'.cell? ⟨ab, 2, none⟩ = some (.slice aw ((rd_T67 l0 aa).f2).length ax)) (ds := [4]) #[false, false, false, false, false] (by kernel_rfl) rfl rfl ⟨bc ac 0, bc ac 1, bc ac 2, bc ai 0, bc ai 1, bc ai 2⟩ (fun hHeld => ?_)
      generalize cA.drew = cB at aE ad ae al an af ac ai HB hHeld ⊢
      refine take_ (i := 0) (N := some 14) (v := ?_) (a' := ?_) #[true, false, false, false, false] rfl rfl (by kernel_rfl) (fun _ _ _ h => h) (Or.inl ⟨by rfl, ?_⟩) hHeld ?_ ?_
      rotate_left
      ·
       rintro w' ⟨s0, s1, s2, s3, s4, s5⟩
       go_simp
       with_reducible rfl
      rotate_left
      ·
       simp only [Act.put, List.setIfInBounds_toArray, List.set_cons_zero, List.set_cons_succ, i64_w, i32_w]
       rfl
      refine take_ (i := 1) (N := some 15) (v := ?_) (a' := ?_) #[true, true, false, false, false] rfl rfl (by kernel_rfl) (fun _ _ _ h => h) (Or.inl ⟨by rfl, ?_⟩) hHeld ?_ ?_
      rotate_left
      ·
       rintro w' ⟨s0, s1, s2, s3, s4, s5⟩
       go_simp
       with_reducible rfl
      rotate_left
      ·
       simp only [Act.put, List.setIfInBounds_toArray, List.set_cons_zero, List.set_cons_succ, i64_w, i32_w]
       rfl
      refine one_ (i := 2) (N := some 16) #[true, true, true, false, false] rfl rfl (by kernel_rfl) (by decide) (fun K hK => ?_)
      refine goes_ Try.func87 (by kernel_rfl) rfl #[.agg #[.bool ((rd_T67 l0 aa).f0), .slice aq ((rd_T67 l0 aa).f1).length au, .slice aw ((rd_T67 l0 aa).f2).length ax]] (by rfl) rfl rfl lu ?_
      with_reducible refine (rational_Trim.calls k1 ((rd_T67 l0 aa).f0) (fun k_ => ((P0_ k_ ∨ w.heap.size ≤ k_) ∧ (k_ ≠ ak ∧ (k_ ≠ ag ∧ k_ ≠ ab)))) _ _ ((rd_T67 l0 aa).f1) (fun k_ => ((P0_ k_ ∨ w.heap.size ≤ k_) ∧ (k_ ≠ ak ∧ (k_ ≠ ag ∧ k_ ≠ ab)))) _ _ ((rd_T67 l0 aa).f2) aO aP aQ _ ?side1 ?side2 cy.out).mono ?_
      (case side1 => first | exact al.out | exact vz al.out)
      (case side2 => first | exact an.out | exact vz an.out)
      rintro e cC ⟨cj, ck, rfl, aY, bd, hb⟩
      refine ⟨_, rfl, ?_⟩
      replace aE := kv aE hb
      replace ad := kv ad hb
      replace ae := kv ae hb
      replace al := kv al hb
      replace an := kv an hb
      have aI := ar w.heap.size (ok' := fun k_ => (P0_ k_ ∨ w.heap.size ≤ k_) ∧ k_ ≠ ak ∧ k_ ≠ ag ∧ k_ ≠ ab) aY (fa (fz3 HB av az aD) (fa (fb af) (fa (fb ac) (fb ai))))
      have aJ := ar w.heap.size (ok' := fun k_ => (P0_ k_ ∨ w.heap.size ≤ k_) ∧ k_ ≠ ak ∧ k_ ≠ ag ∧ k_ ≠ ab) bd (fa (fz3 HB av az aD) (fa (fb af) (fa (fb ac) (fb ai))))
      replace af := kb af hb
      replace ac := kb ac hb
      replace ai := kb ai hb
      replace HB := be3 HB av az aD hb
      (try clear hb)
      (try clear hb2)
      (try clear hk)
      (try clear hi)
      (try clear aY)
      (try clear bd)
      obtain ⟨a0, a1, bf⟩ := Kd.V_slice ad.out
      (first | subst bf | (injection bf with f1_ f2_ f3_; have f4_ := f1_.symm; have f5_ := f3_.symm; clear f1_ f2_ f3_; subst f4_; subst f5_))
      obtain ⟨aU, aV, bg⟩ := Kd.V_slice ae.out
      (first | subst bg | (injection bg with f1_ f2_ f3_; have f4_ := f1_.symm; have f5_ := f3_.symm; clear f1_ f2_ f3_; subst f4_; subst f5_))
      obtain ⟨bZ, b0, bh⟩ := Kd.V_slice aI.out
      (first | subst bh | (injection bh with f1_ f2_ f3_; have f4_ := f1_.symm; have f5_ := f3_.symm; clear f1_ f2_ f3_; subst f4_; subst f5_))
      obtain ⟨b1, b2, bi⟩ := Kd.V_slice aJ.out
      (first | subst bi | (injection bi with f1_ f2_ f3_; have f4_ := f1_.symm; have f5_ := f3_.symm; clear f1_ f2_ f3_; subst f4_; subst f5_))
      refine hK.out _ _ ⟨bc ac 0, bc ac 1, bc ac 2, bc ai 0, bc ai 1, bc ai 2⟩ (fun hHeld => ?_)
      clear hK K
      refine nq 16 ?_
      refine one_ (i := 3) (N := some 17) #[true, true, true, true, false] rfl rfl (by kernel_rfl) (by decide) (fun K hK => ?_)
      refine goes_ Try.func165 (by kernel_rfl) rfl #[.agg #[.bool ao, .slice a0 ap.length a1, .slice aU aj.length aV], .agg #[.bool aO, .slice bZ aP.length b0, .slice b1 aQ.length b2]] (by rfl) rfl rfl lu ?_
      with_reducible refine (rational_plus.calls k1 ao (fun k_ => ((P0_ k_ ∨ w.heap.size ≤ k_) ∧ (k_ ≠ ak ∧ (k_ ≠ ag ∧ k_ ≠ ab)))) _ _ ap (fun k_ => ((P0_ k_ ∨ w.heap.size ≤ k_) ∧ (k_ ≠ ak ∧ (k_ ≠ ag ∧ k_ ≠ ab)))) _ _ aj aO (fun k_ => ((P0_ k_ ∨ w.heap.size ≤ k_) ∧ (k_ ≠ ak ∧ (k_ ≠ ag ∧ k_ ≠ ab)))) _ _ aP (fun k_ => ((P0_ k_ ∨ w.heap.size ≤ k_) ∧ (k_ ≠ ak ∧ (k_ ≠ ag ∧ k_ ≠ ab)))) _ _ aQ aM aN aR _ ?side1 ?side2 ?side3 ?side4 cz.out).mono ?_
      (case side1 => exact vz ad.out)
      (case side2 => exact vz ae.out)
      (case side3 => exact vz aI.out)
      (case side4 => exact vz aJ.out)
      rintro e b3 ⟨cl, cm, rfl, aY, bd, hb⟩
      refine ⟨_, rfl, ?_⟩
      replace aE := kv aE hb
      replace ad := kv ad hb
      replace ae := kv ae hb
      replace al := kv al hb
      replace an := kv an hb
      replace aI := kv aI hb
      replace aJ := kv aJ hb
      have aW := ar w.heap.size (ok' := fun k_ => (P0_ k_ ∨ w.heap.size ≤ k_) ∧ k_ ≠ ak ∧ k_ ≠ ag ∧ k_ ≠ ab) aY (fa (fz3 HB av az aD) (fa (fb af) (fa (fb ac) (fb ai))))
      have aX := ar w.heap.size (ok' := fun k_ => (P0_ k_ ∨ w.heap.size ≤ k_) ∧ k_ ≠ ak ∧ k_ ≠ ag ∧ k_ ≠ ab) bd (fa (fz3 HB av az aD) (fa (fb af) (fa (fb ac) (fb ai))))
      replace af := kb af hb
      replace ac := kb ac hb
      replace ai := kb ai hb
      replace HB := be3 HB av az aD hb
      (try clear hb)
      (try clear hb2)
      (try clear hk)
      (try clear hi)
      (try clear aY)
      (try clear bd)
      obtain ⟨bj, bk, bl⟩ := Kd.V_slice aW.out
      (first | subst bl | (injection bl with f1_ f2_ f3_; have f4_ := f1_.symm; have f5_ := f3_.symm; clear f1_ f2_ f3_; subst f4_; subst f5_))
      obtain ⟨b4, b5, bm⟩ := Kd.V_slice aX.out
      (first | subst bm | (injection bm with f1_ f2_ f3_; have f4_ := f1_.symm; have f5_ := f3_.symm; clear f1_ f2_ f3_; subst f4_; subst f5_))
      refine hK.out _ _ ⟨bc ac 0, bc ac 1, bc ac 2, bc ai 0, bc ai 1, bc ai 2⟩ (fun hHeld => ?_)
      clear hK K
      refine nq 17 ?_
      refine last_ (i := 4) (N := none) #[true, true, true, true, true] rfl rfl (by kernel_rfl) (by decide) (fun K hK => ?_)
      have hs26 : b3.cell? ⟨ag, 0, none⟩ = some (.bool ao) := bc ac 0
      have hfs26 := blk_frozen ac.out 0
      have hns26_0 := ah.out
      have hns26_2 := aC.out
      have hms26_0 := aA.out
      have hms26_2 := ay.out
      have hs28 : b3.cell? ⟨ag, 1, none⟩ = some (.slice a0 ap.length a1) := bc ac 1
      have hfs28 := blk_frozen ac.out 1
      have hns28_0 := ah.out
      have hns28_2 := aC.out
      have hms28_0 := aA.out
      have hms28_2 := ay.out
      have hs30 : b3.cell? ⟨ag, 2, none⟩ = some (.slice aU aj.length aV) := bc ac 2
      have hfs30 := blk_frozen ac.out 2
      have hns30_0 := ah.out
      have hns30_2 := aC.out
      have hms30_0 := aA.out
      have hms30_2 := ay.out
      refine skip_ (w1 := ?_) (by rfl) rfl ?_ ?_
      rotate_left
      ·
       go_simp
       rfl
      refine hK.out _ _ ?_
      clear hK K
      refine done_ (by kernel_rfl) ?_
      try go_wp2
      go_roundg k1
      case measure => have := HK1.out; omega
      case rel => exact ⟨(wrap64 (aa + 1)), (aM), (aN), (aR), (.slice bj aN.length bk), (.slice b4 aR.length b5), (by first | rfl | (simp; done) | (simp [*]; done)), H', ⟨by have := HK1.out; omega⟩, ⟨by exact vf aE.out⟩, ⟨by exact vf aW.out⟩, ⟨by exact vf aX.out⟩, ⟨by (with_reducible repeat (first | refine blk_drewN ?_ _ | refine blk_drew ?_ | refine blk_alloc ?_ _)); refine blk_far ?_ ah.out _; (with_reducible repeat (first | refine blk_drewN ?_ _ | refine blk_drew ?_ | refine blk_alloc ?_ _)); refine blk_far ?_ ah.out _; (with_reducible repeat (first | refine blk_drewN ?_ _ | refine blk_drew ?_ | refine blk_alloc ?_ _)); refine blk_far ?_ ah.out _; (with_reducible repeat (first | refine blk_drewN ?_ _ | refine blk_drew ?_ | refine blk_alloc ?_ _)); exact af.out⟩, ⟨by (with_reducible repeat (first | refine blk_drewN ?_ _ | refine blk_drew ?_ | refine blk_alloc ?_ _)); refine blk_put (cs := #[.bool aM, .slice bj aN.length bk, .slice aU aj.length aV]) ?_ 2 _ rfl; (with_reducible repeat (first | refine blk_drewN ?_ _ | refine blk_drew ?_ | refine blk_alloc ?_ _)); refine blk_put (cs := #[.bool aM, .slice a0 ap.length a1, .slice aU aj.length aV]) ?_ 1 _ rfl; (with_reducible repeat (first | refine blk_drewN ?_ _ | refine blk_drew ?_ | refine blk_alloc ?_ _)); refine blk_put (cs := #[.bool ao, .slice a0 ap.length a1, .slice aU aj.length aV]) ?_ 0 _ rfl; (with_reducible repeat (first | refine blk_drewN ?_ _ | refine blk_drew ?_ | refine blk_alloc ?_ _)); exact ac.out⟩, ⟨by repeat (first | (with_reducible first | exact HB.out | apply below_alloc | apply pw_below_drewN | apply below_drew1 | refine below_set ?_ av.out | refine below_set ?_ az.out | refine below_set ?_ aD.out) | exact HB.out)⟩⟩
     ·
      rw [if_neg bo] at H
      exact absurd H (by simp)
    ·
     rw [if_neg bn] at H
     exact absurd H (by simp)
   ·
    rw [if_neg c9] at H
    have bO : decide (aa < (l0.length : Int)) = false := decide_eq_false c9
    clear c9
    simp only [Option.some.injEq, Prod.mk.injEq] at H
    obtain ⟨rfl, rfl, rfl⟩ := H
    have cn := aA.out
    have co := ah.out
    obtain ⟨bA, bB, bC, bD, bE, bF⟩ := bz ac
    obtain ⟨bG, bH, bI, bJ, bK, bL⟩ := bz af
    obtain ⟨b6, b7, b8⟩ := Kd.V_slice ad.out
    subst b8
    obtain ⟨b9, ca, cb⟩ := Kd.V_slice ae.out
    subst cb
    go_wp2
    refine bodyPost_ret (results_cell_row rfl _ _ ak 67 #[.bool ao, .slice b6 ap.length b7, .slice b9 aj.length ca] (0, 0) _ rfl (kp af.out) Try.underlying67 rfl (by kernel_rfl)) rfl ?_
    exact ⟨_, _, by first | rfl | (simp [errW_none, errW_some] <;> rfl) | (simp [*, errW_none, errW_some] <;> rfl), by exact vf ad.out, by exact vf ae.out, by repeat (first | (with_reducible first | exact HB.out | apply below_alloc | apply pw_below_drewN | apply below_drew1 | refine below_set ?_ av.out | refine below_set ?_ az.out) | exact HB.out)⟩
def codewrightref01_Zero.f (k : Nat) (l0 : List Int) : Option (Bool) := (codewrightref01_Trim.f k l0).bind fun t538 => (some ((t538.length : Int) == 0))
theorem codewrightref01_Zero.calls (k : Nat) (A0 : Option Addr) (c0 : Nat) (l0 : List Int) (r : Bool) (w : World) (hr0 : Kd.C (Kd.int .u32) w A0 l0.length l0) (hc0 : l0.length ≤ c0) (h : codewrightref01_Zero.f k l0 = some r) :
 Calls Try.prog 150 #[.slice A0 l0.length c0] w fun e w' => e = .returned (.bool r) ∧ Below w.heap.size w w' := by
 have ae := am hr0
 have ac := am hc0
 clear hr0 hc0
 have HB := am (Below.refl w.heap.size w)
 have H : ((codewrightref01_Trim.f k l0).bind fun aa => (some ((aa.length : Int) == 0))) = some r := h
 clear h
 obtain ⟨aa, A2, H⟩ := bs H
 replace H : (some ((aa.length : Int) == 0)) = some r := H
 obtain rfl := Option.some.inj H
 go_enter Try.func150, Try.ntmps150
 go_wp2_with (first | ((with_reducible refine gate_callee (f := 144) rfl ?_); refine goesL_ (some 4) rfl rfl Try.func144 (by kernel_rfl) rfl #[.slice A0 l0.length c0] rfl lu ?_; (with_reducible refine (codewrightref01_Trim.calls k _ _ l0 aa _ ?side1 ?side2 A2.out).mono ?_); (case side1 => repeat (first | exact ae.out | (with_reducible refine Kd.C_alloc ?_ _) | (with_reducible refine Kd.C_drewN ?_ _) | (with_reducible refine Kd.C_drew ?_))); (case side2 => first | exact ac.out | exact vz ac.out); rintro e w3 ⟨af, rfl, ad, hb⟩; refine ⟨_, rfl, ?_⟩; have ab := am (Kd.R_lower ad (below_size (bu HB.out))); replace HB := be HB hb; (try clear hb); (try clear ad); obtain ⟨ah, ai, ag⟩ := Kd.R_slice ab.out; subst ag))
 go_ret
 exact ⟨by first | rfl | (simp [errW_none, errW_some] <;> rfl) | (simp [*, errW_none, errW_some] <;> rfl), by repeat (first | (with_reducible first | exact HB.out | apply below_alloc | apply pw_below_drewN | apply below_drew1) | exact HB.out)⟩
def codewrightref01_Sub.l0 : Nat → List Int → List Int → List Int → Int → Int → Option (List Int)
 | 0, _, _, _, _, _ => none
 | k + 1, x0, x1, x5, x6, x7 => if x7 < (x0.length : Int) then ((codewrightref01_limb.f x0 x7).bind fun t1044 => ((codewrightref01_limb.f x1 x7).bind fun t1045 => (if x5.length < 35184372088832 then (codewrightref01_Sub.l0 k x0 x1 (x5 ++ [(Int.tmod (IntKind.u64.wrap ((IntKind.u64.wrap ((IntKind.u64.wrap (t1044 + 4294967296)) - t1045)) - x6)) 4294967296) % 4294967296]) (IntKind.u64.wrap (1 - (IntKind.u64.wrap (Int.tdiv (IntKind.u64.wrap ((IntKind.u64.wrap ((IntKind.u64.wrap (t1044 + 4294967296)) - t1045)) - x6)) 4294967296)))) (wrap64 (x7 + 1))) else (none)))) else ((codewrightref01_Trim.f k x5).bind fun t1049 => (some t1049))
def codewrightref01_Sub.f (k : Nat) (l0 : List Int) (l1 : List Int) : Option (List Int) := codewrightref01_Sub.l0 k l0 l1 ([] : List Int) 0 0
theorem codewrightref01_Sub.calls (k : Nat) (A0 : Option Addr) (c0 : Nat) (l0 : List Int) (A1 : Option Addr) (c1 : Nat) (l1 : List Int) (r : List Int) (w : World) (hr0 : Kd.C (Kd.int .u32) w A0 l0.length l0) (hc0 : l0.length ≤ c0) (hr1 : Kd.C (Kd.int .u32) w A1 l1.length l1) (hc1 : l1.length ≤ c1) (h : codewrightref01_Sub.f k l0 l1 = some r) :
 Calls Try.prog 166 #[.slice A0 l0.length c0, .slice A1 l1.length c1] w fun e w' => ∃ v0_ : Value, e = .returned (v0_) ∧ Kd.R (Kd.int .u32) 48 w' w.heap.size (fun _ => True) v0_ r ∧ Below w.heap.size w w' := by
 have aw := am hr0
 have ap := am hc0
 clear hr0 hc0
 have ax := am hr1
 have aq := am hc1
 clear hr1 hc1
 have HB := am (Below.refl w.heap.size w)
 have H : (codewrightref01_Sub.l0 k l0 l1 ([] : List Int) 0 0) = some r := h
 clear h
 have H' := am H
 clear H
 go_enter Try.func166, Try.ntmps166
 go_wp2
 go_loopg [5, 6, 7] k (fun kq v5 v6 v7 w' => ∃ (ae : List Int) (af : Int) (aa : Int), v6 = .int .u64 af ∧ v7 = .int .i64 aa ∧ Aside0 (codewrightref01_Sub.l0 kq l0 l1 ae af aa = some r) ∧ Aside0 (kq ≤ k) ∧ Aside0 (Kd.R (Kd.int .u32) 48 w' w.heap.size (fun _ => True) v5 ae) ∧ Aside0 (Below w.heap.size w w'))
 case atStart => exact ⟨(([] : List Int)), (0), (0), (by first | rfl | (simp; done) | (simp [*]; done)), (by first | rfl | (simp; done) | (simp [*]; done)), H', ⟨Nat.le_refl _⟩, ⟨by first | exact Kd.R_nil _ _ _ _ _ | exact Kd.N_nil _ _ _ _ _ | exact Kd.V_nil _ _ _ _ _ | exact Kd.Q_nil _ _ _ _ _ | exact Kd.S_nil _ _ _ _ _⟩, ⟨by repeat (first | (with_reducible first | exact HB.out | apply below_alloc | apply pw_below_drewN | apply below_drew1) | exact HB.out)⟩⟩
 case round =>
  clear H'
  try clear c1
  try clear p2
  obtain ⟨ae, af, aa, rfl, rfl, HA, HK1, ag, HB⟩ := hrel
  cases gk with
  | zero => exact absurd HA.out (by simp [codewrightref01_Sub.l0])
  | succ k1 =>
   have H := HA.out
   clear HA
   simp only [codewrightref01_Sub.l0] at H
   by_cases c3 : aa < (l0.length : Int)
   ·
    rw [if_pos c3] at H
    have an : decide (aa < (l0.length : Int)) = true := decide_eq_true c3
    clear c3
    obtain ⟨ac, A4, H⟩ := bs H
    (try dsimp -simprocs only at H)
    obtain ⟨ad, A5, H⟩ := bs H
    (try dsimp -simprocs only at H)
    by_cases c6 : ae.length < 35184372088832
    ·
     rw [if_pos c6] at H
     have LMc6 := am c6
     clear c6
     obtain ⟨ah, ab⟩ : ∃ y_ : List Int, y_ = (ae ++ [(Int.tmod (IntKind.u64.wrap ((IntKind.u64.wrap ((IntKind.u64.wrap (ac + 4294967296)) - ad)) - af)) 4294967296) % 4294967296]) := ⟨_, rfl⟩
     replace H : (codewrightref01_Sub.l0 k1 l0 l1 ah (IntKind.u64.wrap (1 - (IntKind.u64.wrap (Int.tdiv (IntKind.u64.wrap ((IntKind.u64.wrap ((IntKind.u64.wrap (ac + 4294967296)) - ad)) - af)) 4294967296)))) (wrap64 (aa + 1))) = some r := by first | (rw [ab]; with_reducible exact H) | (have H2_ := (Option.bind_some _ _).symm.trans H; rw [ab]; with_reducible exact H2_) | (have H2_ := (Option.bind_some _ _).symm.trans H; with_reducible exact H2_) | with_reducible exact H | (rw [ab]; exact H) | exact H
     have aj := am ab
     clear ab
     have H' := am H
     clear H
     go_wp2_with (first | ((with_reducible refine gate_callee (f := 143) rfl ?_); refine goesL_ (some 17) rfl rfl Try.func143 (by kernel_rfl) rfl #[.slice A0 l0.length c0, .int .i64 aa] rfl lu ?_; (with_reducible refine (codewrightref01_limb.calls _ _ l0 aa ac _ ?side1 ?side2 A4.out).mono ?_); (case side1 => repeat (first | exact (Kd.C_below aw.out HB.out) | (with_reducible refine Kd.C_alloc ?_ _) | (with_reducible refine Kd.C_drewN ?_ _) | (with_reducible refine Kd.C_drew ?_))); (case side2 => first | exact ap.out | exact vz ap.out); rintro e w' ⟨rfl, ⟨nd, rfl⟩⟩; refine ⟨_, rfl, ?_⟩) | ((with_reducible refine gate_callee (f := 143) rfl ?_); refine goesL_ (some 21) rfl rfl Try.func143 (by kernel_rfl) rfl #[.slice A1 l1.length c1, .int .i64 aa] rfl lu ?_; (with_reducible refine (codewrightref01_limb.calls _ _ l1 aa ad _ ?side1 ?side2 A5.out).mono ?_); (case side1 => repeat (first | exact (Kd.C_below ax.out (bu HB.out)) | (with_reducible refine Kd.C_alloc ?_ _) | (with_reducible refine Kd.C_drewN ?_ _) | (with_reducible refine Kd.C_drew ?_))); (case side2 => first | exact aq.out | exact vz aq.out); rintro e w' ⟨rfl, ⟨nd, rfl⟩⟩; refine ⟨_, rfl, ?_⟩) | ((with_reducible refine gate_builtin (b := .append) (xs := #[.tmp 25, .tmp 29]) rfl ?_); at_builtin; refine Kd.R_append (Kd.int .u32) (w0 := w) w.heap.size rfl (.tmp 25) (.tmp 29) 42 48 (.int .u32 0) 4 rfl Try.underlying42 info48 rfl (by decide) (by omega) u5 ae ((Int.tmod (IntKind.u64.wrap ((IntKind.u64.wrap ((IntKind.u64.wrap (ac + 4294967296)) - ad)) - af)) 4294967296) % 4294967296) [.int .u32 ((Int.tmod (IntKind.u64.wrap ((IntKind.u64.wrap ((IntKind.u64.wrap (ac + 4294967296)) - ad)) - af)) 4294967296) % 4294967296)] (fun _ => True) (fun _ => False) rfl rfl ?aP (fun _ hk => hk.elim) ?aF ?aO ?aB ?aS ?aL ?_; (case aP => exact rfl); (case aB => exact (bu HB.out)); (case aF => exact (fun _ _ => trivial)); (case aO => exact (by (with_reducible repeat (first | apply Kd.R_alloc | apply Kd.R_drewN | apply Kd.R_drew)); exact ag.out)); (case aS => exact (below_size (bu HB.out))); (case aL => have := LMc6.out; omega); intro au w7 ho hb hg hat; rw [← aj.out] at ho; replace HB := am (hb); have ak := am (ho); clear ag ho hb hg hat))
     go_roundg k1
     case measure => have := HK1.out; omega
     case rel => exact ⟨(ah), (IntKind.u64.wrap (1 - (IntKind.u64.wrap (Int.tdiv (IntKind.u64.wrap ((IntKind.u64.wrap ((IntKind.u64.wrap (ac + 4294967296)) - ad)) - af)) 4294967296)))), (wrap64 (aa + 1)), (by first | rfl | (simp; done) | (simp [*]; done)), (by first | rfl | (simp; done) | (simp [*]; done)), H', ⟨by have := HK1.out; omega⟩, ⟨by (with_reducible repeat (first | apply Kd.R_alloc | apply Kd.R_drewN | apply Kd.R_drew)); exact ak.out⟩, ⟨by repeat (first | (with_reducible first | exact HB.out | apply below_alloc | apply pw_below_drewN | apply below_drew1) | exact HB.out)⟩⟩
    ·
     rw [if_neg c6] at H
     exact absurd H (by simp)
   ·
    rw [if_neg c3] at H
    have an : decide (aa < (l0.length : Int)) = false := decide_eq_false c3
    clear c3
    obtain ⟨ai, A8, H⟩ := bs H
    replace H : (some ai) = some r := H
    obtain rfl := Option.some.inj H
    obtain ⟨ay, az, aA⟩ := Kd.R_slice ag.out
    subst aA
    go_wp2_with (first | ((with_reducible refine gate_callee (f := 144) rfl ?_); refine goesL_ (some 35) rfl rfl Try.func144 (by kernel_rfl) rfl #[.slice ay ae.length az] rfl lu ?_; (with_reducible refine (codewrightref01_Trim.calls k1 _ _ ae ai _ ?side1 ?side2 A8.out).mono ?_); (case side1 => exact cu (Kd.R_reads' ag.out).2.2); (case side2 => exact (Kd.R_reads' ag.out).2.1); rintro e aC ⟨av, rfl, ao, hb⟩; refine ⟨_, rfl, ?_⟩; have al := am (Kd.R_lower (Kd.R_new' ao (Kd.R_lt (by (with_reducible repeat (first | apply Kd.R_alloc | apply Kd.R_drewN | apply Kd.R_drew)); exact ag.out))) (below_size (bu HB.out))); replace ag := am (Kd.R_elder' (by (with_reducible repeat (first | apply Kd.R_alloc | apply Kd.R_drewN | apply Kd.R_drew)); exact ag.out) (Kd.R_base ao) hb); replace HB := be HB hb; (try clear hb); (try clear ao)))
    go_ret
    exact ⟨_, by first | rfl | (simp [errW_none, errW_some] <;> rfl) | (simp [*, errW_none, errW_some] <;> rfl), by (with_reducible repeat (first | apply Kd.R_alloc | apply Kd.R_drewN | apply Kd.R_drew)); exact Kd.R_mono al.out (fun _ hk => trivial), by repeat (first | (with_reducible first | exact HB.out | apply below_alloc | apply pw_below_drewN | apply below_drew1) | exact HB.out)⟩
def codewrightref01_Bits.l0 : Nat → Int → Int → Option (Int)
 | 0, _, _ => none
 | k + 1, x3, x4 => if x4 > 0 then (codewrightref01_Bits.l0 k (wrap64 (x3 + 1)) ((Int.tdiv x4 2) % 4294967296)) else (some x3)
def codewrightref01_Bits.f (k : Nat) (l0 : List Int) : Option (Int) := (codewrightref01_Trim.f k l0).bind fun t1052 => (if (t1052.length : Int) = 0 then (some 0) else (if 0 ≤ (wrap64 ((t1052.length : Int) - 1)) then (if (wrap64 ((t1052.length : Int) - 1)) < (t1052.length : Int) then (codewrightref01_Bits.l0 k (wrap64 (32 * (wrap64 ((t1052.length : Int) - 1)))) (rd t1052 (wrap64 ((t1052.length : Int) - 1)))) else (none)) else (none)))
theorem codewrightref01_Bits.calls (k : Nat) (A0 : Option Addr) (c0 : Nat) (l0 : List Int) (r : Int) (w : World) (hr0 : Kd.C (Kd.int .u32) w A0 l0.length l0) (hc0 : l0.length ≤ c0) (h : codewrightref01_Bits.f k l0 = some r) :
 Calls Try.prog 183 #[.slice A0 l0.length c0] w fun e w' => e = .returned (.int .i64 r) ∧ Below w.heap.size w w' := by
 have au := am hr0
 have al := am hc0
 clear hr0 hc0
 have HB := am (Below.refl w.heap.size w)
 have H : ((codewrightref01_Trim.f k l0).bind fun aa => (if (aa.length : Int) = 0 then (some 0) else (if 0 ≤ (wrap64 ((aa.length : Int) - 1)) then (if (wrap64 ((aa.length : Int) - 1)) < (aa.length : Int) then (codewrightref01_Bits.l0 k (wrap64 (32 * (wrap64 ((aa.length : Int) - 1)))) (rd aa (wrap64 ((aa.length : Int) - 1)))) else (none)) else (none)))) = some r := h
 clear h
 obtain ⟨aa, A2, H⟩ := bs H
 (try dsimp -simprocs only at H)
 by_cases c3 : (aa.length : Int) = 0
 ·
  rw [if_pos c3] at H
  have ag : ((aa.length : Int) == 0) = true := beq_iff_eq.mpr c3
  have ah : ((aa.length : Int) != 0) = false := bne_eq_false_iff_eq.mpr c3
  clear c3
  obtain rfl := Option.some.inj H
  go_enter Try.func183, Try.ntmps183
  go_wp2_with (first | ((with_reducible refine gate_callee (f := 144) rfl ?_); refine goesL_ (some 6) rfl rfl Try.func144 (by kernel_rfl) rfl #[.slice A0 l0.length c0] rfl lu ?_; (with_reducible refine (codewrightref01_Trim.calls k _ _ l0 aa _ ?side1 ?side2 A2.out).mono ?_); (case side1 => repeat (first | exact au.out | (with_reducible refine Kd.C_alloc ?_ _) | (with_reducible refine Kd.C_drewN ?_ _) | (with_reducible refine Kd.C_drew ?_))); (case side2 => first | exact al.out | exact vz al.out); rintro e w4 ⟨ai, rfl, aj, hb⟩; refine ⟨_, rfl, ?_⟩; have ab := am (Kd.R_lower aj (below_size (bu HB.out))); replace HB := be HB hb; (try clear hb); (try clear aj); obtain ⟨ay, az, av⟩ := Kd.R_slice ab.out; subst av))
  go_ret
  exact ⟨by first | rfl | (simp [errW_none, errW_some] <;> rfl) | (simp [*, errW_none, errW_some] <;> rfl), by repeat (first | (with_reducible first | exact HB.out | apply below_alloc | apply pw_below_drewN | apply below_drew1) | exact HB.out)⟩
 ·
  rw [if_neg c3] at H
  have ag : ((aa.length : Int) == 0) = false := beq_eq_false_iff_ne.mpr c3
  have ah : ((aa.length : Int) != 0) = true := bne_iff_ne.mpr c3
  have an : ¬ (aa = []) := fun h_ => c3 (by rw [h_]; rfl)
  obtain ⟨ji6, hji6⟩ : ∃ j_ : Int, (wrap64 ((aa.length : Int) - 1)) = j_ := ⟨_, rfl⟩
  replace H : (if 0 ≤ (ji6) then (if (ji6) < (aa.length : Int) then (codewrightref01_Bits.l0 k (wrap64 (32 * (ji6))) (rd aa (ji6))) else (none)) else (none)) = some r := by first | (rw [hji6] at H; exact H) | (simp only [hji6] at H ⊢; exact H)
  (try rw [hji6] at A2)
  have hji6w : (IntKind.i64.wrap ((aa.length : Int) - 1)) = ji6 := (i64_w _).trans hji6
  by_cases c7 : 0 ≤ (ji6)
  ·
   rw [if_pos c7] at H
   have ao : decide (0 ≤ (ji6)) = true := decide_eq_true c7
   clear c7
   by_cases c8 : (ji6) < (aa.length : Int)
   ·
    rw [if_pos c8] at H
    have ap : decide ((ji6) < (aa.length : Int)) = true := decide_eq_true c8
    clear c8
    have H' := am H
    clear H
    go_enter Try.func183, Try.ntmps183
    go_wp2_with (first | ((with_reducible refine gate_callee (f := 144) rfl ?_); refine goesL_ (some 6) rfl rfl Try.func144 (by kernel_rfl) rfl #[.slice A0 l0.length c0] rfl lu ?_; (with_reducible refine (codewrightref01_Trim.calls k _ _ l0 aa _ ?side1 ?side2 A2.out).mono ?_); (case side1 => repeat (first | exact au.out | (with_reducible refine Kd.C_alloc ?_ _) | (with_reducible refine Kd.C_drewN ?_ _) | (with_reducible refine Kd.C_drew ?_))); (case side2 => first | exact al.out | exact vz al.out); rintro e w9 ⟨ai, rfl, aj, hb⟩; refine ⟨_, rfl, ?_⟩; have ab := am (Kd.R_lower aj (below_size (bu HB.out))); replace HB := be HB hb; (try clear hb); (try clear aj); obtain ⟨aw, ax, aq⟩ := Kd.R_slice ab.out; subst aq; have p1055 : 0 ≤ ((ji6) : Int) := of_decide_eq_true (by first | (with_reducible assumption) | assumption); have q1055 : (ji6) < (aa.length : Int) := of_decide_eq_true (by first | (with_reducible assumption) | assumption); obtain ⟨ad1055, e1055, ad⟩ := Kd.at_int (Kd.R_reads' ab.out).2.2 (ji6) p1055 q1055; cases e1055; replace p1055 := eq_true p1055; replace q1055 := eq_true q1055))
    go_loopg [3, 4] k (fun kq v3 v4 w' => ∃ (ae : Int) (ac : Int), v3 = .int .i64 ae ∧ v4 = .int .u32 ac ∧ Aside0 (codewrightref01_Bits.l0 kq ae ac = some r) ∧ Aside0 (kq ≤ k) ∧ Aside0 (Below w.heap.size w w'))
    case atStart => exact ⟨(wrap64 (32 * (ji6))), (rd aa (ji6)), (by first | rfl | (simp; done) | (simp only [← hji6] <;> (first | rfl | simp)) | (simp [*]; done)), (by first | rfl | (simp; done) | (simp only [← hji6] <;> (first | rfl | simp)) | (simp [*]; done)), H', ⟨Nat.le_refl _⟩, ⟨by repeat (first | (with_reducible first | exact HB.out | apply below_alloc | apply pw_below_drewN | apply below_drew1) | exact HB.out)⟩⟩
    case round =>
     clear H'
     try clear c1
     try clear p1
     try clear q1
     try clear hx1
     try clear p2
     try clear c3
     try clear ag
     try clear ah
     try clear an
     try clear p6
     try clear c7
     try clear ao
     try clear c8
     try clear ap
     try clear p10
     try clear q10
     try clear hx10
     try clear ad
     try clear p1055
     try clear q1055
     obtain ⟨ae, ac, rfl, rfl, HA, HK1, HB⟩ := hrel
     cases gk with
     | zero => exact absurd HA.out (by simp [codewrightref01_Bits.l0])
     | succ k1 =>
      have H := HA.out
      clear HA
      simp only [codewrightref01_Bits.l0] at H
      by_cases af : ac > 0
      ·
       rw [if_pos af] at H
       have ak : decide (0 < ac) = true := decide_eq_true af
       clear af
       have H' := am H
       clear H
       go_wp2
       go_roundg k1
       case measure => have := HK1.out; omega
       case rel => exact ⟨(wrap64 (ae + 1)), ((Int.tdiv ac 2) % 4294967296), (by first | rfl | (simp; done) | (simp [*]; done)), (by first | rfl | (simp; done) | (simp [*]; done)), H', ⟨by have := HK1.out; omega⟩, ⟨by repeat (first | (with_reducible first | exact HB.out | apply below_alloc | apply pw_below_drewN | apply below_drew1) | exact HB.out)⟩⟩
      ·
       rw [if_neg af] at H
       have ak : decide (0 < ac) = false := decide_eq_false af
       clear af
       obtain rfl := Option.some.inj H
       go_wp2
       go_ret
       exact ⟨by first | rfl | (simp [errW_none, errW_some] <;> rfl) | (simp only [← hji6]; first | rfl | (simp [errW_none, errW_some] <;> rfl)) | (simp [*, errW_none, errW_some] <;> rfl), by repeat (first | (with_reducible first | exact HB.out | apply below_alloc | apply pw_below_drewN | apply below_drew1) | exact HB.out)⟩
   ·
    rw [if_neg c8] at H
    exact absurd H (by simp)
  ·
   rw [if_neg c7] at H
   exact absurd H (by simp)
def codewrightref01_shift.l0 : Nat → List Int → Int → List Int → Int → Int → Option (List Int)
 | 0, _, _, _, _, _ => none
 | k + 1, x0, x1, x5, x6, x7 => if x7 < (x0.length : Int) then (if 0 ≤ x7 then (if 0 ≤ (Int.tmod x1 32) then (if x5.length < 35184372088832 then (codewrightref01_shift.l0 k x0 x1 (x5 ++ [(Int.tmod (IntKind.u64.wrap ((shl .u64 (IntKind.u64.wrap (rd x0 x7)) (Int.tmod x1 32)) + x6)) 4294967296) % 4294967296]) (IntKind.u64.wrap (Int.tdiv (IntKind.u64.wrap ((shl .u64 (IntKind.u64.wrap (rd x0 x7)) (Int.tmod x1 32)) + x6)) 4294967296)) (wrap64 (x7 + 1))) else (none)) else (none)) else (none)) else (if x5.length < 35184372088832 then ((codewrightref01_Trim.f k (x5 ++ [(x6) % 4294967296])).bind fun t1066 => (some t1066)) else (none))
def codewrightref01_shift.f (k : Nat) (l0 : List Int) (a1 : Int) : Option (List Int) := if 0 ≤ (wrap64 (Int.tdiv a1 32)) then (if (wrap64 (Int.tdiv a1 32) : Int).toNat ≤ 70368744177664 then (codewrightref01_shift.l0 k l0 a1 (List.replicate (wrap64 (Int.tdiv a1 32) : Int).toNat 0) 0 0) else (none)) else (none)
theorem codewrightref01_shift.calls (k : Nat) (A0 : Option Addr) (c0 : Nat) (l0 : List Int) (a1 : Int) (r : List Int) (w : World) (hr0 : Kd.C (Kd.int .u32) w A0 l0.length l0) (hc0 : l0.length ≤ c0) (h : codewrightref01_shift.f k l0 a1 = some r) :
 Calls Try.prog 184 #[.slice A0 l0.length c0, .int .i64 a1] w fun e w' => ∃ v0_ : Value, e = .returned (v0_) ∧ Kd.R (Kd.int .u32) 48 w' w.heap.size (fun _ => True) v0_ r ∧ Below w.heap.size w w' := by
 have aW := am hr0
 have aZ := am hc0
 clear hr0 hc0
 have HB := am (Below.refl w.heap.size w)
 have H : (if 0 ≤ (wrap64 (Int.tdiv a1 32)) then (if (wrap64 (Int.tdiv a1 32) : Int).toNat ≤ 70368744177664 then (codewrightref01_shift.l0 k l0 a1 (List.replicate (wrap64 (Int.tdiv a1 32) : Int).toNat 0) 0 0) else (none)) else (none)) = some r := h
 clear h
 obtain ⟨ji3, hji3⟩ : ∃ j_ : Int, (wrap64 (Int.tdiv a1 32)) = j_ := ⟨_, rfl⟩
 replace H : (if 0 ≤ (ji3) then (if (ji3 : Int).toNat ≤ 70368744177664 then (codewrightref01_shift.l0 k l0 a1 (List.replicate (ji3 : Int).toNat 0) 0 0) else (none)) else (none)) = some r := by first | (rw [hji3] at H; exact H) | (simp only [hji3] at H ⊢; exact H)
 have hji3w : (IntKind.i64.wrap (Int.tdiv a1 32)) = ji3 := (i64_w _).trans hji3
 by_cases c4 : 0 ≤ (ji3)
 ·
  rw [if_pos c4] at H
  have aC := eq_true c4
  have aD : decide (0 ≤ (ji3)) = true := decide_eq_true c4
  clear c4
  by_cases c5 : (ji3 : Int).toNat ≤ 70368744177664
  ·
   rw [if_pos c5] at H
   have aE := eq_true c5
   have aG : decide ((ji3 : Int).toNat ≤ 70368744177664) = true := decide_eq_true c5
   clear c5
   obtain ⟨an, ae⟩ : ∃ y_ : List Int, y_ = (List.replicate (ji3 : Int).toNat 0) := ⟨_, rfl⟩
   replace H : (codewrightref01_shift.l0 k l0 a1 an 0 0) = some r := by first | (rw [ae]; with_reducible exact H) | (have H2_ := (Option.bind_some _ _).symm.trans H; rw [ae]; with_reducible exact H2_) | (have H2_ := (Option.bind_some _ _).symm.trans H; with_reducible exact H2_) | with_reducible exact H | (rw [ae]; exact H) | exact H
   have aj := am ae
   clear ae
   have H' := am H
   clear H
   go_enter Try.func184, Try.ntmps184
   go_wp2_with (first | ((with_reducible refine gate_dst (N := 11) rfl ?_); refine Kd.R_make (Kd.int .u32) _ 48 rfl (N := 11) rfl 42 _ _ rfl ji3 rfl rfl Try.underlying42 (.int .u32 0) 4 info48 rfl (by decide) (by omega) 0 (ok := fun _ => True) (okp := fun _ => True) rfl (fun _ hk => hk) trivial (of_decide_eq_true (by first | (with_reducible assumption) | assumption)) (Nat.le_trans (Nat.mul_le_mul_right _ (of_decide_eq_true (by first | (with_reducible assumption) | assumption) : ji3.toNat ≤ 70368744177664)) (by omega)) (Below.refl _ _) (Nat.le_refl _) ?_; intro aN w6 ax hb hg_ hnew_; clear hg_ hnew_; (first | rw [← aj.out] at ax | (simp only [Int.reduceToNat] at ax; rw [← aj.out] at ax)); have ap := am (Kd.R_lower ax (below_size (bu HB.out))); replace HB := be HB hb; clear hb ax))
   go_loopg [5, 6, 7] k (fun kq v5 v6 v7 w' => ∃ (ac : List Int) (ab : Int) (aa : Int), v6 = .int .u64 ab ∧ v7 = .int .i64 aa ∧ Aside0 (codewrightref01_shift.l0 kq l0 a1 ac ab aa = some r) ∧ Aside0 (kq ≤ k) ∧ Aside0 (Kd.R (Kd.int .u32) 48 w' w.heap.size (fun _ => True) v5 ac) ∧ Aside0 (Below w.heap.size w w'))
   case atStart => exact ⟨(an), (0), (0), (by first | rfl | (simp; done) | (simp [*]; done)), (by first | rfl | (simp; done) | (simp [*]; done)), H', ⟨Nat.le_refl _⟩, ⟨by (with_reducible repeat (first | apply Kd.R_alloc | apply Kd.R_drewN | apply Kd.R_drew)); exact ap.out⟩, ⟨by repeat (first | (with_reducible first | exact HB.out | apply below_alloc | apply pw_below_drewN | apply below_drew1) | exact HB.out)⟩⟩
   case round =>
    clear H'
    try clear c1
    try clear p2
    try clear c4
    try clear aC
    try clear aD
    try clear c5
    try clear aE
    try clear aG
    try clear p6
    obtain ⟨ac, ab, aa, rfl, rfl, HA, HK1, al, HB⟩ := hrel
    cases gk with
    | zero => exact absurd HA.out (by simp [codewrightref01_shift.l0])
    | succ k1 =>
     have H := HA.out
     clear HA
     simp only [codewrightref01_shift.l0] at H
     by_cases c8 : aa < (l0.length : Int)
     ·
      rw [if_pos c8] at H
      have aH : decide (aa < (l0.length : Int)) = true := decide_eq_true c8
      clear c8
      by_cases c9 : 0 ≤ aa
      ·
       rw [if_pos c9] at H
       have aX : decide (0 ≤ aa) = true := decide_eq_true c9
       clear c9
       obtain ⟨ji10, hji10⟩ : ∃ j_ : Int, (Int.tmod a1 32) = j_ := ⟨_, rfl⟩
       replace H : (if 0 ≤ (ji10) then (if ac.length < 35184372088832 then (codewrightref01_shift.l0 k1 l0 a1 (ac ++ [(Int.tmod (IntKind.u64.wrap ((shl .u64 (IntKind.u64.wrap (rd l0 aa)) (ji10)) + ab)) 4294967296) % 4294967296]) (IntKind.u64.wrap (Int.tdiv (IntKind.u64.wrap ((shl .u64 (IntKind.u64.wrap (rd l0 aa)) (ji10)) + ab)) 4294967296)) (wrap64 (aa + 1))) else (none)) else (none)) = some r := by first | (rw [hji10] at H; exact H) | (simp only [hji10] at H ⊢; exact H)
       by_cases ay : 0 ≤ (ji10)
       ·
        rw [if_pos ay] at H
        have aQ := eq_true ay
        have aR : decide (0 ≤ (ji10)) = true := decide_eq_true ay
        clear ay
        obtain ⟨ji12, hji12⟩ : ∃ j_ : Int, (shl .u64 (IntKind.u64.wrap (rd l0 aa)) (ji10)) = j_ := ⟨_, rfl⟩
        replace H : (if ac.length < 35184372088832 then (codewrightref01_shift.l0 k1 l0 a1 (ac ++ [(Int.tmod (IntKind.u64.wrap ((ji12) + ab)) 4294967296) % 4294967296]) (IntKind.u64.wrap (Int.tdiv (IntKind.u64.wrap ((ji12) + ab)) 4294967296)) (wrap64 (aa + 1))) else (none)) = some r := by first | (rw [hji12] at H; exact H) | (simp only [hji12] at H ⊢; exact H)
        have hji12_ : (IntKind.u64.wrap ((IntKind.u64.wrap (rd l0 aa)) * 2 ^ min (ji10).toNat 64)) = ji12 := hji12
        have hji12z : (ji10) ≤ 64 → (IntKind.u64.wrap ((IntKind.u64.wrap (rd l0 aa)) * 2 ^ (ji10).toNat)) = ji12 := shl_small hji12
        by_cases az : ac.length < 35184372088832
        ·
         rw [if_pos az] at H
         have LMc13 := am az
         clear az
         obtain ⟨ao, af⟩ : ∃ y_ : List Int, y_ = (ac ++ [(Int.tmod (IntKind.u64.wrap ((ji12) + ab)) 4294967296) % 4294967296]) := ⟨_, rfl⟩
         replace H : (codewrightref01_shift.l0 k1 l0 a1 ao (IntKind.u64.wrap (Int.tdiv (IntKind.u64.wrap ((ji12) + ab)) 4294967296)) (wrap64 (aa + 1))) = some r := by first | (rw [af]; with_reducible exact H) | (have H2_ := (Option.bind_some _ _).symm.trans H; rw [af]; with_reducible exact H2_) | (have H2_ := (Option.bind_some _ _).symm.trans H; with_reducible exact H2_) | with_reducible exact H | (rw [af]; exact H) | exact H
         have aq := am af
         clear af
         have H' := am H
         clear H
         have p1059 : 0 ≤ (aa : Int) := of_decide_eq_true (by first | (with_reducible assumption) | assumption)
         have q1059 : aa < (l0.length : Int) := of_decide_eq_true (by first | (with_reducible assumption) | assumption)
         obtain ⟨ad1059, e1059, ag⟩ := Kd.at_int aW.out aa p1059 q1059
         cases e1059
         replace ag := (HB.out.cell (World.block_lt_of_cell? w _ ag)).trans ag
         replace p1059 := eq_true p1059
         replace q1059 := eq_true q1059
         go_wp2_with (first | ((with_reducible refine gate_builtin (b := .append) (xs := #[.tmp 28, .tmp 32]) rfl ?_); at_builtin; refine Kd.R_append (Kd.int .u32) (w0 := w) w.heap.size rfl (.tmp 28) (.tmp 32) 42 48 (.int .u32 0) 4 rfl Try.underlying42 info48 rfl (by decide) (by omega) u5 ac ((Int.tmod (IntKind.u64.wrap ((ji12) + ab)) 4294967296) % 4294967296) [.int .u32 ((Int.tmod (IntKind.u64.wrap ((ji12) + ab)) 4294967296) % 4294967296)] (fun _ => True) (fun _ => False) rfl rfl ?aP (fun _ hk => hk.elim) ?aF ?aO ?aB ?aS ?aL ?_; (case aP => exact rfl); (case aB => exact (bu HB.out)); (case aF => exact (fun _ _ => trivial)); (case aO => exact (by (with_reducible repeat (first | apply Kd.R_alloc | apply Kd.R_drewN | apply Kd.R_drew)); exact al.out)); (case aS => exact (below_size (bu HB.out))); (case aL => have := LMc13.out; omega); intro aT a0 ho hb hg hat; rw [← aq.out] at ho; replace HB := am (hb); have au := am (ho); clear al ho hb hg hat))
         go_roundg k1
         case measure => have := HK1.out; omega
         case rel => exact ⟨(ao), (IntKind.u64.wrap (Int.tdiv (IntKind.u64.wrap ((ji12) + ab)) 4294967296)), (wrap64 (aa + 1)), (by first | rfl | (simp; done) | (simp only [← hji12] <;> (first | rfl | simp)) | (simp [*]; done)), (by first | rfl | (simp; done) | (simp [*]; done)), H', ⟨by have := HK1.out; omega⟩, ⟨by (with_reducible repeat (first | apply Kd.R_alloc | apply Kd.R_drewN | apply Kd.R_drew)); exact au.out⟩, ⟨by repeat (first | (with_reducible first | exact HB.out | apply below_alloc | apply pw_below_drewN | apply below_drew1) | exact HB.out)⟩⟩
        ·
         rw [if_neg az] at H
         exact absurd H (by simp)
       ·
        rw [if_neg ay] at H
        exact absurd H (by simp)
      ·
       rw [if_neg c9] at H
       exact absurd H (by simp)
     ·
      rw [if_neg c8] at H
      have aH : decide (aa < (l0.length : Int)) = false := decide_eq_false c8
      clear c8
      by_cases aA : ac.length < 35184372088832
      ·
       rw [if_pos aA] at H
       have LMc15 := am aA
       clear aA
       obtain ⟨ak, ah⟩ : ∃ y_ : List Int, y_ = (ac ++ [(ab) % 4294967296]) := ⟨_, rfl⟩
       replace H : ((codewrightref01_Trim.f k1 ak).bind fun ai => (some ai)) = some r := by first | (rw [ah]; with_reducible exact H) | (have H2_ := (Option.bind_some _ _).symm.trans H; rw [ah]; with_reducible exact H2_) | (have H2_ := (Option.bind_some _ _).symm.trans H; with_reducible exact H2_) | with_reducible exact H | (rw [ah]; exact H) | exact H
       have av := am ah
       clear ah
       obtain ⟨ai, aY, H⟩ := bs H
       replace H : (some ai) = some r := H
       obtain rfl := Option.some.inj H
       go_wp2_with (first | ((with_reducible refine gate_builtin (b := .append) (xs := #[.tmp 36, .tmp 39]) rfl ?_); at_builtin; refine Kd.R_append (Kd.int .u32) (w0 := w) w.heap.size rfl (.tmp 36) (.tmp 39) 42 48 (.int .u32 0) 4 rfl Try.underlying42 info48 rfl (by decide) (by omega) u5 ac ((ab) % 4294967296) [.int .u32 ((ab) % 4294967296)] (fun _ => True) (fun _ => False) rfl rfl ?aP (fun _ hk => hk.elim) ?aF ?aO ?aB ?aS ?aL ?_; (case aP => exact rfl); (case aB => exact (bu HB.out)); (case aF => exact (fun _ _ => trivial)); (case aO => exact (by (with_reducible repeat (first | apply Kd.R_alloc | apply Kd.R_drewN | apply Kd.R_drew)); exact al.out)); (case aS => exact (below_size (bu HB.out))); (case aL => have := LMc15.out; omega); intro aU a2 ho hb hg hat; rw [← av.out] at ho; replace HB := am (hb); have ad := am (ho); clear al ho hb hg hat; obtain ⟨aI, aJ, aK⟩ := Kd.R_slice ad.out; subst aK) | ((with_reducible refine gate_callee (f := 144) rfl ?_); refine goesL_ (some 41) rfl rfl Try.func144 (by kernel_rfl) rfl #[.slice aI ak.length aJ] rfl lu ?_; (with_reducible refine (codewrightref01_Trim.calls k1 _ _ ak ai _ ?side1 ?side2 aY.out).mono ?_); (case side1 => exact cu (Kd.R_reads' ad.out).2.2); (case side2 => exact (Kd.R_reads' ad.out).2.1); rintro e a3 ⟨aV, rfl, aM, hb⟩; refine ⟨_, rfl, ?_⟩; have aw := am (Kd.R_lower (Kd.R_new' aM (Kd.R_lt (by (with_reducible repeat (first | apply Kd.R_alloc | apply Kd.R_drewN | apply Kd.R_drew)); exact ad.out))) (below_size (bu HB.out))); replace ad := am (Kd.R_elder' (by (with_reducible repeat (first | apply Kd.R_alloc | apply Kd.R_drewN | apply Kd.R_drew)); exact ad.out) (Kd.R_base aM) hb); replace HB := be HB hb; (try clear hb); (try clear hk); (try clear aM)))
       go_ret
       exact ⟨_, by first | rfl | (simp [errW_none, errW_some] <;> rfl) | (simp only [← hji3]; first | rfl | (simp [errW_none, errW_some] <;> rfl)) | (simp [*, errW_none, errW_some] <;> rfl), by (with_reducible repeat (first | apply Kd.R_alloc | apply Kd.R_drewN | apply Kd.R_drew)); exact Kd.R_mono aw.out (fun _ hk => trivial), by repeat (first | (with_reducible first | exact HB.out | apply below_alloc | apply pw_below_drewN | apply below_drew1) | exact HB.out)⟩
      ·
       rw [if_neg aA] at H
       exact absurd H (by simp)
  ·
   rw [if_neg c5] at H
   exact absurd H (by simp)
 ·
  rw [if_neg c4] at H
  exact absurd H (by simp)
def codewrightref01_DivMod.l0 : Nat → List Int → List Int → List Int → Int → Option (List Int × List Int)
 | 0, _, _, _, _ => none
 | k + 1, x1, x4, x5, x7 => if x7 ≥ 0 then ((codewrightref01_shift.f k x1 x7).bind fun t1077 => ((codewrightref01_Cmp.f k x5 t1077).bind fun t1080 => (if t1080 ≥ 0 then ((codewrightref01_Sub.f k x5 t1077).bind fun t1081 => ((codewrightref01_shift.f k (([1] : List Int)) x7).bind fun t1087 => ((codewrightref01_Add.f k x4 t1087).bind fun t1090 => (codewrightref01_DivMod.l0 k x1 t1090 t1081 (wrap64 (x7 - 1)))))) else (codewrightref01_DivMod.l0 k x1 x4 x5 (wrap64 (x7 - 1)))))) else ((codewrightref01_Trim.f k x4).bind fun t1074 => (some (t1074, x5)))
def codewrightref01_DivMod.f (k : Nat) (l0 : List Int) (l1 : List Int) : Option (List Int × List Int) := (codewrightref01_Trim.f k l0).bind fun t1069 => ((codewrightref01_Bits.f k l0).bind fun t1072 => ((codewrightref01_Bits.f k l1).bind fun t1073 => (codewrightref01_DivMod.l0 k l1 ([] : List Int) t1069 (wrap64 (t1072 - t1073)))))
theorem codewrightref01_DivMod.calls (k : Nat) (A0 : Option Addr) (c0 : Nat) (l0 : List Int) (A1 : Option Addr) (c1 : Nat) (l1 : List Int) (r1 : List Int) (r2 : List Int) (w : World) (hr0 : Kd.C (Kd.int .u32) w A0 l0.length l0) (hc0 : l0.length ≤ c0) (hr1 : Kd.C (Kd.int .u32) w A1 l1.length l1) (hc1 : l1.length ≤ c1) (h : codewrightref01_DivMod.f k l0 l1 = some (r1, r2)) :
 Calls Try.prog 157 #[.slice A0 l0.length c0, .slice A1 l1.length c1] w fun e w' => ∃ v0_ v1_ : Value, e = .returned (.tuple #[v0_, v1_]) ∧ Kd.R (Kd.int .u32) 48 w' w.heap.size (fun k_ => some k_ ≠ (v1_ : Value).ownBlock) v0_ r1 ∧ Kd.R (Kd.int .u32) 48 w' w.heap.size (fun k_ => some k_ ≠ (v0_ : Value).ownBlock) v1_ r2 ∧ Below w.heap.size w w' := by
 have a9 := am hr0
 have aM := am hc0
 clear hr0 hc0
 have aN := am hr1
 have aE := am hc1
 clear hr1 hc1
 have HB := am (Below.refl w.heap.size w)
 have H : ((codewrightref01_Trim.f k l0).bind fun aq => ((codewrightref01_Bits.f k l0).bind fun au => ((codewrightref01_Bits.f k l1).bind fun av => (codewrightref01_DivMod.l0 k l1 ([] : List Int) aq (wrap64 (au - av)))))) = some (r1, r2) := h
 clear h
 obtain ⟨aq, A3, H⟩ := bs H
 (try dsimp -simprocs only at H)
 obtain ⟨au, A4, H⟩ := bs H
 (try dsimp -simprocs only at H)
 obtain ⟨av, A5, H⟩ := bs H
 (try dsimp -simprocs only at H)
 have H' := am H
 clear H
 go_enter Try.func157, Try.ntmps157
 go_wp2_with (first | ((with_reducible refine gate_callee (f := 144) rfl ?_); refine goesL_ (some 10) rfl rfl Try.func144 (by kernel_rfl) rfl #[.slice A0 l0.length c0] rfl lu ?_; (with_reducible refine (codewrightref01_Trim.calls k _ _ l0 aq _ ?side1 ?side2 A3.out).mono ?_); (case side1 => repeat (first | exact a9.out | (with_reducible refine Kd.C_alloc ?_ _) | (with_reducible refine Kd.C_drewN ?_ _) | (with_reducible refine Kd.C_drew ?_))); (case side2 => first | exact aM.out | exact vz aM.out); rintro e w6 ⟨ba, rfl, ae, hb⟩; refine ⟨_, rfl, ?_⟩; have aj := am (Kd.R_lower ae (below_size (bu HB.out))); replace HB := be HB hb; (try clear hb); (try clear ae)) | ((with_reducible refine gate_callee (f := 183) rfl ?_); refine goesL_ (some 12) rfl rfl Try.func183 (by kernel_rfl) rfl #[.slice A0 l0.length c0] rfl lu ?_; (with_reducible refine (codewrightref01_Bits.calls k _ _ l0 au _ ?side1 ?side2 A4.out).mono ?_); (case side1 => repeat (first | exact (Kd.C_below a9.out HB.out) | (with_reducible refine Kd.C_alloc ?_ _) | (with_reducible refine Kd.C_drewN ?_ _) | (with_reducible refine Kd.C_drew ?_))); (case side2 => first | exact aM.out | exact vz aM.out); rintro e w7 ⟨rfl, hb⟩; refine ⟨_, rfl, ?_⟩; replace aj := am (Kd.R_below (by (with_reducible repeat (first | apply Kd.R_alloc | apply Kd.R_drewN | apply Kd.R_drew)); exact aj.out) hb); replace HB := be HB hb; (try clear hb)) | ((with_reducible refine gate_callee (f := 183) rfl ?_); refine goesL_ (some 14) rfl rfl Try.func183 (by kernel_rfl) rfl #[.slice A1 l1.length c1] rfl lu ?_; (with_reducible refine (codewrightref01_Bits.calls k _ _ l1 av _ ?side1 ?side2 A5.out).mono ?_); (case side1 => repeat (first | exact (Kd.C_below aN.out HB.out) | (with_reducible refine Kd.C_alloc ?_ _) | (with_reducible refine Kd.C_drewN ?_ _) | (with_reducible refine Kd.C_drew ?_))); (case side2 => first | exact aE.out | exact vz aE.out); rintro e w8 ⟨rfl, hb⟩; refine ⟨_, rfl, ?_⟩; replace aj := am (Kd.R_below (by (with_reducible repeat (first | apply Kd.R_alloc | apply Kd.R_drewN | apply Kd.R_drew)); exact aj.out) hb); replace HB := be HB hb; (try clear hb)))
 go_loopg [4, 5, 7] k (fun kq v4 v5 v7 w' => ∃ (an : List Int) (ak : List Int) (ag : Int), v7 = .int .i64 ag ∧ Aside0 (codewrightref01_DivMod.l0 kq l1 an ak ag = some (r1, r2)) ∧ Aside0 (kq ≤ k) ∧ Aside0 (Kd.R (Kd.int .u32) 48 w' w.heap.size (fun k_ => some k_ ≠ (v5 : Value).ownBlock) v4 an) ∧ Aside0 (Kd.R (Kd.int .u32) 48 w' w.heap.size (fun k_ => some k_ ≠ (v4 : Value).ownBlock) v5 ak) ∧ Aside0 (Below w.heap.size w w'))
 case atStart => exact ⟨(([] : List Int)), (aq), (wrap64 (au - av)), (by first | rfl | (simp; done) | (simp [*]; done)), H', ⟨Nat.le_refl _⟩, ⟨by first | exact Kd.R_nil _ _ _ _ _ | exact Kd.N_nil _ _ _ _ _ | exact Kd.V_nil _ _ _ _ _ | exact Kd.Q_nil _ _ _ _ _ | exact Kd.S_nil _ _ _ _ _⟩, ⟨by (with_reducible repeat (first | apply Kd.R_alloc | apply Kd.R_drewN | apply Kd.R_drew)); exact Kd.R_mono aj.out (fun _ hk => (by simp [Value.ownBlock]))⟩, ⟨by repeat (first | (with_reducible first | exact HB.out | apply below_alloc | apply pw_below_drewN | apply below_drew1) | exact HB.out)⟩⟩
 case round =>
  clear H'
  try clear c1
  try clear p2
  try clear p6
  obtain ⟨an, ak, ag, rfl, HA, HK1, ac, ab, HB⟩ := hrel
  cases gk with
  | zero => exact absurd HA.out (by simp [codewrightref01_DivMod.l0])
  | succ k1 =>
   have H := HA.out
   clear HA
   simp only [codewrightref01_DivMod.l0] at H
   by_cases c9 : ag ≥ 0
   ·
    rw [if_pos c9] at H
    have aO : decide (0 ≤ ag) = true := decide_eq_true c9
    clear c9
    obtain ⟨ai, bb, H⟩ := bs H
    (try dsimp -simprocs only at H)
    obtain ⟨ao, bd, H⟩ := bs H
    (try dsimp -simprocs only at H)
    by_cases aF : ao ≥ 0
    ·
     rw [if_pos aF] at H
     have aG : decide (0 ≤ ao) = true := decide_eq_true aF
     clear aF
     obtain ⟨ay, bk, H⟩ := bs H
     (try dsimp -simprocs only at H)
     obtain ⟨az, ap⟩ : ∃ y_ : List Int, y_ = (([1] : List Int)) := ⟨_, rfl⟩
     rw [← ap] at H
     have aw := am ap
     clear ap
     obtain ⟨ax, bl, H⟩ := bs H
     (try dsimp -simprocs only at H)
     obtain ⟨aA, bm, H⟩ := bs H
     (try dsimp -simprocs only at H)
     have H' := am H
     clear H
     go_wp2_with (first | ((with_reducible refine gate_callee (f := 184) rfl ?_); refine goesL_ (some 23) rfl rfl Try.func184 (by kernel_rfl) rfl #[.slice A1 l1.length c1, .int .i64 ag] rfl lu ?_; (with_reducible refine (codewrightref01_shift.calls k1 _ _ l1 ag ai _ ?side1 ?side2 bb.out).mono ?_); (case side1 => repeat (first | exact (Kd.C_below aN.out HB.out) | (with_reducible refine Kd.C_alloc ?_ _) | (with_reducible refine Kd.C_drewN ?_ _) | (with_reducible refine Kd.C_drew ?_))); (case side2 => first | exact aE.out | exact vz aE.out); rintro e bo ⟨aH, rfl, ae, hb⟩; refine ⟨_, rfl, ?_⟩; have aa := am (Kd.R_lower (Kd.R_new' (Kd.R_new' ae (Kd.R_lt (by (with_reducible repeat (first | apply Kd.R_alloc | apply Kd.R_drewN | apply Kd.R_drew)); exact ac.out))) (Kd.R_lt (by (with_reducible repeat (first | apply Kd.R_alloc | apply Kd.R_drewN | apply Kd.R_drew)); exact ab.out))) (below_size (bu HB.out))); replace ac := am (Kd.R_elder' (by (with_reducible repeat (first | apply Kd.R_alloc | apply Kd.R_drewN | apply Kd.R_drew)); exact ac.out) (Kd.R_base ae) hb); replace ab := am (Kd.R_elder' (by (with_reducible repeat (first | apply Kd.R_alloc | apply Kd.R_drewN | apply Kd.R_drew)); exact ab.out) (Kd.R_base ae) hb); replace HB := be HB hb; (try clear hb); (try clear hk); (try clear ae); obtain ⟨aI, aJ, aP⟩ := Kd.R_slice ab.out; subst aP; obtain ⟨aK, aL, aQ⟩ := Kd.R_slice aa.out; subst aQ) | ((with_reducible refine gate_callee (f := 59) rfl ?_); refine goesL_ (some 26) rfl rfl Try.func59 (by kernel_rfl) rfl #[.slice aI ak.length aJ, .slice aK ai.length aL] rfl lu ?_; (with_reducible refine (codewrightref01_Cmp.calls k1 _ _ ak _ _ ai ao _ ?side1 ?side2 ?side3 ?side4 bd.out).mono ?_); (case side1 => exact cu (Kd.R_reads' ab.out).2.2); (case side2 => exact (Kd.R_reads' ab.out).2.1); (case side3 => exact cu (Kd.R_reads' aa.out).2.2); (case side4 => exact (Kd.R_reads' aa.out).2.1); rintro e bp ⟨rfl, hb⟩; refine ⟨_, rfl, ?_⟩; replace ac := am (Kd.R_below (by (with_reducible repeat (first | apply Kd.R_alloc | apply Kd.R_drewN | apply Kd.R_drew)); exact ac.out) hb); replace ab := am (Kd.R_below (by (with_reducible repeat (first | apply Kd.R_alloc | apply Kd.R_drewN | apply Kd.R_drew)); exact ab.out) hb); replace aa := am (Kd.R_below (by (with_reducible repeat (first | apply Kd.R_alloc | apply Kd.R_drewN | apply Kd.R_drew)); exact aa.out) hb); replace HB := be HB hb; (try clear hb); (try clear hk)) | ((with_reducible refine gate_callee (f := 166) rfl ?_); refine goesL_ (some 30) rfl rfl Try.func166 (by kernel_rfl) rfl #[.slice aI ak.length aJ, .slice aK ai.length aL] rfl lu ?_; (with_reducible refine (codewrightref01_Sub.calls k1 _ _ ak _ _ ai ay _ ?side1 ?side2 ?side3 ?side4 bk.out).mono ?_); (case side1 => exact cu (Kd.R_reads' ab.out).2.2); (case side2 => exact (Kd.R_reads' ab.out).2.1); (case side3 => exact cu (Kd.R_reads' aa.out).2.2); (case side4 => exact (Kd.R_reads' aa.out).2.1); rintro e bq ⟨bf, rfl, ae, hb⟩; refine ⟨_, rfl, ?_⟩; have ad := am (Kd.R_lower (Kd.R_new' (Kd.R_new' (Kd.R_new' ae (Kd.R_lt (by (with_reducible repeat (first | apply Kd.R_alloc | apply Kd.R_drewN | apply Kd.R_drew)); exact ac.out))) (Kd.R_lt (by (with_reducible repeat (first | apply Kd.R_alloc | apply Kd.R_drewN | apply Kd.R_drew)); exact ab.out))) (Kd.R_lt (by (with_reducible repeat (first | apply Kd.R_alloc | apply Kd.R_drewN | apply Kd.R_drew)); exact aa.out))) (below_size (bu HB.out))); replace ac := am (Kd.R_elder' (by (with_reducible repeat (first | apply Kd.R_alloc | apply Kd.R_drewN | apply Kd.R_drew)); exact ac.out) (Kd.R_base ae) hb); replace ab := am (Kd.R_elder' (by (with_reducible repeat (first | apply Kd.R_alloc | apply Kd.R_drewN | apply Kd.R_drew)); exact ab.out) (Kd.R_base ae) hb); replace aa := am (Kd.R_elder' (by (with_reducible repeat (first | apply Kd.R_alloc | apply Kd.R_drewN | apply Kd.R_drew)); exact aa.out) (Kd.R_base ae) hb); replace HB := be HB hb; (try clear hb); (try clear hk); (try clear ae)) | ((with_reducible refine gate_dst (N := 32) rfl ?_); refine Kd.R_lit (Kd.int .u32) _ 48 ?hg (N := 32) ?hd (xs := ([1] : List Int)) (inner := [.int .u32 1]) (ok := fun _ => True) (okp := fun _ => True) ?hr ?hp (fun _ hk => hk) trivial (Below.refl _ _) (Nat.le_refl _) (by simp) ?_; (case hd => rfl); (case hg => rfl); (case hr => first | (go_simp; done) | (go_simp; rfl)); (case hp => exact (Reps.one (show Kd.M (Kd.int .u32) _ _ _ 1 [.int .u32 1] from rfl) (Reps.none _ _))); intro bg br al hb hg_ hnew_; clear hg_ hnew_; (first | rw [← aw.out] at al | (simp only [Int.reduceToNat] at al; rw [← aw.out] at al)); have af := am (Kd.R_lower (Kd.R_new' (Kd.R_new' (Kd.R_new' (Kd.R_new' al (Kd.R_lt (by (with_reducible repeat (first | apply Kd.R_alloc | apply Kd.R_drewN | apply Kd.R_drew)); exact ac.out))) (Kd.R_lt (by (with_reducible repeat (first | apply Kd.R_alloc | apply Kd.R_drewN | apply Kd.R_drew)); exact ab.out))) (Kd.R_lt (by (with_reducible repeat (first | apply Kd.R_alloc | apply Kd.R_drewN | apply Kd.R_drew)); exact aa.out))) (Kd.R_lt (by (with_reducible repeat (first | apply Kd.R_alloc | apply Kd.R_drewN | apply Kd.R_drew)); exact ad.out))) (below_size (bu HB.out))); replace ac := am (Kd.R_elder' (by (with_reducible repeat (first | apply Kd.R_alloc | apply Kd.R_drewN | apply Kd.R_drew)); exact ac.out) (Kd.R_base al) hb); replace ab := am (Kd.R_elder' (by (with_reducible repeat (first | apply Kd.R_alloc | apply Kd.R_drewN | apply Kd.R_drew)); exact ab.out) (Kd.R_base al) hb); replace aa := am (Kd.R_elder' (by (with_reducible repeat (first | apply Kd.R_alloc | apply Kd.R_drewN | apply Kd.R_drew)); exact aa.out) (Kd.R_base al) hb); replace ad := am (Kd.R_elder' (by (with_reducible repeat (first | apply Kd.R_alloc | apply Kd.R_drewN | apply Kd.R_drew)); exact ad.out) (Kd.R_base al) hb); replace HB := be HB hb; clear hb al; obtain ⟨aR, aS, aT⟩ := Kd.R_slice af.out; subst aT) | ((with_reducible refine gate_callee (f := 184) rfl ?_); refine goesL_ (some 34) rfl rfl Try.func184 (by kernel_rfl) rfl #[.slice aR az.length aS, .int .i64 ag] rfl lu ?_; (with_reducible refine (codewrightref01_shift.calls k1 _ _ az ag ax _ ?side1 ?side2 bl.out).mono ?_); (case side1 => exact cu (Kd.R_reads' af.out).2.2); (case side2 => exact (Kd.R_reads' af.out).2.1); rintro e bv ⟨bh, rfl, ae, hb⟩; refine ⟨_, rfl, ?_⟩; have ah := am (Kd.R_lower (Kd.R_new' (Kd.R_new' (Kd.R_new' (Kd.R_new' (Kd.R_new' ae (Kd.R_lt (by (with_reducible repeat (first | apply Kd.R_alloc | apply Kd.R_drewN | apply Kd.R_drew)); exact ac.out))) (Kd.R_lt (by (with_reducible repeat (first | apply Kd.R_alloc | apply Kd.R_drewN | apply Kd.R_drew)); exact ab.out))) (Kd.R_lt (by (with_reducible repeat (first | apply Kd.R_alloc | apply Kd.R_drewN | apply Kd.R_drew)); exact aa.out))) (Kd.R_lt (by (with_reducible repeat (first | apply Kd.R_alloc | apply Kd.R_drewN | apply Kd.R_drew)); exact ad.out))) (Kd.R_lt (by (with_reducible repeat (first | apply Kd.R_alloc | apply Kd.R_drewN | apply Kd.R_drew)); exact af.out))) (below_size (bu HB.out))); replace ac := am (Kd.R_elder' (by (with_reducible repeat (first | apply Kd.R_alloc | apply Kd.R_drewN | apply Kd.R_drew)); exact ac.out) (Kd.R_base ae) hb); replace ab := am (Kd.R_elder' (by (with_reducible repeat (first | apply Kd.R_alloc | apply Kd.R_drewN | apply Kd.R_drew)); exact ab.out) (Kd.R_base ae) hb); replace aa := am (Kd.R_elder' (by (with_reducible repeat (first | apply Kd.R_alloc | apply Kd.R_drewN | apply Kd.R_drew)); exact aa.out) (Kd.R_base ae) hb); replace ad := am (Kd.R_elder' (by (with_reducible repeat (first | apply Kd.R_alloc | apply Kd.R_drewN | apply Kd.R_drew)); exact ad.out) (Kd.R_base ae) hb); replace af := am (Kd.R_elder' (by (with_reducible repeat (first | apply Kd.R_alloc | apply Kd.R_drewN | apply Kd.R_drew)); exact af.out) (Kd.R_base ae) hb); replace HB := be HB hb; (try clear hb); (try clear hk); (try clear ae); obtain ⟨aU, aV, aW⟩ := Kd.R_slice ac.out; subst aW; obtain ⟨aX, aY, aZ⟩ := Kd.R_slice ah.out; subst aZ) | ((with_reducible refine gate_callee (f := 55) rfl ?_); refine goesL_ (some 35) rfl rfl Try.func55 (by kernel_rfl) rfl #[.slice aU an.length aV, .slice aX ax.length aY] rfl lu ?_; (with_reducible refine (codewrightref01_Add.calls k1 _ _ an _ _ ax aA _ ?side1 ?side2 ?side3 ?side4 bm.out).mono ?_); (case side1 => exact cu (Kd.R_reads' ac.out).2.2); (case side2 => exact (Kd.R_reads' ac.out).2.1); (case side3 => exact cu (Kd.R_reads' ah.out).2.2); (case side4 => exact (Kd.R_reads' ah.out).2.1); rintro e bw ⟨bi, rfl, ae, hb⟩; refine ⟨_, rfl, ?_⟩; have aC := am (Kd.R_lower (Kd.R_new' (Kd.R_new' (Kd.R_new' (Kd.R_new' (Kd.R_new' (Kd.R_new' ae (Kd.R_lt (by (with_reducible repeat (first | apply Kd.R_alloc | apply Kd.R_drewN | apply Kd.R_drew)); exact ac.out))) (Kd.R_lt (by (with_reducible repeat (first | apply Kd.R_alloc | apply Kd.R_drewN | apply Kd.R_drew)); exact ab.out))) (Kd.R_lt (by (with_reducible repeat (first | apply Kd.R_alloc | apply Kd.R_drewN | apply Kd.R_drew)); exact aa.out))) (Kd.R_lt (by (with_reducible repeat (first | apply Kd.R_alloc | apply Kd.R_drewN | apply Kd.R_drew)); exact ad.out))) (Kd.R_lt (by (with_reducible repeat (first | apply Kd.R_alloc | apply Kd.R_drewN | apply Kd.R_drew)); exact af.out))) (Kd.R_lt (by (with_reducible repeat (first | apply Kd.R_alloc | apply Kd.R_drewN | apply Kd.R_drew)); exact ah.out))) (below_size (bu HB.out))); replace ac := am (Kd.R_elder' (by (with_reducible repeat (first | apply Kd.R_alloc | apply Kd.R_drewN | apply Kd.R_drew)); exact ac.out) (Kd.R_base ae) hb); replace ab := am (Kd.R_elder' (by (with_reducible repeat (first | apply Kd.R_alloc | apply Kd.R_drewN | apply Kd.R_drew)); exact ab.out) (Kd.R_base ae) hb); replace aa := am (Kd.R_elder' (by (with_reducible repeat (first | apply Kd.R_alloc | apply Kd.R_drewN | apply Kd.R_drew)); exact aa.out) (Kd.R_base ae) hb); replace ad := am (Kd.R_elder' (by (with_reducible repeat (first | apply Kd.R_alloc | apply Kd.R_drewN | apply Kd.R_drew)); exact ad.out) (Kd.R_base ae) hb); replace af := am (Kd.R_elder' (by (with_reducible repeat (first | apply Kd.R_alloc | apply Kd.R_drewN | apply Kd.R_drew)); exact af.out) (Kd.R_base ae) hb); replace ah := am (Kd.R_elder' (by (with_reducible repeat (first | apply Kd.R_alloc | apply Kd.R_drewN | apply Kd.R_drew)); exact ah.out) (Kd.R_base ae) hb); replace HB := be HB hb; (try clear hb); (try clear hk); (try clear ae)))
     go_roundg k1
     case measure => have := HK1.out; omega
     case rel => exact ⟨(aA), (ay), (wrap64 (ag - 1)), (by first | rfl | (simp; done) | (simp [*]; done)), H', ⟨by have := HK1.out; omega⟩, ⟨by (with_reducible repeat (first | apply Kd.R_alloc | apply Kd.R_drewN | apply Kd.R_drew)); exact Kd.R_mono aC.out (fun _ hk => hk.1.1.2)⟩, ⟨by (with_reducible repeat (first | apply Kd.R_alloc | apply Kd.R_drewN | apply Kd.R_drew)); exact Kd.R_mono ad.out (fun _ hk => hk.2)⟩, ⟨by repeat (first | (with_reducible first | exact HB.out | apply below_alloc | apply pw_below_drewN | apply below_drew1) | exact HB.out)⟩⟩
    ·
     rw [if_neg aF] at H
     have aG : decide (0 ≤ ao) = false := decide_eq_false aF
     clear aF
     have H' := am H
     clear H
     go_wp2_with (first | ((with_reducible refine gate_callee (f := 184) rfl ?_); refine goesL_ (some 23) rfl rfl Try.func184 (by kernel_rfl) rfl #[.slice A1 l1.length c1, .int .i64 ag] rfl lu ?_; (with_reducible refine (codewrightref01_shift.calls k1 _ _ l1 ag ai _ ?side1 ?side2 bb.out).mono ?_); (case side1 => repeat (first | exact (Kd.C_below aN.out HB.out) | (with_reducible refine Kd.C_alloc ?_ _) | (with_reducible refine Kd.C_drewN ?_ _) | (with_reducible refine Kd.C_drew ?_))); (case side2 => first | exact aE.out | exact vz aE.out); rintro e bx ⟨aH, rfl, ae, hb⟩; refine ⟨_, rfl, ?_⟩; have aa := am (Kd.R_lower (Kd.R_new' (Kd.R_new' ae (Kd.R_lt (by (with_reducible repeat (first | apply Kd.R_alloc | apply Kd.R_drewN | apply Kd.R_drew)); exact ac.out))) (Kd.R_lt (by (with_reducible repeat (first | apply Kd.R_alloc | apply Kd.R_drewN | apply Kd.R_drew)); exact ab.out))) (below_size (bu HB.out))); replace ac := am (Kd.R_elder' (by (with_reducible repeat (first | apply Kd.R_alloc | apply Kd.R_drewN | apply Kd.R_drew)); exact ac.out) (Kd.R_base ae) hb); replace ab := am (Kd.R_elder' (by (with_reducible repeat (first | apply Kd.R_alloc | apply Kd.R_drewN | apply Kd.R_drew)); exact ab.out) (Kd.R_base ae) hb); replace HB := be HB hb; (try clear hb); (try clear ae); obtain ⟨a0, a1, a2⟩ := Kd.R_slice ab.out; subst a2; obtain ⟨a3, a4, a5⟩ := Kd.R_slice aa.out; subst a5) | ((with_reducible refine gate_callee (f := 59) rfl ?_); refine goesL_ (some 26) rfl rfl Try.func59 (by kernel_rfl) rfl #[.slice a0 ak.length a1, .slice a3 ai.length a4] rfl lu ?_; (with_reducible refine (codewrightref01_Cmp.calls k1 _ _ ak _ _ ai ao _ ?side1 ?side2 ?side3 ?side4 bd.out).mono ?_); (case side1 => exact cu (Kd.R_reads' ab.out).2.2); (case side2 => exact (Kd.R_reads' ab.out).2.1); (case side3 => exact cu (Kd.R_reads' aa.out).2.2); (case side4 => exact (Kd.R_reads' aa.out).2.1); rintro e bz ⟨rfl, hb⟩; refine ⟨_, rfl, ?_⟩; replace ac := am (Kd.R_below (by (with_reducible repeat (first | apply Kd.R_alloc | apply Kd.R_drewN | apply Kd.R_drew)); exact ac.out) hb); replace ab := am (Kd.R_below (by (with_reducible repeat (first | apply Kd.R_alloc | apply Kd.R_drewN | apply Kd.R_drew)); exact ab.out) hb); replace aa := am (Kd.R_below (by (with_reducible repeat (first | apply Kd.R_alloc | apply Kd.R_drewN | apply Kd.R_drew)); exact aa.out) hb); replace HB := be HB hb; (try clear hb)))
     go_roundg k1
     case measure => have := HK1.out; omega
     case rel => exact ⟨(an), (ak), (wrap64 (ag - 1)), (by first | rfl | (simp; done) | (simp [*]; done)), H', ⟨by have := HK1.out; omega⟩, ⟨by (with_reducible repeat (first | apply Kd.R_alloc | apply Kd.R_drewN | apply Kd.R_drew)); exact Kd.R_mono ac.out (fun _ hk => hk.1)⟩, ⟨by (with_reducible repeat (first | apply Kd.R_alloc | apply Kd.R_drewN | apply Kd.R_drew)); exact Kd.R_mono ab.out (fun _ hk => hk.1)⟩, ⟨by repeat (first | (with_reducible first | exact HB.out | apply below_alloc | apply pw_below_drewN | apply below_drew1) | exact HB.out)⟩⟩
   ·
    rw [if_neg c9] at H
    have aO : decide (0 ≤ ag) = false := decide_eq_false c9
    clear c9
    obtain ⟨aB, bn, H⟩ := bs H
    replace H : (some (aB, ak)) = some (r1, r2) := H
    simp only [Option.some.injEq, Prod.mk.injEq] at H
    obtain ⟨rfl, rfl⟩ := H
    obtain ⟨a6, a7, a8⟩ := Kd.R_slice ac.out
    subst a8
    go_wp2_with (first | ((with_reducible refine gate_callee (f := 144) rfl ?_); refine goesL_ (some 37) rfl rfl Try.func144 (by kernel_rfl) rfl #[.slice a6 an.length a7] rfl lu ?_; (with_reducible refine (codewrightref01_Trim.calls k1 _ _ an aB _ ?side1 ?side2 bn.out).mono ?_); (case side1 => exact cu (Kd.R_reads' ac.out).2.2); (case side2 => exact (Kd.R_reads' ac.out).2.1); rintro e bA ⟨bj, rfl, ae, hb⟩; refine ⟨_, rfl, ?_⟩; have aD := am (Kd.R_lower (Kd.R_new' (Kd.R_new' ae (Kd.R_lt (by (with_reducible repeat (first | apply Kd.R_alloc | apply Kd.R_drewN | apply Kd.R_drew)); exact ac.out))) (Kd.R_lt (by (with_reducible repeat (first | apply Kd.R_alloc | apply Kd.R_drewN | apply Kd.R_drew)); exact ab.out))) (below_size (bu HB.out))); replace ac := am (Kd.R_elder' (by (with_reducible repeat (first | apply Kd.R_alloc | apply Kd.R_drewN | apply Kd.R_drew)); exact ac.out) (Kd.R_base ae) hb); replace ab := am (Kd.R_elder' (by (with_reducible repeat (first | apply Kd.R_alloc | apply Kd.R_drewN | apply Kd.R_drew)); exact ab.out) (Kd.R_base ae) hb); replace HB := be HB hb; (try clear hb); (try clear ae)))
    go_ret2
    exact ⟨_, _, by first | rfl | (simp [errW_none, errW_some] <;> rfl) | (simp [*, errW_none, errW_some] <;> rfl), by (with_reducible repeat (first | apply Kd.R_alloc | apply Kd.R_drewN | apply Kd.R_drew)); exact Kd.R_mono aD.out (fun _ hk => hk.2), by (with_reducible repeat (first | apply Kd.R_alloc | apply Kd.R_drewN | apply Kd.R_drew)); exact Kd.R_mono ab.out (fun _ hk => hk.2), by repeat (first | (with_reducible first | exact HB.out | apply below_alloc | apply pw_below_drewN | apply below_drew1) | exact HB.out)⟩
def codewrightref01_Gcd.l0 : Nat → List Int → List Int → Option (List Int)
 | 0, _, _ => none
 | k + 1, x0, x1 => (codewrightref01_Zero.f k x1).bind fun t1093 => (if t1093 = true then ((codewrightref01_Trim.f k x0).bind fun t1094 => (some t1094)) else ((codewrightref01_DivMod.f k x0 x1).bind fun bt1097 => (codewrightref01_Gcd.l0 k x1 bt1097.2)))
def codewrightref01_Gcd.f (k : Nat) (l0 : List Int) (l1 : List Int) : Option (List Int) := codewrightref01_Gcd.l0 k l0 l1
theorem codewrightref01_Gcd.calls (k : Nat) (P0_ : Nat → Prop) (A0 : Option Addr) (c0 : Nat) (l0 : List Int) (P1_ : Nat → Prop) (A1 : Option Addr) (c1 : Nat) (l1 : List Int) (r : List Int) (w : World) (hs0 : Kd.V (Kd.int .u32) 48 w w.heap.size (fun k_ => P0_ k_) (.slice A0 l0.length c0) l0) (hs1 : Kd.V (Kd.int .u32) 48 w w.heap.size (fun k_ => P1_ k_) (.slice A1 l1.length c1) l1) (h : codewrightref01_Gcd.f k l0 l1 = some r) :
 Calls Try.prog 156 #[.slice A0 l0.length c0, .slice A1 l1.length c1] w fun e w' => ∃ v0_ : Value, e = .returned (v0_) ∧ Kd.R (Kd.int .u32) 48 w' w.heap.size (fun k_ => (w.heap.size ≤ k_)) v0_ r ∧ Below w.heap.size w w' := by
 have aB := am (show Kd.V (Kd.int .u32) 48 w w.heap.size (fun k_ => ((P0_ k_ ∨ P1_ k_) ∨ w.heap.size ≤ k_)) (.slice A0 l0.length c0) l0 from Kd.V_mono hs0 (fun k_ hk => .inl (.inl hk)))
 have aC := am (show Kd.V (Kd.int .u32) 48 w w.heap.size (fun k_ => ((P0_ k_ ∨ P1_ k_) ∨ w.heap.size ≤ k_)) (.slice A1 l1.length c1) l1 from Kd.V_mono hs1 (fun k_ hk => .inl (.inr hk)))
 have HB := am (Below.refl w.heap.size w)
 have H : (codewrightref01_Gcd.l0 k l0 l1) = some r := h
 clear h
 have H' := am H
 clear H
 go_enter Try.func156, Try.ntmps156
 go_wp2
 go_loopg [0, 1] k (fun kq v0 v1 w' => ∃ (ad : List Int) (ac : List Int), Aside0 (codewrightref01_Gcd.l0 kq ad ac = some r) ∧ Aside0 (kq ≤ k) ∧ Aside0 (Kd.V (Kd.int .u32) 48 w' w.heap.size (fun k_ => ((P0_ k_ ∨ P1_ k_) ∨ w.heap.size ≤ k_)) v0 ad) ∧ Aside0 (Kd.V (Kd.int .u32) 48 w' w.heap.size (fun k_ => ((P0_ k_ ∨ P1_ k_) ∨ w.heap.size ≤ k_)) v1 ac) ∧ Aside0 (Below w.heap.size w w'))
 case atStart => exact ⟨(l0), (l1), H', ⟨Nat.le_refl _⟩, ⟨by (with_reducible repeat (first | apply Kd.V_alloc | apply Kd.V_drewN | apply Kd.V_drew)); exact aB.out⟩, ⟨by (with_reducible repeat (first | apply Kd.V_alloc | apply Kd.V_drewN | apply Kd.V_drew)); exact aC.out⟩, ⟨by repeat (first | (with_reducible first | exact HB.out | apply below_alloc | apply pw_below_drewN | apply below_drew1) | exact HB.out)⟩⟩
 case round =>
  clear H'
  try clear c1
  try clear p2
  obtain ⟨ad, ac, HA, HK1, ab, aa, HB⟩ := hrel
  cases gk with
  | zero => exact absurd HA.out (by simp [codewrightref01_Gcd.l0])
  | succ k1 =>
   have H := HA.out
   clear HA
   simp only [codewrightref01_Gcd.l0] at H
   obtain ⟨ak, A3, H⟩ := bs H
   (try dsimp -simprocs only at H)
   by_cases c4 : ak = true
   ·
    subst c4
    have H1 : ((codewrightref01_Trim.f k1 ad).bind fun ae => (some ae)) = some r := by rw [if_pos rfl] at H; exact H
    clear H
    have H := H1
    clear H1
    obtain ⟨ae, A5, H⟩ := bs H
    replace H : (some ae) = some r := H
    obtain rfl := Option.some.inj H
    obtain ⟨aD, aE, aF⟩ := Kd.V_slice aa.out
    subst aF
    go_wp2_with (first | ((with_reducible refine gate_callee (f := 150) rfl ?_); refine goesL_ (some 8) rfl rfl Try.func150 (by kernel_rfl) rfl #[.slice aD ac.length aE] rfl lu ?_; (with_reducible refine (codewrightref01_Zero.calls k1 _ _ ac true _ ?side1 ?side2 A3.out).mono ?_); (case side1 => exact cu (Kd.V_reads' aa.out).2.2); (case side2 => exact (Kd.V_reads' aa.out).2.1); rintro e w7 ⟨rfl, hb⟩; refine ⟨_, rfl, ?_⟩; replace ab := kv ab hb; replace aa := kv aa hb; replace HB := be HB hb; (try clear hb); obtain ⟨aG, aH, aI⟩ := Kd.V_slice ab.out; subst aI) | ((with_reducible refine gate_callee (f := 144) rfl ?_); refine goesL_ (some 19) rfl rfl Try.func144 (by kernel_rfl) rfl #[.slice aG ad.length aH] rfl lu ?_; (with_reducible refine (codewrightref01_Trim.calls k1 _ _ ad ae _ ?side1 ?side2 A5.out).mono ?_); (case side1 => exact cu (Kd.V_reads' ab.out).2.2); (case side2 => exact (Kd.V_reads' ab.out).2.1); rintro e w9 ⟨ay, rfl, af, hb⟩; refine ⟨_, rfl, ?_⟩; replace ab := am (Kd.V_elder' (vu ab.out) (Kd.R_base af) hb); replace aa := am (Kd.V_elder' (vu aa.out) (Kd.R_base af) hb); have ah := am (Kd.R_lower (Kd.R_newM (M := fun k_ => (w.heap.size ≤ k_)) af (below_size (bu HB.out)) (fun k_ h_ => h_)) (below_size (bu HB.out))); replace HB := be HB hb; (try clear hb); (try clear af)))
    go_ret
    exact ⟨_, by first | rfl | (simp [errW_none, errW_some] <;> rfl) | (simp [*, errW_none, errW_some] <;> rfl), by (with_reducible repeat (first | apply Kd.R_alloc | apply Kd.R_drewN | apply Kd.R_drew)); exact Kd.R_mono ah.out (fun _ hk => hk.1), by repeat (first | (with_reducible first | exact HB.out | apply below_alloc | apply pw_below_drewN | apply below_drew1) | exact HB.out)⟩
   ·
    replace c4 := Bool.eq_false_iff.mpr c4
    subst c4
    have H1 : ((codewrightref01_DivMod.f k1 ad ac).bind fun ai => (codewrightref01_Gcd.l0 k1 ac ai.2)) = some r := by rw [if_neg (show ¬ (false = true) by decide)] at H; exact H
    clear H
    have H := H1
    clear H1
    obtain ⟨⟨al, ag⟩, aJ, H⟩ := bs H
    (try dsimp -simprocs only at H)
    have H' := am H
    clear H
    obtain ⟨an, ao, aq⟩ := Kd.V_slice aa.out
    subst aq
    go_wp2_with (first | ((with_reducible refine gate_callee (f := 150) rfl ?_); refine goesL_ (some 8) rfl rfl Try.func150 (by kernel_rfl) rfl #[.slice an ac.length ao] rfl lu ?_; (with_reducible refine (codewrightref01_Zero.calls k1 _ _ ac false _ ?side1 ?side2 A3.out).mono ?_); (case side1 => exact cu (Kd.V_reads' aa.out).2.2); (case side2 => exact (Kd.V_reads' aa.out).2.1); rintro e aK ⟨rfl, hb⟩; refine ⟨_, rfl, ?_⟩; replace ab := kv ab hb; replace aa := kv aa hb; replace HB := be HB hb; (try clear hb); obtain ⟨au, av, aw⟩ := Kd.V_slice ab.out; subst aw) | ((with_reducible refine gate_callee (f := 157) rfl ?_); refine goesL_ (some 13) rfl rfl Try.func157 (by kernel_rfl) rfl #[.slice au ad.length av, .slice an ac.length ao] rfl lu ?_; (with_reducible refine (codewrightref01_DivMod.calls k1 _ _ ad _ _ ac al ag _ ?side1 ?side2 ?side3 ?side4 aJ.out).mono ?_); (case side1 => exact cu (Kd.V_reads' ab.out).2.2); (case side2 => exact (Kd.V_reads' ab.out).2.1); (case side3 => exact cu (Kd.V_reads' aa.out).2.2); (case side4 => exact (Kd.V_reads' aa.out).2.1); rintro e aL ⟨az, aA, rfl, af, ap, hb⟩; refine ⟨_, rfl, ?_⟩; replace ab := am (Kd.V_mono (Kd.V_told (Kd.V_told (Kd.V_old (vu ab.out) hb) (Kd.R_base af)) (Kd.R_base ap)) (fun _ h_ => h_.1)); replace aa := am (Kd.V_mono (Kd.V_told (Kd.V_told (Kd.V_old (vu aa.out) hb) (Kd.R_base af)) (Kd.R_base ap)) (fun _ h_ => h_.1)); have ax := am (Kd.R_lower (Kd.R_newM (M := fun k_ => (w.heap.size ≤ k_)) af (below_size (bu HB.out)) (fun k_ h_ => h_)) (below_size (bu HB.out))); have aj := am (Kd.R_lower (Kd.R_newM (M := fun k_ => (w.heap.size ≤ k_)) ap (below_size (bu HB.out)) (fun k_ h_ => h_)) (below_size (bu HB.out))); replace HB := be HB hb; (try clear hb); (try clear af); (try clear ap)))
    go_roundg k1
    case measure => have := HK1.out; omega
    case rel => exact ⟨(ac), (ag), H', ⟨by have := HK1.out; omega⟩, ⟨by exact vz aa.out⟩, ⟨Kd.V_mono (Kd.R_V (by (with_reducible repeat (first | apply Kd.R_alloc | apply Kd.R_drewN | apply Kd.R_drew)); exact Kd.R_mono aj.out (fun _ hk => hk.1))) (fun k_ hk => by first | exact ⟨(.inr (hk.1)), hk.2⟩ | exact (.inr (hk)))⟩, ⟨by repeat (first | (with_reducible first | exact HB.out | apply below_alloc | apply pw_below_drewN | apply below_drew1) | exact HB.out)⟩⟩
def codewrightref02_Make.j0 : Nat → Bool → List Int → List Int → Bool → Option (Bool × List Int × List Int)
 | 0, _, _, _, _ => none
 | k + 1, x0, x1, x2, x17 => if x17 = true then (some (false, (([] : List Int)), (([1] : List Int)))) else ((codewrightref01_Gcd.f k x1 x2).bind fun t1112 => ((codewrightref01_DivMod.f k x1 t1112).bind fun bt1115 => ((codewrightref01_DivMod.f k x2 t1112).bind fun bt1121 => (some (x0, bt1115.1, bt1121.1)))))
def codewrightref02_Make.f (k : Nat) (a0 : Bool) (l1 : List Int) (l2 : List Int) : Option (Bool × List Int × List Int) := (codewrightref01_Zero.f k l1).bind fun t1104 => (if t1104 = true then (codewrightref02_Make.j0 k a0 l1 l2 true) else ((codewrightref01_Zero.f k l2).bind fun t1105 => (codewrightref02_Make.j0 k a0 l1 l2 t1105)))
theorem codewrightref02_Make.calls (k : Nat) (a0 : Bool) (P1_ : Nat → Prop) (A1 : Option Addr) (c1 : Nat) (l1 : List Int) (P2_ : Nat → Prop) (A2 : Option Addr) (c2 : Nat) (l2 : List Int) (r1 : Bool) (r2 : List Int) (r3 : List Int) (w : World) (hs1 : Kd.V (Kd.int .u32) 48 w w.heap.size (fun k_ => P1_ k_) (.slice A1 l1.length c1) l1) (hs2 : Kd.V (Kd.int .u32) 48 w w.heap.size (fun k_ => P2_ k_) (.slice A2 l2.length c2) l2) (h : codewrightref02_Make.f k a0 l1 l2 = some (r1, r2, r3)) :
 Calls Try.prog 80 #[.bool a0, .slice A1 l1.length c1, .slice A2 l2.length c2] w fun e w' => ∃ v1_ v2_ : Value, e = .returned (.agg #[.bool r1, v1_, v2_]) ∧ Kd.V (Kd.int .u32) 48 w' w.heap.size (fun k_ => ((P1_ k_ ∨ P2_ k_) ∨ w.heap.size ≤ k_)) v1_ r2 ∧ Kd.V (Kd.int .u32) 48 w' w.heap.size (fun k_ => ((P1_ k_ ∨ P2_ k_) ∨ w.heap.size ≤ k_)) v2_ r3 ∧ Below w.heap.size w w' := by
 have bq := Try.underlying67
 have ap := am (show Kd.V (Kd.int .u32) 48 w w.heap.size (fun k_ => ((P1_ k_ ∨ P2_ k_) ∨ w.heap.size ≤ k_)) (.slice A1 l1.length c1) l1 from Kd.V_mono hs1 (fun k_ hk => .inl (.inl hk)))
 have aw := am (show Kd.V (Kd.int .u32) 48 w w.heap.size (fun k_ => ((P1_ k_ ∨ P2_ k_) ∨ w.heap.size ≤ k_)) (.slice A2 l2.length c2) l2 from Kd.V_mono hs2 (fun k_ hk => .inl (.inr hk)))
 have HB := am (Below.refl w.heap.size w)
 have H : ((codewrightref01_Zero.f k l1).bind fun ax => (if ax = true then (codewrightref02_Make.j0 k a0 l1 l2 true) else ((codewrightref01_Zero.f k l2).bind fun aj => (codewrightref02_Make.j0 k a0 l1 l2 aj)))) = some (r1, r2, r3) := h
 clear h
 have a5 := am H
 clear H
 go_enter Try.func80, Try.ntmps80
 go_upto_region 1 with (first | ((with_reducible refine gate_dst (N := 6) rfl ?_); refine box_event ?hg (N := 6) ?hd (cs := #[.bool false, .slice none 0 0, .slice none 0 0]) (t := 67) ?hr ?_; (case hd => rfl); (case hg => rfl); (case hr => first | (go_simp; done) | (go_simp; rfl)); intro ac hg w5 hbox hb; replace ap := ke ap hg hb; replace aw := ke aw hg hb; have aa := am (hbox); have a6 := ng hg (bu HB.out); have ab := ng hg (bu HB.out); replace HB := be HB hb; clear hb hbox hg))
 (try simp only [Act.put, List.setIfInBounds_toArray, List.set_cons_zero, List.set_cons_succ])
 go_cut [17] (fun br wc => ∃ (kq : Nat) (aq : Bool), br = .bool aq ∧ Aside0 (codewrightref02_Make.j0 kq a0 l1 l2 aq = some (r1, r2, r3)) ∧ Aside0 (kq ≤ k) ∧ Aside0 (Kd.V (Kd.int .u32) 48 wc w.heap.size (fun k_ => ((P1_ k_ ∨ P2_ k_) ∨ w.heap.size ≤ k_) ∧ k_ ≠ ac) (.slice A1 l1.length c1) l1) ∧ Aside0 (Kd.V (Kd.int .u32) 48 wc w.heap.size (fun k_ => ((P1_ k_ ∨ P2_ k_) ∨ w.heap.size ≤ k_) ∧ k_ ≠ ac) (.slice A2 l2.length c2) l2) ∧ Aside0 (wc.heap[ac]? = some (.cells #[.bool false, (.slice none 0 0), (.slice none 0 0)] 67 (0, 0))) ∧ Aside0 (Below w.heap.size w wc))
 case first =>
  have H := a5.out
  clear a5
  obtain ⟨ax, A6, H⟩ := bs H
  (try dsimp -simprocs only at H)
  by_cases c7 : ax = true
  ·
   subst c7
   have H1 : (codewrightref02_Make.j0 k a0 l1 l2 true) = some (r1, r2, r3) := by rw [if_pos rfl] at H; exact H
   clear H
   have H := H1
   clear H1
   have H' := am H
   clear H
   go_wp2_with (first | ((with_reducible refine gate_callee (f := 150) rfl ?_); refine goesL_ (some 13) rfl rfl Try.func150 (by kernel_rfl) rfl #[.slice A1 l1.length c1] rfl lu ?_; (with_reducible refine (codewrightref01_Zero.calls k _ _ l1 true _ ?side1 ?side2 A6.out).mono ?_); (case side1 => exact cu (Kd.V_reads' ap.out).2.2); (case side2 => exact (Kd.V_reads' ap.out).2.1); rintro e w8 ⟨rfl, hb⟩; refine ⟨_, rfl, ?_⟩; replace ap := kv ap hb; replace aw := kv aw hb; replace aa := kb aa hb; replace HB := be1 HB ab hb; (try clear hb)))
   go_meet
   case rel => exact ⟨_, (true), (by first | rfl | (simp; done) | (simp [*]; done)), H', ⟨by first | omega | exact Nat.le_refl _⟩, ⟨by (with_reducible repeat (first | apply Kd.V_alloc | apply Kd.V_drewN | apply Kd.V_drew)); exact ap.out⟩, ⟨by (with_reducible repeat (first | apply Kd.V_alloc | apply Kd.V_drewN | apply Kd.V_drew)); exact aw.out⟩, ⟨by (with_reducible repeat (first | refine blk_drewN ?_ _ | refine blk_drew ?_ | refine blk_alloc ?_ _)); exact aa.out⟩, ⟨by repeat (first | (with_reducible first | exact HB.out | apply below_alloc | apply pw_below_drewN | apply below_drew1 | refine below_set ?_ ab.out) | exact HB.out)⟩⟩
  ·
   replace c7 := Bool.eq_false_iff.mpr c7
   subst c7
   have H1 : ((codewrightref01_Zero.f k l2).bind fun aj => (codewrightref02_Make.j0 k a0 l1 l2 aj)) = some (r1, r2, r3) := by rw [if_neg (show ¬ (false = true) by decide)] at H; exact H
   clear H
   have H := H1
   clear H1
   obtain ⟨aj, A9, H⟩ := bs H
   (try dsimp -simprocs only at H)
   have H' := am H
   clear H
   go_wp2_with (first | ((with_reducible refine gate_callee (f := 150) rfl ?_); refine goesL_ (some 13) rfl rfl Try.func150 (by kernel_rfl) rfl #[.slice A1 l1.length c1] rfl lu ?_; (with_reducible refine (codewrightref01_Zero.calls k _ _ l1 false _ ?side1 ?side2 A6.out).mono ?_); (case side1 => exact cu (Kd.V_reads' ap.out).2.2); (case side2 => exact (Kd.V_reads' ap.out).2.1); rintro e bA ⟨rfl, hb⟩; refine ⟨_, rfl, ?_⟩; replace ap := kv ap hb; replace aw := kv aw hb; replace aa := kb aa hb; replace HB := be1 HB ab hb; (try clear hb)) | (go_at_call 150; (with_reducible refine (codewrightref01_Zero.calls k _ _ l2 aj _ ?side1 ?side2 A9.out).mono ?_); (case side1 => exact cu (Kd.V_reads' aw.out).2.2); (case side2 => exact (Kd.V_reads' aw.out).2.1); rintro e bB ⟨rfl, hb⟩; replace ap := kv ap hb; replace aw := kv aw hb; replace aa := kb aa hb; replace HB := be1 HB ab hb; (try clear hb)))
   go_meet
   case rel => exact ⟨_, (aj), (by first | rfl | (simp; done) | (simp [*]; done)), H', ⟨by first | omega | exact Nat.le_refl _⟩, ⟨by (with_reducible repeat (first | apply Kd.V_alloc | apply Kd.V_drewN | apply Kd.V_drew)); exact ap.out⟩, ⟨by (with_reducible repeat (first | apply Kd.V_alloc | apply Kd.V_drewN | apply Kd.V_drew)); exact aw.out⟩, ⟨by (with_reducible repeat (first | refine blk_drewN ?_ _ | refine blk_drew ?_ | refine blk_alloc ?_ _)); exact aa.out⟩, ⟨by repeat (first | (with_reducible first | exact HB.out | apply below_alloc | apply pw_below_drewN | apply below_drew1 | refine below_set ?_ ab.out) | exact HB.out)⟩⟩
 case rest =>
  clear a5
  try clear c1
  try clear c2
  try clear p2
  try clear c7
  try clear c8
  obtain ⟨kq, aq, rfl, HA, HJ3, ae, af, aa, HB⟩ := hcut
  cases kq with
  | zero => exact absurd HA.out (by simp [codewrightref02_Make.j0])
  | succ kj3 =>
   have H := HA.out
   clear HA
   simp only [codewrightref02_Make.j0] at H
   by_cases aR : aq = true
   ·
    subst aR
    have H1 : (some (false, (([] : List Int)), (([1] : List Int)))) = some (r1, r2, r3) := by rw [if_pos rfl] at H; exact H
    clear H
    have H := H1
    clear H1
    obtain ⟨au, ah⟩ : ∃ y_ : List Int, y_ = (([] : List Int)) := ⟨_, rfl⟩
    replace H : (some (false, au, (([1] : List Int)))) = some (r1, r2, r3) := by first | (rw [ah]; with_reducible exact H) | (have H2_ := (Option.bind_some _ _).symm.trans H; rw [ah]; with_reducible exact H2_) | (have H2_ := (Option.bind_some _ _).symm.trans H; with_reducible exact H2_) | with_reducible exact H | (rw [ah]; exact H) | exact H
    have ay := am ah
    clear ah
    obtain ⟨az, an⟩ : ∃ y_ : List Int, y_ = (([1] : List Int)) := ⟨_, rfl⟩
    rw [← an] at H
    have aA := am an
    clear an
    simp only [Option.some.injEq, Prod.mk.injEq] at H
    obtain ⟨rfl, rfl, rfl⟩ := H
    go_wp2_with (first | ((with_reducible refine gate_dst (N := 18) rfl ?_); refine Kd.R_lit (Kd.int .u32) _ 48 ?hg (N := 18) ?hd (xs := ([] : List Int)) (inner := []) (ok := fun _ => True) (okp := fun _ => True) ?hr ?hp (fun _ hk => hk) trivial (Below.refl _ _) (Nat.le_refl _) (by simp) ?_; (case hd => rfl); (case hg => rfl); (case hr => first | (go_simp; done) | (go_simp; rfl)); (case hp => exact (Reps.none _ _)); intro bj bC ao hb hg_ hnew_; clear hg_ hnew_; (first | rw [← ay.out] at ao | (simp only [Int.reduceToNat] at ao; rw [← ay.out] at ao)); replace ae := am (Kd.V_elder' (vu ae.out) (Kd.R_base ao) hb); replace af := am (Kd.V_elder' (vu af.out) (Kd.R_base ao) hb); have ai := am (Kd.R_lower (Kd.R_newM (M := fun k_ => (w.heap.size ≤ k_)) ao (below_size (bu1 HB.out ab.out)) (fun k_ h_ => h_)) (below_size (bu1 HB.out ab.out))); replace aa := kb aa hb; replace HB := be1 HB ab hb; clear hb ao) | ((with_reducible refine gate_dst (N := 19) rfl ?_); refine Kd.R_lit (Kd.int .u32) _ 48 ?hg (N := 19) ?hd (xs := ([1] : List Int)) (inner := [.int .u32 1]) (ok := fun _ => True) (okp := fun _ => True) ?hr ?hp (fun _ hk => hk) trivial (Below.refl _ _) (Nat.le_refl _) (by simp) ?_; (case hd => rfl); (case hg => rfl); (case hr => first | (go_simp; done) | (go_simp; rfl)); (case hp => exact (Reps.one (show Kd.M (Kd.int .u32) _ _ _ 1 [.int .u32 1] from rfl) (Reps.none _ _))); intro bk bD al hb hg_ hnew_; clear hg_ hnew_; (first | rw [← aA.out] at al | (simp only [Int.reduceToNat] at al; rw [← aA.out] at al)); replace ae := am (Kd.V_elder' (vu ae.out) (Kd.R_base al) hb); replace af := am (Kd.V_elder' (vu af.out) (Kd.R_base al) hb); have aB := am (Kd.R_lower (Kd.R_new' (Kd.R_newM (M := fun k_ => (w.heap.size ≤ k_)) al (below_size (bu1 HB.out ab.out)) (fun k_ h_ => h_)) (Kd.R_lt (by (with_reducible repeat (first | apply Kd.R_alloc | apply Kd.R_drewN | apply Kd.R_drew)); exact ai.out))) (below_size (bu1 HB.out ab.out))); replace ai := am (Kd.R_elder' (by (with_reducible repeat (first | apply Kd.R_alloc | apply Kd.R_drewN | apply Kd.R_drew)); exact ai.out) (Kd.R_base al) hb); replace aa := kb aa hb; replace HB := be1 HB ab hb; clear hb al; obtain ⟨aH, aI, a7⟩ := Kd.R_slice aB.out; subst a7; obtain ⟨aJ, aK, a8⟩ := Kd.R_slice ai.out; subst a8; obtain ⟨aS, aT, aU, aV, aW, aX⟩ := bz aa))
    refine bodyPost_ret (results_cell_row rfl _ _ ac 67 #[.bool false, .slice aJ au.length aK, .slice aH az.length aI] (0, 0) _ rfl (kp aa.out) Try.underlying67 rfl (by kernel_rfl)) rfl ?_
    exact ⟨_, _, by first | rfl | (simp [errW_none, errW_some] <;> rfl) | (simp [*, errW_none, errW_some] <;> rfl), Kd.V_mono (Kd.R_V (by (with_reducible repeat (first | apply Kd.R_alloc | apply Kd.R_drewN | apply Kd.R_drew)); exact Kd.R_mono (Kd.R_far (p := ⟨ac, 2, none⟩) (Kd.R_far (p := ⟨ac, 1, none⟩) (Kd.R_far (p := ⟨ac, 0, none⟩) (Kd.R_types ai.out aa.out (by decide)) (fun _ hk => hk.2) (.bool false)) (fun _ hk => hk.2) (.slice aJ au.length aK)) (fun _ hk => hk.2) (.slice aH az.length aI)) (fun _ hk => hk.1.1.1))) (fun k_ hk => by first | exact ⟨(.inr (hk.1)), hk.2⟩ | exact (.inr (hk))), Kd.V_mono (Kd.R_V (by (with_reducible repeat (first | apply Kd.R_alloc | apply Kd.R_drewN | apply Kd.R_drew)); exact Kd.R_mono (Kd.R_far (p := ⟨ac, 2, none⟩) (Kd.R_far (p := ⟨ac, 1, none⟩) (Kd.R_far (p := ⟨ac, 0, none⟩) (Kd.R_types aB.out aa.out (by decide)) (fun _ hk => hk.2) (.bool false)) (fun _ hk => hk.2) (.slice aJ au.length aK)) (fun _ hk => hk.2) (.slice aH az.length aI)) (fun _ hk => hk.1.1.1))) (fun k_ hk => by first | exact ⟨(.inr (hk.1)), hk.2⟩ | exact (.inr (hk))), by repeat (first | (with_reducible first | exact HB.out | apply below_alloc | apply pw_below_drewN | apply below_drew1 | refine below_set ?_ ab.out) | exact HB.out)⟩
   ·
    replace aR := Bool.eq_false_iff.mpr aR
    subst aR
    have H1 : ((codewrightref01_Gcd.f kj3 l1 l2).bind fun ag => ((codewrightref01_DivMod.f kj3 l1 ag).bind fun aL => ((codewrightref01_DivMod.f kj3 l2 ag).bind fun aM => (some (a0, aL.1, aM.1))))) = some (r1, r2, r3) := by rw [if_neg (show ¬ (false = true) by decide)] at H; exact H
    clear H
    have H := H1
    clear H1
    obtain ⟨ag, bv, H⟩ := bs H
    (try dsimp -simprocs only at H)
    obtain ⟨⟨aF, aN⟩, bw, H⟩ := bs H
    (try dsimp -simprocs only at H)
    obtain ⟨⟨aG, aO⟩, bx, H⟩ := bs H
    (try dsimp -simprocs only at H)
    simp only [Option.some.injEq, Prod.mk.injEq] at H
    obtain ⟨rfl, rfl, rfl⟩ := H
    go_wp2_with (first | ((with_reducible refine gate_callee (f := 156) rfl ?_); refine goesL_ (some 23) rfl rfl Try.func156 (by kernel_rfl) rfl #[.slice A1 l1.length c1, .slice A2 l2.length c2] rfl lu ?_; (with_reducible refine (codewrightref01_Gcd.calls kj3 (fun k_ => (((P1_ k_ ∨ P2_ k_) ∨ w.heap.size ≤ k_) ∧ k_ ≠ ac)) _ _ l1 (fun k_ => (((P1_ k_ ∨ P2_ k_) ∨ w.heap.size ≤ k_) ∧ k_ ≠ ac)) _ _ l2 ag _ ?side1 ?side2 bv.out).mono ?_); (case side1 => exact vz ae.out); (case side2 => exact vz af.out); rintro e bE ⟨bl, rfl, av, hb⟩; refine ⟨_, rfl, ?_⟩; replace av := R_V_base rfl av; replace ae := kv ae hb; replace af := kv af hb; have ad := ar0 w.heap.size (ok' := fun k_ => ((P1_ k_ ∨ P2_ k_) ∨ w.heap.size ≤ k_) ∧ k_ ≠ ac) av (fa (fz1 HB ab) (fb aa)); replace aa := kb aa hb; replace HB := be1 HB ab hb; (try clear hb); (try clear av); obtain ⟨aP, aQ, a9⟩ := Kd.V_slice ad.out; subst a9) | ((with_reducible refine gate_callee (f := 157) rfl ?_); refine goesL_ (some 27) rfl rfl Try.func157 (by kernel_rfl) rfl #[.slice A1 l1.length c1, .slice aP ag.length aQ] rfl lu ?_; (with_reducible refine (codewrightref01_DivMod.calls kj3 _ _ l1 _ _ ag aF aN _ ?side1 ?side2 ?side3 ?side4 bw.out).mono ?_); (case side1 => exact cu (Kd.V_reads' ae.out).2.2); (case side2 => exact (Kd.V_reads' ae.out).2.1); (case side3 => exact cu (Kd.V_reads' ad.out).2.2); (case side4 => exact (Kd.V_reads' ad.out).2.1); rintro e bF ⟨bm, bn, rfl, av, aE, hb⟩; refine ⟨_, rfl, ?_⟩; replace av := R_V_base rfl av; replace aE := R_V_base rfl aE; replace ae := kv ae hb; replace af := kv af hb; replace ad := kv ad hb; have ak := ar0 w.heap.size (ok' := fun k_ => ((P1_ k_ ∨ P2_ k_) ∨ w.heap.size ≤ k_) ∧ k_ ≠ ac) av (fa (fz1 HB ab) (fb aa)); have aC := ar0 w.heap.size (ok' := fun k_ => ((P1_ k_ ∨ P2_ k_) ∨ w.heap.size ≤ k_) ∧ k_ ≠ ac) aE (fa (fz1 HB ab) (fb aa)); replace aa := kb aa hb; replace HB := be1 HB ab hb; (try clear hb); (try clear av); (try clear aE)) | ((with_reducible refine gate_callee (f := 157) rfl ?_); refine goesL_ (some 33) rfl rfl Try.func157 (by kernel_rfl) rfl #[.slice A2 l2.length c2, .slice aP ag.length aQ] rfl lu ?_; (with_reducible refine (codewrightref01_DivMod.calls kj3 _ _ l2 _ _ ag aG aO _ ?side1 ?side2 ?side3 ?side4 bx.out).mono ?_); (case side1 => exact cu (Kd.V_reads' af.out).2.2); (case side2 => exact (Kd.V_reads' af.out).2.1); (case side3 => exact cu (Kd.V_reads' ad.out).2.2); (case side4 => exact (Kd.V_reads' ad.out).2.1); rintro e bG ⟨bo, bp, rfl, av, aE, hb⟩; refine ⟨_, rfl, ?_⟩; replace av := R_V_base rfl av; replace aE := R_V_base rfl aE; replace ae := kv ae hb; replace af := kv af hb; replace ad := kv ad hb; replace ak := kv ak hb; replace aC := kv aC hb; have aD := ar0 w.heap.size (ok' := fun k_ => ((P1_ k_ ∨ P2_ k_) ∨ w.heap.size ≤ k_) ∧ k_ ≠ ac) av (fa (fz1 HB ab) (fb aa)); have ba := ar0 w.heap.size (ok' := fun k_ => ((P1_ k_ ∨ P2_ k_) ∨ w.heap.size ≤ k_) ∧ k_ ≠ ac) aE (fa (fz1 HB ab) (fb aa)); replace aa := kb aa hb; replace HB := be1 HB ab hb; (try clear hb); (try clear av); (try clear aE); obtain ⟨bb, bd, bf⟩ := Kd.V_slice aD.out; subst bf; obtain ⟨bg, bh, bi⟩ := Kd.V_slice ak.out; subst bi; obtain ⟨aY, aZ, a1, a2, a3, a4⟩ := bz aa))
    refine bodyPost_ret (results_cell_row rfl _ _ ac 67 #[.bool a0, .slice bg aF.length bh, .slice bb aG.length bd] (0, 0) _ rfl (kp aa.out) Try.underlying67 rfl (by kernel_rfl)) rfl ?_
    exact ⟨_, _, by first | rfl | (simp [errW_none, errW_some] <;> rfl) | (simp [*, errW_none, errW_some] <;> rfl), by exact vf ak.out, by exact vf aD.out, by repeat (first | (with_reducible first | exact HB.out | apply below_alloc | apply pw_below_drewN | apply below_drew1 | refine below_set ?_ ab.out) | exact HB.out)⟩
def codewrightref01_Of.f (k : Nat) (a0 : Int) : Option (List Int) := (codewrightref01_Trim.f k (([(Int.tmod a0 4294967296) % 4294967296, (IntKind.u64.wrap (Int.tdiv a0 4294967296)) % 4294967296] : List Int))).bind fun t1205 => (some t1205)
theorem codewrightref01_Of.calls (k : Nat) (a0 : Int) (r : List Int) (w : World) (h : codewrightref01_Of.f k a0 = some r) :
 Calls Try.prog 169 #[.int .u64 a0] w fun e w' => ∃ v0_ : Value, e = .returned (v0_) ∧ Kd.R (Kd.int .u32) 48 w' w.heap.size (fun _ => True) v0_ r ∧ Below w.heap.size w w' := by
 have HB := am (Below.refl w.heap.size w)
 have H : ((codewrightref01_Trim.f k (([(Int.tmod a0 4294967296) % 4294967296, (IntKind.u64.wrap (Int.tdiv a0 4294967296)) % 4294967296] : List Int))).bind fun ac => (some ac)) = some r := h
 clear h
 obtain ⟨ae, ab⟩ : ∃ y_ : List Int, y_ = (([(Int.tmod a0 4294967296) % 4294967296, (IntKind.u64.wrap (Int.tdiv a0 4294967296)) % 4294967296] : List Int)) := ⟨_, rfl⟩
 rw [← ab] at H
 have ad := am ab
 clear ab
 obtain ⟨ac, A2, H⟩ := bs H
 replace H : (some ac) = some r := H
 obtain rfl := Option.some.inj H
 go_enter Try.func169, Try.ntmps169
 go_wp2_with (first | ((with_reducible refine gate_dst (N := 9) rfl ?_); refine Kd.R_lit (Kd.int .u32) _ 48 ?hg (N := 9) ?hd (xs := ([(Int.tmod a0 4294967296) % 4294967296, (IntKind.u64.wrap (Int.tdiv a0 4294967296)) % 4294967296] : List Int)) (inner := [.int .u32 ((Int.tmod a0 4294967296) % 4294967296), .int .u32 ((IntKind.u64.wrap (Int.tdiv a0 4294967296)) % 4294967296)]) (ok := fun _ => True) (okp := fun _ => True) ?hr ?hp (fun _ hk => hk) trivial (Below.refl _ _) (Nat.le_refl _) (by simp) ?_; (case hd => rfl); (case hg => rfl); (case hr => first | (go_simp; done) | (go_simp; rfl)); (case hp => exact (Reps.one (show Kd.M (Kd.int .u32) _ _ _ ((Int.tmod a0 4294967296) % 4294967296) [.int .u32 ((Int.tmod a0 4294967296) % 4294967296)] from rfl) (Reps.one (show Kd.M (Kd.int .u32) _ _ _ ((IntKind.u64.wrap (Int.tdiv a0 4294967296)) % 4294967296) [.int .u32 ((IntKind.u64.wrap (Int.tdiv a0 4294967296)) % 4294967296)] from rfl) (Reps.none _ _)))); intro ai w3 ag hb hg_ hnew_; clear hg_ hnew_; (first | rw [← ad.out] at ag | (simp only [Int.reduceToNat] at ag; rw [← ad.out] at ag)); have aa := am (Kd.R_lower ag (below_size (bu HB.out))); replace HB := be HB hb; clear hb ag; obtain ⟨ak, al, an⟩ := Kd.R_slice aa.out; subst an) | ((with_reducible refine gate_callee (f := 144) rfl ?_); refine goesL_ (some 10) rfl rfl Try.func144 (by kernel_rfl) rfl #[.slice ak ae.length al] rfl lu ?_; (with_reducible refine (codewrightref01_Trim.calls k _ _ ae ac _ ?side1 ?side2 A2.out).mono ?_); (case side1 => exact cu (Kd.R_reads' aa.out).2.2); (case side2 => exact (Kd.R_reads' aa.out).2.1); rintro e w6 ⟨aj, rfl, ah, hb⟩; refine ⟨_, rfl, ?_⟩; have af := am (Kd.R_lower (Kd.R_new' ah (Kd.R_lt (by (with_reducible repeat (first | apply Kd.R_alloc | apply Kd.R_drewN | apply Kd.R_drew)); exact aa.out))) (below_size (bu HB.out))); replace aa := am (Kd.R_elder' (by (with_reducible repeat (first | apply Kd.R_alloc | apply Kd.R_drewN | apply Kd.R_drew)); exact aa.out) (Kd.R_base ah) hb); replace HB := be HB hb; (try clear hb); (try clear hk); (try clear ah)))
 go_ret
 exact ⟨_, by first | rfl | (simp [errW_none, errW_some] <;> rfl) | (simp [*, errW_none, errW_some] <;> rfl), by (with_reducible repeat (first | apply Kd.R_alloc | apply Kd.R_drewN | apply Kd.R_drew)); exact Kd.R_mono af.out (fun _ hk => trivial), by repeat (first | (with_reducible first | exact HB.out | apply below_alloc | apply pw_below_drewN | apply below_drew1) | exact HB.out)⟩
def codewrightref02_abs.f (k : Nat) (a0 : Int) : Option (List Int) := if a0 < 0 then ((codewrightref01_Of.f k (IntKind.u64.wrap (wrap64 (-(wrap64 (a0 + 1)))))).bind fun t1208 => ((codewrightref01_Add.f k t1208 (([1] : List Int))).bind fun t1214 => (some t1214))) else ((codewrightref01_Of.f k (IntKind.u64.wrap (a0))).bind fun t1217 => (some t1217))
theorem codewrightref02_abs.calls (k : Nat) (a0 : Int) (r : List Int) (w : World) (h : codewrightref02_abs.f k a0 = some r) :
 Calls Try.prog 159 #[.int .i64 a0] w fun e w' => ∃ v0_ : Value, e = .returned (v0_) ∧ Kd.V (Kd.int .u32) 48 w' w.heap.size (fun k_ => (w.heap.size ≤ k_)) v0_ r ∧ Below w.heap.size w w' := by
 have HB := am (Below.refl w.heap.size w)
 have H : (if a0 < 0 then ((codewrightref01_Of.f k (IntKind.u64.wrap (wrap64 (-(wrap64 (a0 + 1)))))).bind fun ac => ((codewrightref01_Add.f k ac (([1] : List Int))).bind fun ae => (some ae))) else ((codewrightref01_Of.f k (IntKind.u64.wrap (a0))).bind fun af => (some af))) = some r := h
 clear h
 by_cases c2 : a0 < 0
 ·
  rw [if_pos c2] at H
  have an : decide (a0 < 0) = true := decide_eq_true c2
  clear c2
  obtain ⟨ac, A3, H⟩ := bs H
  (try dsimp -simprocs only at H)
  obtain ⟨ah, ad⟩ : ∃ y_ : List Int, y_ = (([1] : List Int)) := ⟨_, rfl⟩
  rw [← ad] at H
  have ai := am ad
  clear ad
  obtain ⟨ae, A4, H⟩ := bs H
  replace H : (some ae) = some r := H
  obtain rfl := Option.some.inj H
  go_enter Try.func159, Try.ntmps159
  go_wp2_with (first | ((with_reducible refine gate_callee (f := 169) rfl ?_); refine goesL_ (some 9) rfl rfl Try.func169 (by kernel_rfl) rfl #[.int .u64 (IntKind.u64.wrap (wrap64 (-(wrap64 (a0 + 1)))))] rfl lu ?_; (with_reducible refine (codewrightref01_Of.calls k (IntKind.u64.wrap (wrap64 (-(wrap64 (a0 + 1))))) ac _ A3.out).mono ?_); rintro e w5 ⟨ao, rfl, ag, hb⟩; refine ⟨_, rfl, ?_⟩; replace ag := R_V_base rfl ag; have aa := ar0 w.heap.size (ok' := fun k_ => (w.heap.size ≤ k_)) ag (fz HB); replace HB := be HB hb; (try clear hb); (try clear hk); (try clear ag)) | ((with_reducible refine gate_dst (N := 10) rfl ?_); refine Kd.R_lit (Kd.int .u32) _ 48 ?hg (N := 10) ?hd (xs := ([1] : List Int)) (inner := [.int .u32 1]) (ok := fun _ => True) (okp := fun _ => True) ?hr ?hp (fun _ hk => hk) trivial (Below.refl _ _) (Nat.le_refl _) (by simp) ?_; (case hd => rfl); (case hg => rfl); (case hr => first | (go_simp; done) | (go_simp; rfl)); (case hp => exact (Reps.one (show Kd.M (Kd.int .u32) _ _ _ 1 [.int .u32 1] from rfl) (Reps.none _ _))); intro ap w6 al hb hg_ hnew_; clear hg_ hnew_; (first | rw [← ai.out] at al | (simp only [Int.reduceToNat] at al; rw [← ai.out] at al)); replace aa := am (Kd.V_elder' (vu aa.out) (Kd.R_base al) hb); have ab := am (Kd.R_lower (Kd.R_newM (M := fun k_ => (w.heap.size ≤ k_)) al (below_size (bu HB.out)) (fun k_ h_ => h_)) (below_size (bu HB.out))); replace HB := be HB hb; clear hb al; obtain ⟨ax, ay, az⟩ := Kd.V_slice aa.out; subst az; obtain ⟨aq, au, aA⟩ := Kd.R_slice ab.out; subst aA) | ((with_reducible refine gate_callee (f := 55) rfl ?_); refine goesL_ (some 11) rfl rfl Try.func55 (by kernel_rfl) rfl #[.slice ax ac.length ay, .slice aq ah.length au] rfl lu ?_; (with_reducible refine (codewrightref01_Add.calls k _ _ ac _ _ ah ae _ ?side1 ?side2 ?side3 ?side4 A4.out).mono ?_); (case side1 => exact cu (Kd.V_reads' aa.out).2.2); (case side2 => exact (Kd.V_reads' aa.out).2.1); (case side3 => exact cu (Kd.R_reads' ab.out).2.2); (case side4 => exact (Kd.R_reads' ab.out).2.1); rintro e aC ⟨av, rfl, ag, hb⟩; refine ⟨_, rfl, ?_⟩; replace ag := R_V_base rfl ag; replace aa := kv aa hb; have aj := am (Kd.V_lower (Kd.V_mono (ok' := fun k_ => (w.heap.size ≤ k_) ∧ some k_ ≠ (.slice aq ah.length au : Value).ownBlock) ag (fun k_ hk_ => ⟨(Nat.le_trans (below_size (bu HB.out)) hk_), (Kd.fresh' (Kd.R_lt (by (with_reducible repeat (first | apply Kd.R_alloc | apply Kd.R_drewN | apply Kd.R_drew)); exact ab.out)) k_ hk_)⟩)) (below_size (bu HB.out))); replace ab := am (Kd.R_below (by (with_reducible repeat (first | apply Kd.R_alloc | apply Kd.R_drewN | apply Kd.R_drew)); exact ab.out) hb); replace HB := be HB hb; (try clear hb); (try clear hk); (try clear ag)))
  go_ret
  exact ⟨_, by first | rfl | (simp [errW_none, errW_some] <;> rfl) | (simp [*, errW_none, errW_some] <;> rfl), by exact vz aj.out, by repeat (first | (with_reducible first | exact HB.out | apply below_alloc | apply pw_below_drewN | apply below_drew1) | exact HB.out)⟩
 ·
  rw [if_neg c2] at H
  have an : decide (a0 < 0) = false := decide_eq_false c2
  clear c2
  obtain ⟨af, aB, H⟩ := bs H
  replace H : (some af) = some r := H
  obtain rfl := Option.some.inj H
  go_enter Try.func159, Try.ntmps159
  go_wp2_with (first | ((with_reducible refine gate_callee (f := 169) rfl ?_); refine goesL_ (some 14) rfl rfl Try.func169 (by kernel_rfl) rfl #[.int .u64 (IntKind.u64.wrap (a0))] rfl lu ?_; (with_reducible refine (codewrightref01_Of.calls k (IntKind.u64.wrap (a0)) af _ aB.out).mono ?_); rintro e aD ⟨aw, rfl, ag, hb⟩; refine ⟨_, rfl, ?_⟩; replace ag := R_V_base rfl ag; have ak := ar0 w.heap.size (ok' := fun k_ => (w.heap.size ≤ k_)) ag (fz HB); replace HB := be HB hb; (try clear hb); (try clear ag)))
  go_ret
  exact ⟨_, by first | rfl | (simp [errW_none, errW_some] <;> rfl) | (simp [*, errW_none, errW_some] <;> rfl), by (with_reducible repeat (first | apply Kd.V_alloc | apply Kd.V_drewN | apply Kd.V_drew)); exact ak.out, by repeat (first | (with_reducible first | exact HB.out | apply below_alloc | apply pw_below_drewN | apply below_drew1) | exact HB.out)⟩
def codewrightref02_Of.f (k : Nat) (a0 : Int) (a1 : Int) : Option (Bool × List Int × List Int) := (codewrightref02_abs.f k a0).bind fun t1221 => ((codewrightref02_abs.f k a1).bind fun t1224 => ((codewrightref02_Make.f k ((decide (a0 < 0)) != (decide (a1 < 0))) t1221 t1224).bind fun bt1227 => (some (bt1227.1, bt1227.2.1, bt1227.2.2))))
theorem codewrightref02_Of.calls (k : Nat) (a0 : Int) (a1 : Int) (r1 : Bool) (r2 : List Int) (r3 : List Int) (w : World) (h : codewrightref02_Of.f k a0 a1 = some (r1, r2, r3)) :
 Calls Try.prog 85 #[.int .i64 a0, .int .i64 a1] w fun e w' => ∃ v1_ v2_ : Value, e = .returned (.agg #[.bool r1, v1_, v2_]) ∧ Kd.V (Kd.int .u32) 48 w' w.heap.size (fun k_ => (w.heap.size ≤ k_)) v1_ r2 ∧ Kd.V (Kd.int .u32) 48 w' w.heap.size (fun k_ => (w.heap.size ≤ k_)) v2_ r3 ∧ Below w.heap.size w w' := by
 have aN := Try.underlying67
 have HB := am (Below.refl w.heap.size w)
 have H : ((codewrightref02_abs.f k a0).bind fun af => ((codewrightref02_abs.f k a1).bind fun ag => ((codewrightref02_Make.f k ((decide (a0 < 0)) != (decide (a1 < 0))) af ag).bind fun ah => (some (ah.1, ah.2.1, ah.2.2))))) = some (r1, r2, r3) := h
 clear h
 obtain ⟨af, A3, H⟩ := bs H
 (try dsimp -simprocs only at H)
 obtain ⟨ag, A4, H⟩ := bs H
 (try dsimp -simprocs only at H)
 obtain ⟨⟨ak, al, an⟩, A5, H⟩ := bs H
 (try dsimp -simprocs only at H)
 simp only [Option.some.injEq, Prod.mk.injEq] at H
 obtain ⟨rfl, rfl, rfl⟩ := H
 go_enter Try.func85, Try.ntmps85
 go_wp2_with (first | ((with_reducible refine gate_dst (N := 4) rfl ?_); refine box_event ?hg (N := 4) ?hd (cs := #[.bool false, .slice none 0 0, .slice none 0 0]) (t := 67) ?hr ?_; (case hd => rfl); (case hg => rfl); (case hr => first | (go_simp; done) | (go_simp; rfl)); intro ac hg w6 hbox hb; have aa := am (hbox); have ay := ng hg (bu HB.out); have ab := ng hg (bu HB.out); replace HB := be HB hb; clear hb hbox hg) | ((with_reducible refine gate_callee (f := 159) rfl ?_); refine goesL_ (some 11) rfl rfl Try.func159 (by kernel_rfl) rfl #[.int .i64 a0] rfl lu ?_; (with_reducible refine (codewrightref02_abs.calls k a0 af _ A3.out).mono ?_); rintro e w7 ⟨aI, rfl, ao, hb⟩; refine ⟨_, rfl, ?_⟩; have ad := ar0 w.heap.size (ok' := fun k_ => (w.heap.size ≤ k_) ∧ k_ ≠ ac) ao (fa (fz1 HB ab) (fb aa)); replace aa := kb aa hb; replace HB := be1 HB ab hb; (try clear hb); (try clear ao)) | ((with_reducible refine gate_callee (f := 159) rfl ?_); refine goesL_ (some 13) rfl rfl Try.func159 (by kernel_rfl) rfl #[.int .i64 a1] rfl lu ?_; (with_reducible refine (codewrightref02_abs.calls k a1 ag _ A4.out).mono ?_); rintro e w8 ⟨aJ, rfl, ao, hb⟩; refine ⟨_, rfl, ?_⟩; replace ad := kv ad hb; have ae := ar0 w.heap.size (ok' := fun k_ => (w.heap.size ≤ k_) ∧ k_ ≠ ac) ao (fa (fz1 HB ab) (fb aa)); replace aa := kb aa hb; replace HB := be1 HB ab hb; (try clear hb); (try clear ao); obtain ⟨aO, aP, aQ⟩ := Kd.V_slice ad.out; subst aQ; obtain ⟨az, aA, aB⟩ := Kd.V_slice ae.out; subst aB) | ((with_reducible refine gate_callee (f := 80) rfl ?_); refine goesL_ (some 14) rfl rfl Try.func80 (by kernel_rfl) rfl #[.bool ((decide (a0 < 0)) != (decide (a1 < 0))), .slice aO af.length aP, .slice az ag.length aA] rfl lu ?_; (with_reducible refine (codewrightref02_Make.calls k ((decide (a0 < 0)) != (decide (a1 < 0))) (fun k_ => ((w.heap.size ≤ k_) ∧ k_ ≠ ac)) _ _ af (fun k_ => ((w.heap.size ≤ k_) ∧ k_ ≠ ac)) _ _ ag ak al an _ ?side1 ?side2 A5.out).mono ?_); (case side1 => exact vz ad.out); (case side2 => exact vz ae.out); rintro e aR ⟨aK, aL, rfl, ao, aM, hb⟩; refine ⟨_, rfl, ?_⟩; replace ad := kv ad hb; replace ae := kv ae hb; have ai := ar w.heap.size (ok' := fun k_ => (w.heap.size ≤ k_) ∧ k_ ≠ ac) ao (fa (fz1 HB ab) (fb aa)); have aj := ar w.heap.size (ok' := fun k_ => (w.heap.size ≤ k_) ∧ k_ ≠ ac) aM (fa (fz1 HB ab) (fb aa)); replace aa := kb aa hb; replace HB := be1 HB ab hb; (try clear hb); (try clear ao); (try clear aM); obtain ⟨ap, aq, au, av, aw, ax⟩ := bz aa; obtain ⟨aC, aD, aE⟩ := Kd.V_slice ai.out; subst aE; obtain ⟨aF, aG, aH⟩ := Kd.V_slice aj.out; subst aH))
 refine bodyPost_ret (results_cell_row rfl _ _ ac 67 #[.bool ak, .slice aC al.length aD, .slice aF an.length aG] (0, 0) _ rfl (kp aa.out) Try.underlying67 rfl (by kernel_rfl)) rfl ?_
 exact ⟨_, _, by first | rfl | (simp [errW_none, errW_some] <;> rfl) | (simp [*, errW_none, errW_some] <;> rfl), by exact vf ai.out, by exact vf aj.out, by repeat (first | (with_reducible first | exact HB.out | apply below_alloc | apply pw_below_drewN | apply below_drew1 | refine below_set ?_ ab.out) | exact HB.out)⟩
def codewrightref02_Int.f (k : Nat) (a0 : Int) : Option (Bool × List Int × List Int) := (codewrightref02_Of.f k a0 1).bind fun bt1706 => (some (bt1706.1, bt1706.2.1, bt1706.2.2))
theorem codewrightref02_Int.calls (k : Nat) (a0 : Int) (r1 : Bool) (r2 : List Int) (r3 : List Int) (w : World) (h : codewrightref02_Int.f k a0 = some (r1, r2, r3)) :
 Calls Try.prog 99 #[.int .i64 a0] w fun e w' => ∃ v1_ v2_ : Value, e = .returned (.agg #[.bool r1, v1_, v2_]) ∧ Kd.V (Kd.int .u32) 48 w' w.heap.size (fun k_ => (w.heap.size ≤ k_)) v1_ r2 ∧ Kd.V (Kd.int .u32) 48 w' w.heap.size (fun k_ => (w.heap.size ≤ k_)) v2_ r3 ∧ Below w.heap.size w w' := by
 have ay := Try.underlying67
 have HB := am (Below.refl w.heap.size w)
 have H : ((codewrightref02_Of.f k a0 1).bind fun ac => (some (ac.1, ac.2.1, ac.2.2))) = some (r1, r2, r3) := h
 clear h
 obtain ⟨⟨ag, ah, ai⟩, A2, H⟩ := bs H
 (try dsimp -simprocs only at H)
 simp only [Option.some.injEq, Prod.mk.injEq] at H
 obtain ⟨rfl, rfl, rfl⟩ := H
 go_enter Try.func99, Try.ntmps99
 go_wp2_with (first | ((with_reducible refine gate_dst (N := 2) rfl ?_); refine box_event ?hg (N := 2) ?hd (cs := #[.bool false, .slice none 0 0, .slice none 0 0]) (t := 67) ?hr ?_; (case hd => rfl); (case hg => rfl); (case hr => first | (go_simp; done) | (go_simp; rfl)); intro ad hg w3 hbox hb; have aa := am (hbox); have aj := ng hg (bu HB.out); have ab := ng hg (bu HB.out); replace HB := be HB hb; clear hb hbox hg) | ((with_reducible refine gate_callee (f := 85) rfl ?_); refine goesL_ (some 4) rfl rfl Try.func85 (by kernel_rfl) rfl #[.int .i64 a0, .int .i64 1] rfl lu ?_; (with_reducible refine (codewrightref02_Of.calls k a0 1 ag ah ai _ A2.out).mono ?_); rintro e w4 ⟨au, av, rfl, aw, ax, hb⟩; refine ⟨_, rfl, ?_⟩; have ae := ar0 w.heap.size (ok' := fun k_ => (w.heap.size ≤ k_) ∧ k_ ≠ ad) aw (fa (fz1 HB ab) (fb aa)); have af := ar0 w.heap.size (ok' := fun k_ => (w.heap.size ≤ k_) ∧ k_ ≠ ad) ax (fa (fz1 HB ab) (fb aa)); replace aa := kb aa hb; replace HB := be1 HB ab hb; (try clear hb); (try clear aw); (try clear ax); obtain ⟨ak, al, an, ao, ap, aq⟩ := bz aa; obtain ⟨az, aA, aB⟩ := Kd.V_slice ae.out; subst aB; obtain ⟨aC, aD, aE⟩ := Kd.V_slice af.out; subst aE))
 refine bodyPost_ret (results_cell_row rfl _ _ ad 67 #[.bool ag, .slice az ah.length aA, .slice aC ai.length aD] (0, 0) _ rfl (kp aa.out) Try.underlying67 rfl (by kernel_rfl)) rfl ?_
 exact ⟨_, _, by first | rfl | (simp [errW_none, errW_some] <;> rfl) | (simp [*, errW_none, errW_some] <;> rfl), by exact vf ae.out, by exact vf af.out, by repeat (first | (with_reducible first | exact HB.out | apply below_alloc | apply pw_below_drewN | apply below_drew1 | refine below_set ?_ ab.out) | exact HB.out)⟩
def codewrightref02_Trim.f (k : Nat) (a0_0 : Bool) (l0_1 : List Int) (l0_2 : List Int) : Option (Bool × List Int × List Int) := (codewrightref02_Make.f k a0_0 l0_1 l0_2).bind fun bt1129 => (some (bt1129.1, bt1129.2.1, bt1129.2.2))
theorem codewrightref02_Trim.calls (k : Nat) (a0_0 : Bool) (P0_1_ : Nat → Prop) (A0_1 : Option Addr) (c0_1 : Nat) (l0_1 : List Int) (P0_2_ : Nat → Prop) (A0_2 : Option Addr) (c0_2 : Nat) (l0_2 : List Int) (r1 : Bool) (r2 : List Int) (r3 : List Int) (w : World) (hs0_1 : Kd.V (Kd.int .u32) 48 w w.heap.size (fun k_ => P0_1_ k_) (.slice A0_1 l0_1.length c0_1) l0_1) (hs0_2 : Kd.V (Kd.int .u32) 48 w w.heap.size (fun k_ => P0_2_ k_) (.slice A0_2 l0_2.length c0_2) l0_2) (h : codewrightref02_Trim.f k a0_0 l0_1 l0_2 = some (r1, r2, r3)) :
 Calls Try.prog 88 #[.agg #[.bool a0_0, .slice A0_1 l0_1.length c0_1, .slice A0_2 l0_2.length c0_2]] w fun e w' => ∃ v1_ v2_ : Value, e = .returned (.agg #[.bool r1, v1_, v2_]) ∧ Kd.V (Kd.int .u32) 48 w' w.heap.size (fun k_ => ((P0_1_ k_ ∨ P0_2_ k_) ∨ w.heap.size ≤ k_)) v1_ r2 ∧ Kd.V (Kd.int .u32) 48 w' w.heap.size (fun k_ => ((P0_1_ k_ ∨ P0_2_ k_) ∨ w.heap.size ≤ k_)) v2_ r3 ∧ Below w.heap.size w w' := by
 have aP := Try.underlying67
 have ad := am (show Kd.V (Kd.int .u32) 48 w w.heap.size (fun k_ => ((P0_1_ k_ ∨ P0_2_ k_) ∨ w.heap.size ≤ k_)) (.slice A0_1 l0_1.length c0_1) l0_1 from Kd.V_mono hs0_1 (fun k_ hk => .inl (.inl hk)))
 have ae := am (show Kd.V (Kd.int .u32) 48 w w.heap.size (fun k_ => ((P0_1_ k_ ∨ P0_2_ k_) ∨ w.heap.size ≤ k_)) (.slice A0_2 l0_2.length c0_2) l0_2 from Kd.V_mono hs0_2 (fun k_ hk => .inl (.inr hk)))
 have HB := am (Below.refl w.heap.size w)
 have H : ((codewrightref02_Make.f k a0_0 l0_1 l0_2).bind fun ak => (some (ak.1, ak.2.1, ak.2.2))) = some (r1, r2, r3) := h
 clear h
 obtain ⟨⟨ao, ap, aq⟩, A2, H⟩ := bs H
 (try dsimp -simprocs only at H)
 simp only [Option.some.injEq, Prod.mk.injEq] at H
 obtain ⟨rfl, rfl, rfl⟩ := H
 go_enter Try.func88, Try.ntmps88
 go_wp2_with (first | ((with_reducible refine gate_dst (N := 1) rfl ?_); refine box_event ?hg (N := 1) ?hd (cs := #[.bool a0_0, .slice A0_1 l0_1.length c0_1, .slice A0_2 l0_2.length c0_2]) (t := 67) ?hr ?_; (case hd => rfl); (case hg => rfl); (case hr => first | (go_simp; done) | (go_simp; rfl)); intro ag hg w3 hbox hb; replace ad := ke ad hg hb; replace ae := ke ae hg hb; have aa := am (hbox); have au := ng hg (bu HB.out); have ab := ng hg (bu HB.out); replace HB := be HB hb; clear hb hbox hg) | ((with_reducible refine gate_dst (N := 2) rfl ?_); refine box_event ?hg (N := 2) ?hd (cs := #[.bool false, .slice none 0 0, .slice none 0 0]) (t := 67) ?hr ?_; (case hd => rfl); (case hg => rfl); (case hr => first | (go_simp; done) | (go_simp; rfl)); intro af hg w4 hbox hb; replace ad := ke ad hg hb; replace ae := ke ae hg hb; have ac := am (hbox); have av := ng hg (bu1 HB.out ab.out); have ah := ng hg (bu1 HB.out ab.out); replace HB := be1 HB ab hb; have ai := nl hg aa; have aj := nr hg aa; replace aa := kb aa hb; clear hb hbox hg; have aQ := ai.out; have aR := aj.out; obtain ⟨aw, ax, ay, az, aA, aB⟩ := bz aa) | ((with_reducible refine gate_callee (f := 80) rfl ?_); refine goesL_ (some 9) rfl rfl Try.func80 (by kernel_rfl) rfl #[.bool a0_0, .slice A0_1 l0_1.length c0_1, .slice A0_2 l0_2.length c0_2] rfl lu ?_; (with_reducible refine (codewrightref02_Make.calls k a0_0 (fun k_ => ((((P0_1_ k_ ∨ P0_2_ k_) ∨ w.heap.size ≤ k_) ∧ k_ ≠ ag) ∧ k_ ≠ af)) _ _ l0_1 (fun k_ => ((((P0_1_ k_ ∨ P0_2_ k_) ∨ w.heap.size ≤ k_) ∧ k_ ≠ ag) ∧ k_ ≠ af)) _ _ l0_2 ao ap aq _ ?side1 ?side2 A2.out).mono ?_); (case side1 => exact vz ad.out); (case side2 => exact vz ae.out); rintro e w7 ⟨aL, aM, rfl, aN, aO, hb⟩; refine ⟨_, rfl, ?_⟩; replace ad := kv ad hb; replace ae := kv ae hb; have al := ar w.heap.size (ok' := fun k_ => ((P0_1_ k_ ∨ P0_2_ k_) ∨ w.heap.size ≤ k_) ∧ k_ ≠ ag ∧ k_ ≠ af) aN (fa (fz2 HB ab ah) (fa (fb aa) (fb ac))); have an := ar w.heap.size (ok' := fun k_ => ((P0_1_ k_ ∨ P0_2_ k_) ∨ w.heap.size ≤ k_) ∧ k_ ≠ ag ∧ k_ ≠ af) aO (fa (fz2 HB ab ah) (fa (fb aa) (fb ac))); replace aa := kb aa hb; replace ac := kb ac hb; replace HB := be2 HB ab ah hb; (try clear hb); (try clear aN); (try clear aO); obtain ⟨aC, aD, aE, aF, aG, aH⟩ := bz ac; obtain ⟨aS, aT, aU⟩ := Kd.V_slice al.out; subst aU; obtain ⟨aI, aJ, aK⟩ := Kd.V_slice an.out; subst aK))
 refine bodyPost_ret (results_cell_row rfl _ _ af 67 #[.bool ao, .slice aS ap.length aT, .slice aI aq.length aJ] (0, 0) _ rfl (kp ac.out) Try.underlying67 rfl (by kernel_rfl)) rfl ?_
 exact ⟨_, _, by first | rfl | (simp [errW_none, errW_some] <;> rfl) | (simp [*, errW_none, errW_some] <;> rfl), by exact vf al.out, by exact vf an.out, by repeat (first | (with_reducible first | exact HB.out | apply below_alloc | apply pw_below_drewN | apply below_drew1 | refine below_set ?_ ab.out | refine below_set ?_ ah.out) | exact HB.out)⟩
end Go.Proofs.Ytecfdemglbfnoaa.PT
end
