/- Walks and plain facts for the law RationalFloors, several texts in one: each theorem says what it shows; no condition beyond those that it names. -/
import Derived.Test.YtecfdemglbfnoaaMRationalFloorsD
section
namespace Go.Proofs.Ytecfdemglbfnoaa.PT
open Go.RowKit Go.Proofs.YtecfdemglbfnoaaW.PrintWords Go.Proofs.YtecfdemglbfnoaaW.PrintLast Go.Proofs.YtecfdemglbfnoaaW.PrintMore
attribute [local go_sem] max2_int min2_int max_two min_two max_three min_three max_four min_four
set_option linter.unusedVariables false
set_option linter.unusedSimpArgs false
set_option maxHeartbeats 8000000
set_option maxRecDepth 100000
def rational_plus.f (k : Nat) (a0_0 : Bool) (l0_1 : List Int) (l0_2 : List Int) (a1_0 : Bool) (l1_1 : List Int) (l1_2 : List Int) : Option (Bool × List Int × List Int) := (nat_Mul.f k (([l0_1, l1_2] : List (List Int)))).bind fun t1633 => ((nat_Mul.f k (([l1_1, l0_2] : List (List Int)))).bind fun t1639 => ((nat_Mul.f k (([l0_2, l1_2] : List (List Int)))).bind fun t1645 => (if (a0_0 == a1_0) = true then ((nat_Add.f k (([t1633, t1639] : List (List Int)))).bind fun t1651 => ((rational_canonical.f k a0_0 t1651 t1645).bind fun bt1654 => (some (bt1654.1, bt1654.2.1, bt1654.2.2)))) else ((nat_Cmp.f k t1633 t1639).bind fun t1661 => (if t1661 < 0 then ((nat_Sub.f k t1639 t1633).bind fun bt1662 => ((rational_canonical.f k a1_0 bt1662.1 t1645).bind fun bt1666 => (some (bt1666.1, bt1666.2.1, bt1666.2.2)))) else ((nat_Sub.f k t1633 t1639).bind fun bt1673 => ((rational_canonical.f k a0_0 bt1673.1 t1645).bind fun bt1677 => (some (bt1677.1, bt1677.2.1, bt1677.2.2)))))))))
def rational_plus.T1 : Bool × List (List Nat × List Nat) := (true, [([], []), ([0], [0]), ([], []), ([2], [2]), ([1, 3], [1, 3]), ([4], [4]), ([], []), ([6], [6]), ([], []), ([8], [8]), ([7, 9], [7, 9]), ([10, 5], [10]), ([5, 11, 0, 1, 2, 3, 4, 5], [5]), ([11, 12, 0, 1, 2, 3, 4, 5, 6, 7, 8, 9, 10, 11, 12], [11])])
def rational_plus.B1 : List Nat := [0, 1, 0, 4, 15, 31, 0, 64, 0, 256, 960, 2047, 4095, 8191]
theorem rational_plus.tab1 : rtab .any (opsOf Try.f165 1) = rational_plus.T1 := by kernel_rfl
theorem rational_plus.bits1 : waitsOk rational_plus.T1.2 rational_plus.B1 = true := by kernel_rfl
def rational_plus.T4 : Bool × List (List Nat × List Nat) := (true, [([], []), ([0], [0]), ([], []), ([], []), ([2, 3], [2, 3]), ([4], [4]), ([], []), ([1, 5, 6, 5], [1, 5, 6]), ([7, 7, 0, 1, 2, 3, 4, 5, 6, 7], [7])])
def rational_plus.B4 : List Nat := [0, 1, 0, 0, 12, 28, 0, 127, 255]
theorem rational_plus.tab4 : rtab .any (opsOf Try.f165 4) = rational_plus.T4 := by kernel_rfl
theorem rational_plus.bits4 : waitsOk rational_plus.T4.2 rational_plus.B4 = true := by kernel_rfl
theorem rational_plus.calls (k : Nat) (a0_0 : Bool) (P0_1_ : Nat → Prop) (A0_1 : Option Addr) (c0_1 : Nat) (l0_1 : List Int) (P0_2_ : Nat → Prop) (A0_2 : Option Addr) (c0_2 : Nat) (l0_2 : List Int) (a1_0 : Bool) (P1_1_ : Nat → Prop) (A1_1 : Option Addr) (c1_1 : Nat) (l1_1 : List Int) (P1_2_ : Nat → Prop) (A1_2 : Option Addr) (c1_2 : Nat) (l1_2 : List Int) (r1 : Bool) (r2 : List Int) (r3 : List Int) (w : World) (hs0_1 : Kd.V (Kd.int .u32) 48 w w.heap.size (fun k_ => P0_1_ k_) (.slice A0_1 l0_1.length c0_1) l0_1) (hs0_2 : Kd.V (Kd.int .u32) 48 w w.heap.size (fun k_ => P0_2_ k_) (.slice A0_2 l0_2.length c0_2) l0_2) (hs1_1 : Kd.V (Kd.int .u32) 48 w w.heap.size (fun k_ => P1_1_ k_) (.slice A1_1 l1_1.length c1_1) l1_1) (hs1_2 : Kd.V (Kd.int .u32) 48 w w.heap.size (fun k_ => P1_2_ k_) (.slice A1_2 l1_2.length c1_2) l1_2) (h : rational_plus.f k a0_0 l0_1 l0_2 a1_0 l1_1 l1_2 = some (r1, r2, r3)) :
 Calls Try.prog 165 #[.agg #[.bool a0_0, .slice A0_1 l0_1.length c0_1, .slice A0_2 l0_2.length c0_2], .agg #[.bool a1_0, .slice A1_1 l1_1.length c1_1, .slice A1_2 l1_2.length c1_2]] w fun e w' => ∃ v1_ v2_ : Value, e = .returned (.agg #[.bool r1, v1_, v2_]) ∧ Kd.V (Kd.int .u32) 48 w' w.heap.size (fun k_ => ((P0_1_ k_ ∨ P0_2_ k_ ∨ P1_1_ k_ ∨ P1_2_ k_) ∨ w.heap.size ≤ k_)) v1_ r2 ∧ Kd.V (Kd.int .u32) 48 w' w.heap.size (fun k_ => ((P0_1_ k_ ∨ P0_2_ k_ ∨ P1_1_ k_ ∨ P1_2_ k_) ∨ w.heap.size ≤ k_)) v2_ r3 ∧ Below w.heap.size w w' := by
 have e3 := Try.underlying67
 have ak := am (show Kd.V (Kd.int .u32) 48 w w.heap.size (fun k_ => ((P0_1_ k_ ∨ P0_2_ k_ ∨ P1_1_ k_ ∨ P1_2_ k_) ∨ w.heap.size ≤ k_)) (.slice A0_1 l0_1.length c0_1) l0_1 from Kd.V_mono hs0_1 (fun k_ hk => .inl (.inl hk)))
 have ag := am (show Kd.V (Kd.int .u32) 48 w w.heap.size (fun k_ => ((P0_1_ k_ ∨ P0_2_ k_ ∨ P1_1_ k_ ∨ P1_2_ k_) ∨ w.heap.size ≤ k_)) (.slice A0_2 l0_2.length c0_2) l0_2 from Kd.V_mono hs0_2 (fun k_ hk => .inl (.inr (.inl hk))))
 have al := am (show Kd.V (Kd.int .u32) 48 w w.heap.size (fun k_ => ((P0_1_ k_ ∨ P0_2_ k_ ∨ P1_1_ k_ ∨ P1_2_ k_) ∨ w.heap.size ≤ k_)) (.slice A1_1 l1_1.length c1_1) l1_1 from Kd.V_mono hs1_1 (fun k_ hk => .inl (.inr (.inr (.inl hk)))))
 have ah := am (show Kd.V (Kd.int .u32) 48 w w.heap.size (fun k_ => ((P0_1_ k_ ∨ P0_2_ k_ ∨ P1_1_ k_ ∨ P1_2_ k_) ∨ w.heap.size ≤ k_)) (.slice A1_2 l1_2.length c1_2) l1_2 from Kd.V_mono hs1_2 (fun k_ hk => .inl (.inr (.inr (.inr hk)))))
 have HB := am (Below.refl w.heap.size w)
 have H : ((nat_Mul.f k (([l0_1, l1_2] : List (List Int)))).bind fun aR => ((nat_Mul.f k (([l1_1, l0_2] : List (List Int)))).bind fun aS => ((nat_Mul.f k (([l0_2, l1_2] : List (List Int)))).bind fun aU => (if (a0_0 == a1_0) = true then ((nat_Add.f k (([aR, aS] : List (List Int)))).bind fun a9 => ((rational_canonical.f k a0_0 a9 aU).bind fun a1 => (some (a1.1, a1.2.1, a1.2.2)))) else ((nat_Cmp.f k aR aS).bind fun ba => (if ba < 0 then ((nat_Sub.f k aS aR).bind fun cd => ((rational_canonical.f k a1_0 cd.1 aU).bind fun bm => (some (bm.1, bm.2.1, bm.2.2)))) else ((nat_Sub.f k aR aS).bind fun ce => ((rational_canonical.f k a0_0 ce.1 aU).bind fun bn => (some (bn.1, bn.2.1, bn.2.2)))))))))) = some (r1, r2, r3) := h
 clear h
 obtain ⟨bi, bo⟩ : ∃ y_ : List (List Int), y_ = (([l0_1, l1_2] : List (List Int))) := ⟨_, rfl⟩
 rw [← bo] at H
 have bB := am bo
 clear bo
 obtain ⟨aR, A3, H⟩ := bs H
 (try dsimp -simprocs only at H)
 obtain ⟨bb, bp⟩ : ∃ y_ : List (List Int), y_ = (([l1_1, l0_2] : List (List Int))) := ⟨_, rfl⟩
 rw [← bp] at H
 have bC := am bp
 clear bp
 obtain ⟨aS, A4, H⟩ := bs H
 (try dsimp -simprocs only at H)
 obtain ⟨aK, bq⟩ : ∃ y_ : List (List Int), y_ = (([l0_2, l1_2] : List (List Int))) := ⟨_, rfl⟩
 rw [← bq] at H
 have a5 := am bq
 clear bq
 obtain ⟨aU, A5, H⟩ := bs H
 (try dsimp -simprocs only at H)
 go_enter Try.func165, Try.ntmps165
 try go_wp2_with (first | ((with_reducible refine gate_dst (N := 2) rfl ?_); refine box_event ?hg (N := 2) ?hd (cs := #[.bool a0_0, .slice A0_1 l0_1.length c0_1, .slice A0_2 l0_2.length c0_2]) (t := 67) ?hr ?_; (case hd => rfl); (case hg => rfl); (case hr => first | (go_simp; done) | (go_simp; rfl)); intro ac hg w9 hbox hb; replace ak := ke ak hg hb; replace ag := ke ag hg hb; replace al := ke al hg hb; replace ah := ke ah hg hb; have aa := am (hbox); have ed := ng hg (bu HB.out); have ai := ng hg (bu HB.out); replace HB := be HB hb; clear hb hbox hg) | ((with_reducible refine gate_dst (N := 3) rfl ?_); refine box_event ?hg (N := 3) ?hd (cs := #[.bool a1_0, .slice A1_1 l1_1.length c1_1, .slice A1_2 l1_2.length c1_2]) (t := 67) ?hr ?_; (case hd => rfl); (case hg => rfl); (case hr => first | (go_simp; done) | (go_simp; rfl)); intro af hg fl hbox hb; replace ak := ke ak hg hb; replace ag := ke ag hg hb; replace al := ke al hg hb; replace ah := ke ah hg hb; have ab := am (hbox); have ee := ng hg (bu1 HB.out ai.out); have an := ng hg (bu1 HB.out ai.out); replace HB := be1 HB ai hb; have aV := nl hg aa; have aG := nr hg aa; replace aa := kb aa hb; clear hb hbox hg) | ((with_reducible refine gate_dst (N := 4) rfl ?_); refine box_event ?hg (N := 4) ?hd (cs := #[.bool false, .slice none 0 0, .slice none 0 0]) (t := 67) ?hr ?_; (case hd => rfl); (case hg => rfl); (case hr => first | (go_simp; done) | (go_simp; rfl)); intro ae hg e4 hbox hb; replace ak := ke ak hg hb; replace ag := ke ag hg hb; replace al := ke al hg hb; replace ah := ke ah hg hb; have ad := am (hbox); have ef := ng hg (bu2 HB.out ai.out an.out); have au := ng hg (bu2 HB.out ai.out an.out); replace HB := be2 HB ai an hb; have az := nl hg aa; have aP := nr hg aa; replace aa := kb aa hb; have aW := nl hg ab; have aX := nr hg ab; replace ab := kb ab hb; clear hb hbox hg))
 replace ak := am (Kd.V_drew ak.out)
 replace ag := am (Kd.V_drew ag.out)
 replace al := am (Kd.V_drew al.out)
 replace ah := am (Kd.V_drew ah.out)
 replace aa := am (blk_drew aa.out)
 replace ab := am (blk_drew ab.out)
 replace ad := am (blk_drew ad.out)
 replace HB := am (below_drew1 HB.out)
 refine start_ (n := 14) (S := fun w' => True) (ds := []) #[false, false, false, false, false, false, false, false, false, false, false, false, false, false] (by kernel_rfl) rfl rfl trivial (fun hHeld => ?_); refine with_tabW rational_plus.tab1 rational_plus.bits1 (fun HT_ HW_ => ?_)
 generalize e4.drew = fm at ak ag al ah aa ab ad HB hHeld ⊢
 refine pq 0 (some 10) #[true, false, false, false, false, false, false, false, false, false, false, false, false, false] HT_ ?_
 refine pq 2 (some 12) #[true, false, true, false, false, false, false, false, false, false, false, false, false, false] HT_ ?_
 refine pq 6 (some 16) #[true, false, true, false, false, false, true, false, false, false, false, false, false, false] HT_ ?_
 refine pq 8 (some 18) #[true, false, true, false, false, false, true, false, true, false, false, false, false, false] HT_ ?_
 refine inv_at [1, 3, 4, 5, 7, 9, 10, 11, 12, 13] (fun a0_ b a w' => ∃ (aN : Value) (aL : Value) (aO : Value) (aM : Value) (m12_ : Value) (m13_ : Value), a = putSel a0_ b [(1, 11, .slice A0_1 l0_1.length c0_1), (3, 13, .slice A1_2 l1_2.length c1_2), (4, 14, aN), (5, 15, aL), (7, 17, .slice A1_1 l1_1.length c1_1), (9, 19, .slice A0_2 l0_2.length c0_2), (10, 20, aO), (11, 21, aM), (12, 5, m12_), (13, 6, m13_)] ∧ (Kd.V (Kd.int .u32) 48 w' w.heap.size (fun k_ => ((P0_1_ k_ ∨ P0_2_ k_ ∨ P1_1_ k_ ∨ P1_2_ k_) ∨ w.heap.size ≤ k_) ∧ k_ ≠ ac ∧ k_ ≠ af ∧ k_ ≠ ae) (.slice A0_1 l0_1.length c0_1) l0_1) ∧ (Kd.V (Kd.int .u32) 48 w' w.heap.size (fun k_ => ((P0_1_ k_ ∨ P0_2_ k_ ∨ P1_1_ k_ ∨ P1_2_ k_) ∨ w.heap.size ≤ k_) ∧ k_ ≠ ac ∧ k_ ≠ af ∧ k_ ≠ ae) (.slice A0_2 l0_2.length c0_2) l0_2) ∧ (Kd.V (Kd.int .u32) 48 w' w.heap.size (fun k_ => ((P0_1_ k_ ∨ P0_2_ k_ ∨ P1_1_ k_ ∨ P1_2_ k_) ∨ w.heap.size ≤ k_) ∧ k_ ≠ ac ∧ k_ ≠ af ∧ k_ ≠ ae) (.slice A1_1 l1_1.length c1_1) l1_1) ∧ (Kd.V (Kd.int .u32) 48 w' w.heap.size (fun k_ => ((P0_1_ k_ ∨ P0_2_ k_ ∨ P1_1_ k_ ∨ P1_2_ k_) ∨ w.heap.size ≤ k_) ∧ k_ ≠ ac ∧ k_ ≠ af ∧ k_ ≠ ae) (.slice A1_2 l1_2.length c1_2) l1_2) ∧ (w'.heap[ac]? = some (.cells #[.bool a0_0, .slice A0_1 l0_1.length c0_1, .slice A0_2 l0_2.length c0_2] 67 (0, 0))) ∧ (w'.heap[af]? = some (.cells #[.bool a1_0, .slice A1_1 l1_1.length c1_1, .slice A1_2 l1_2.length c1_2] 67 (0, 0))) ∧ (w'.heap[ae]? = some (.cells #[.bool false, .slice none 0 0, .slice none 0 0] 67 (0, 0))) ∧ (Below w.heap.size w w') ∧ (b 4 = true → Kd.N (Kd.slice 48 (Kd.int .u32)) 42 w' w.heap.size (fun k_ => ((P0_1_ k_ ∨ P0_2_ k_ ∨ P1_1_ k_ ∨ P1_2_ k_) ∨ w.heap.size ≤ k_) ∧ k_ ≠ ac ∧ k_ ≠ af ∧ k_ ≠ ae) aN bi) ∧ (b 5 = true → Kd.V (Kd.int .u32) 48 w' w.heap.size (fun k_ => ((P0_1_ k_ ∨ P0_2_ k_ ∨ P1_1_ k_ ∨ P1_2_ k_) ∨ w.heap.size ≤ k_) ∧ k_ ≠ ac ∧ k_ ≠ af ∧ k_ ≠ ae) aL aR) ∧ (b 10 = true → Kd.N (Kd.slice 48 (Kd.int .u32)) 42 w' w.heap.size (fun k_ => ((P0_1_ k_ ∨ P0_2_ k_ ∨ P1_1_ k_ ∨ P1_2_ k_) ∨ w.heap.size ≤ k_) ∧ k_ ≠ ac ∧ k_ ≠ af ∧ k_ ≠ ae) aO bb) ∧ (b 11 = true → Kd.V (Kd.int .u32) 48 w' w.heap.size (fun k_ => ((P0_1_ k_ ∨ P0_2_ k_ ∨ P1_1_ k_ ∨ P1_2_ k_) ∨ w.heap.size ≤ k_) ∧ k_ ≠ ac ∧ k_ ≠ af ∧ k_ ≠ ae) aM aS) ∧ (b 12 = true → (m12_ : Value) = aL) ∧ (b 13 = true → (m13_ : Value) = aM)) HT_.out HW_.out (by kernel_rfl) (by kernel_rfl) ?_ ?_ ?_
 ·
  exact ⟨.bool false, .bool false, .bool false, .bool false, .bool false, .bool false, by simp only [putSel, Bool.false_eq_true, if_false], (vz ak.out), (vz ag.out), (vz al.out), (vz ah.out), aa.out, ab.out, ad.out, HB.out, fun h_ => absurd h_ (by decide), fun h_ => absurd h_ (by decide), fun h_ => absurd h_ (by decide), fun h_ => absurd h_ (by decide), fun h_ => absurd h_ (by decide), fun h_ => absurd h_ (by decide)⟩
 ·
  skip
  clear aa ab ad HB ak ag al ah
  refine steps_cons ?_ ?_
  ·
   rintro b a w' ⟨aN, aL, aO, aM, m12_, m13_, ha, aA, aB, aC, aD, aw, ax, ay, Q_HB, aF, aH, aE, aJ, Q_X12_, Q_X13_⟩ hb_ hon hoff
   refine ⟨_, rfl, fun K hK => ?_⟩
   have e10 : a.tmps[10]? = some (.pointer (some ⟨ac, 1, none⟩)) := by rw [ha]; exact (putSel_off rfl).trans rfl
   replace ha := am ha
   have ak := am aA
   have ag := am aB
   have al := am aC
   have ah := am aD
   have aa := am aw
   have ab := am ax
   have ad := am ay
   have HB := am Q_HB
   obtain ⟨cf, cg, ch⟩ := bx aa
   refine value_ (w1 := w') (v := .slice A0_1 l0_1.length c0_1) (by rfl) rfl ?_ ?_
   ·
    go_simp
    (try simp only [i64_w])
    try rfl
   refine hK.out _ _ ⟨aN, aL, aO, aM, m12_, m13_, (by rw [ha.out]; exact putSel_upk 0 hb_ rfl rfl rfl), aA, aB, aC, aD, aw, ax, ay, Q_HB, fun aQ => absurd ((hoff 4 (by kernel_rfl)).symm.trans aQ) (by decide), fun aQ => absurd ((hoff 5 (by kernel_rfl)).symm.trans aQ) (by decide), aE, fun aQ => absurd ((hoff 11 (by kernel_rfl)).symm.trans aQ) (by decide), fun aQ => absurd ((hoff 12 (by kernel_rfl)).symm.trans aQ) (by decide), fun aQ => absurd ((hoff 13 (by kernel_rfl)).symm.trans aQ) (by decide)⟩
  refine steps_cons ?_ ?_
  ·
   rintro b a w' ⟨aN, aL, aO, aM, m12_, m13_, ha, aA, aB, aC, aD, aw, ax, ay, Q_HB, aF, aH, aE, aJ, Q_X12_, Q_X13_⟩ hb_ hon hoff
   refine ⟨_, rfl, fun K hK => ?_⟩
   have e12 : a.tmps[12]? = some (.pointer (some ⟨af, 2, none⟩)) := by rw [ha]; exact (putSel_off rfl).trans rfl
   replace ha := am ha
   have ak := am aA
   have ag := am aB
   have al := am aC
   have ah := am aD
   have aa := am aw
   have ab := am ax
   have ad := am ay
   have HB := am Q_HB
   obtain ⟨cf, cg, ch⟩ := bx ab
   refine value_ (w1 := w') (v := .slice A1_2 l1_2.length c1_2) (by rfl) rfl ?_ ?_
   ·
    go_simp
    (try simp only [i64_w])
    try rfl
   refine hK.out _ _ ⟨aN, aL, aO, aM, m12_, m13_, (by rw [ha.out]; exact putSel_upk 1 hb_ rfl rfl rfl), aA, aB, aC, aD, aw, ax, ay, Q_HB, fun aQ => absurd ((hoff 4 (by kernel_rfl)).symm.trans aQ) (by decide), fun aQ => absurd ((hoff 5 (by kernel_rfl)).symm.trans aQ) (by decide), aE, fun aQ => absurd ((hoff 11 (by kernel_rfl)).symm.trans aQ) (by decide), fun aQ => absurd ((hoff 12 (by kernel_rfl)).symm.trans aQ) (by decide), fun aQ => absurd ((hoff 13 (by kernel_rfl)).symm.trans aQ) (by decide)⟩
  refine steps_cons ?_ ?_
  ·
   rintro b a w' ⟨aN, aL, aO, aM, m12_, m13_, ha, aA, aB, aC, aD, aw, ax, ay, Q_HB, aF, aH, aE, aJ, Q_X12_, Q_X13_⟩ hb_ hon hoff
   refine ⟨_, rfl, fun K hK => ?_⟩
   have e11 : a.tmps[11]? = some (.slice A0_1 l0_1.length c0_1) := by rw [ha]; exact putSel_on (e := (1, 11, .slice A0_1 l0_1.length c0_1)) 0 rfl rfl (hon 1 (by kernel_rfl)) rfl
   have e13 : a.tmps[13]? = some (.slice A1_2 l1_2.length c1_2) := by rw [ha]; exact putSel_on (e := (3, 13, .slice A1_2 l1_2.length c1_2)) 1 rfl rfl (hon 3 (by kernel_rfl)) rfl
   replace ha := am ha
   have ak := am aA
   have ag := am aB
   have al := am aC
   have ah := am aD
   have aa := am aw
   have ab := am ax
   have ad := am ay
   have HB := am Q_HB
   refine Kd.N_lit_step (Kd.slice 48 (Kd.int .u32)) _ 42 ?hg (N' := 14) ?hd (xs := ([l0_1, l1_2] : List (List Int))) (inner := [.slice A0_1 l0_1.length c0_1, .slice A1_2 l1_2.length c1_2]) (ok := (fun k_ => ((P0_1_ k_ ∨ P0_2_ k_ ∨ P1_1_ k_ ∨ P1_2_ k_) ∨ w.heap.size ≤ k_) ∧ k_ ≠ ac ∧ k_ ≠ af ∧ k_ ≠ ae)) (okp := (fun k_ => ((P0_1_ k_ ∨ P0_2_ k_ ∨ P1_1_ k_ ∨ P1_2_ k_) ∨ w.heap.size ≤ k_) ∧ k_ ≠ ac ∧ k_ ≠ af ∧ k_ ≠ ae)) ?hr ?hp (fun _ hk => hk) ((show ∀ k_, w'.heap.size ≤ k_ → (fun k_ => ((P0_1_ k_ ∨ P0_2_ k_ ∨ P1_1_ k_ ∨ P1_2_ k_) ∨ w.heap.size ≤ k_) ∧ k_ ≠ ac ∧ k_ ≠ af ∧ k_ ≠ ae) k_ from fun k_ hk => ⟨(.inr (Nat.le_trans (below_size (bu3 HB.out ai.out an.out au.out)) hk)), Kd.freshB (g := ac) (o := .cells #[.bool a0_0, .slice A0_1 l0_1.length c0_1, .slice A0_2 l0_2.length c0_2] 67 (0, 0)) (ku aa.out) k_ hk, Kd.freshB (g := af) (o := .cells #[.bool a1_0, .slice A1_1 l1_1.length c1_1, .slice A1_2 l1_2.length c1_2] 67 (0, 0)) (ku ab.out) k_ hk, Kd.freshB (g := ae) (o := .cells #[.bool false, .slice none 0 0, .slice none 0 0] 67 (0, 0)) (ku ad.out) k_ hk⟩) _ (Nat.le_refl _)) (Below.refl _ _) (Nat.le_refl _) (by simp) ?_; (case hd => rfl); (case hg => rfl); (case hr => first | (go_simp; done) | (go_simp; rfl)); (case hp => exact (Reps.one (show Kd.FK (Kd.slice 48 (Kd.int .u32)) _ _ l0_1 [.slice A0_1 l0_1.length c0_1] from (Kd.FK_slice_mk (Kd.V_reads' (vy ((fun k_ => ((P0_1_ k_ ∨ P0_2_ k_ ∨ P1_1_ k_ ∨ P1_2_ k_) ∨ w.heap.size ≤ k_) ∧ k_ ≠ ac ∧ k_ ≠ af ∧ k_ ≠ ae)) ak.out)).2.1 (Kd.V_F (vy ((fun k_ => ((P0_1_ k_ ∨ P0_2_ k_ ∨ P1_1_ k_ ∨ P1_2_ k_) ∨ w.heap.size ≤ k_) ∧ k_ ≠ ac ∧ k_ ≠ af ∧ k_ ≠ ae)) ak.out)))) (Reps.one (show Kd.FK (Kd.slice 48 (Kd.int .u32)) _ _ l1_2 [.slice A1_2 l1_2.length c1_2] from (Kd.FK_slice_mk (Kd.V_reads' (vy ((fun k_ => ((P0_1_ k_ ∨ P0_2_ k_ ∨ P1_1_ k_ ∨ P1_2_ k_) ∨ w.heap.size ≤ k_) ∧ k_ ≠ ac ∧ k_ ≠ af ∧ k_ ≠ ae)) ah.out)).2.1 (Kd.V_F (vy ((fun k_ => ((P0_1_ k_ ∨ P0_2_ k_ ∨ P1_1_ k_ ∨ P1_2_ k_) ∨ w.heap.size ≤ k_) ∧ k_ ≠ ac ∧ k_ ≠ af ∧ k_ ≠ ae)) ah.out)))) (Reps.none _ _))))
   intro aN dn aT hb hg_ hnew_
   clear hg_ hnew_
   (first | rw [← bB.out] at aT | (simp only [Int.reduceToNat] at aT; rw [← bB.out] at aT))
   have bO := el ak aT hb
   have bP := el ag aT hb
   have bQ := el al aT hb
   have bR := el ah aT hb
   have bS := am (Kd.N_lower aT (below_size (bu3 HB.out ai.out an.out au.out)))
   have bT := kb aa hb
   have bU := kb ab hb
   have bV := kb ad hb
   have bW := be3 HB ai an au hb
   have bd := fun (aQ : b 10 = true) => (show Kd.N (Kd.slice 48 (Kd.int .u32)) 42 dn w.heap.size (fun k_ => ((P0_1_ k_ ∨ P0_2_ k_ ∨ P1_1_ k_ ∨ P1_2_ k_) ∨ w.heap.size ≤ k_) ∧ k_ ≠ ac ∧ k_ ≠ af ∧ k_ ≠ ae) aO bb from by first | exact (Kd.N_elder' (by (with_reducible repeat (first | apply Kd.N_alloc | apply Kd.N_drewN | apply Kd.N_drew)); exact (aE aQ)) (Kd.N_base aT) hb) | exact Kd.N_mono (Kd.N_elder' (by (with_reducible repeat (first | apply Kd.N_alloc | apply Kd.N_drewN | apply Kd.N_drew)); exact (aE aQ)) (Kd.N_base aT) hb) (fun _ h_ => by first | trivial | exact h_ | exact h_.1))
   clear ak ag al ah aa ab ad HB
   have ak := bO
   have ag := bP
   have al := bQ
   have ah := bR
   have ao := bS
   have aa := bT
   have ab := bU
   have ad := bV
   have HB := bW
   clear bO bP bQ bR bS bT bU bV bW hb aT
   refine hK.out _ _ ⟨aN, aL, aO, aM, m12_, m13_, (by rw [ha.out]; exact putSel_upk 2 hb_ rfl rfl rfl), (vz ak.out), (vz ag.out), (vz al.out), (vz ah.out), (ku aa.out), (ku ab.out), (ku ad.out), (bu3 HB.out ai.out an.out au.out), fun _ => (nu ao.out), fun aQ => absurd ((hoff 5 (by kernel_rfl)).symm.trans aQ) (by decide), bd, fun aQ => absurd ((hoff 11 (by kernel_rfl)).symm.trans aQ) (by decide), fun aQ => absurd ((hoff 12 (by kernel_rfl)).symm.trans aQ) (by decide), fun aQ => absurd ((hoff 13 (by kernel_rfl)).symm.trans aQ) (by decide)⟩
  refine steps_cons ?_ ?_
  ·
   rintro b a w' ⟨aN, aL, aO, aM, m12_, m13_, ha, aA, aB, aC, aD, aw, ax, ay, Q_HB, aF, aH, aE, aJ, Q_X12_, Q_X13_⟩ hb_ hon hoff
   refine ⟨_, rfl, fun K hK => ?_⟩
   have e14 : a.tmps[14]? = some (aN) := by rw [ha]; exact putSel_on (e := (4, 14, aN)) 2 rfl rfl (hon 4 (by kernel_rfl)) rfl
   replace ha := am ha
   have ak := am aA
   have ag := am aB
   have al := am aC
   have ah := am aD
   have aa := am aw
   have ab := am ax
   have ad := am ay
   have HB := am Q_HB
   have ao := am (aF (hon 4 (by kernel_rfl)))
   obtain ⟨ci, cj, cn⟩ := Kd.N_slice ao.out
   (first | subst cn | (injection cn with f1_ f2_ f3_; have f4_ := f1_.symm; have f5_ := f3_.symm; clear f1_ f2_ f3_; subst f4_; subst f5_))
   refine goes_ Try.func145 (by kernel_rfl) rfl #[.slice ci bi.length cj] (by rfl) rfl rfl (by first | (simp only [List.map_toArray, List.map_cons, List.map_nil, Act.eval, Array.getD_eq_getD_getElem?, Option.getD_some, e14]; done) | (simp only [List.map_toArray, List.map_cons, List.map_nil, Act.eval, Array.getD_eq_getD_getElem?, Option.getD_some, e14]; rfl)) ?_
   with_reducible refine (nat_Mul.calls k _ _ bi aR _ ?side1 ?side2 A3.out).mono ?_
   (case side1 => exact cu (Kd.N_reads' ao.out).2.2)
   (case side2 => exact (Kd.N_reads' ao.out).2.1)
   rintro e e5 ⟨aL, rfl, aY, hb⟩
   refine ⟨_, rfl, ?_⟩
   replace aY := R_V_base rfl aY
   have bO := kv ak hb
   have bP := kv ag hb
   have bQ := kv al hb
   have bR := kv ah hb
   have bS := kn ao hb
   have bT := ar0 w.heap.size (ok' := fun k_ => ((P0_1_ k_ ∨ P0_2_ k_ ∨ P1_1_ k_ ∨ P1_2_ k_) ∨ w.heap.size ≤ k_) ∧ some k_ ≠ (.slice ci bi.length cj : Value).ownBlock ∧ k_ ≠ ac ∧ k_ ≠ af ∧ k_ ≠ ae) aY (fa (fz3 HB ai an au) (fa (fo ao) (fa (fb aa) (fa (fb ab) (fb ad)))))
   have bU := kb aa hb
   have bV := kb ab hb
   have bW := kb ad hb
   have eL := be3 HB ai an au hb
   have bd := fun (aQ : b 10 = true) => (show Kd.N (Kd.slice 48 (Kd.int .u32)) 42 e5 w.heap.size (fun k_ => ((P0_1_ k_ ∨ P0_2_ k_ ∨ P1_1_ k_ ∨ P1_2_ k_) ∨ w.heap.size ≤ k_) ∧ k_ ≠ ac ∧ k_ ≠ af ∧ k_ ≠ ae) aO bb from by first | exact (Kd.N_below (by (with_reducible repeat (first | apply Kd.N_alloc | apply Kd.N_drewN | apply Kd.N_drew)); exact (aE aQ)) hb) | exact Kd.N_mono (Kd.N_below (by (with_reducible repeat (first | apply Kd.N_alloc | apply Kd.N_drewN | apply Kd.N_drew)); exact (aE aQ)) hb) (fun _ h_ => by first | trivial | exact h_ | exact h_.1))
   clear ak ag al ah ao aa ab ad HB
   have ak := bO
   have ag := bP
   have al := bQ
   have ah := bR
   have ao := bS
   have aj := bT
   have aa := bU
   have ab := bV
   have ad := bW
   have HB := eL
   clear bO bP bQ bR bS bT bU bV bW eL
   (try clear hb)
   (try clear hb2)
   (try clear hk)
   (try clear hi)
   (try clear aY)
   refine hK.out _ _ ⟨.slice ci bi.length cj, aL, aO, aM, m12_, m13_, (by rw [ha.out]; exact putSel_upk 3 hb_ rfl rfl rfl), (vz ak.out), (vz ag.out), (vz al.out), (vz ah.out), (ku aa.out), (ku ab.out), (ku ad.out), (bu3 HB.out ai.out an.out au.out), fun _ => (nu ao.out), fun _ => (vz aj.out), bd, fun aQ => absurd ((hoff 11 (by kernel_rfl)).symm.trans aQ) (by decide), fun aQ => absurd ((hoff 12 (by kernel_rfl)).symm.trans aQ) (by decide), fun aQ => absurd ((hoff 13 (by kernel_rfl)).symm.trans aQ) (by decide)⟩
  refine steps_cons ?_ ?_
  ·
   rintro b a w' ⟨aN, aL, aO, aM, m12_, m13_, ha, aA, aB, aC, aD, aw, ax, ay, Q_HB, aF, aH, aE, aJ, Q_X12_, Q_X13_⟩ hb_ hon hoff
   refine ⟨_, rfl, fun K hK => ?_⟩
   have e16 : a.tmps[16]? = some (.pointer (some ⟨af, 1, none⟩)) := by rw [ha]; exact (putSel_off rfl).trans rfl
   replace ha := am ha
   have ak := am aA
   have ag := am aB
   have al := am aC
   have ah := am aD
   have aa := am aw
   have ab := am ax
   have ad := am ay
   have HB := am Q_HB
   obtain ⟨cf, cg, ch⟩ := bx ab
   refine value_ (w1 := w') (v := .slice A1_1 l1_1.length c1_1) (by rfl) rfl ?_ ?_
   ·
    go_simp
    (try simp only [i64_w])
    try rfl
   refine hK.out _ _ ⟨aN, aL, aO, aM, m12_, m13_, (by rw [ha.out]; exact putSel_upk 4 hb_ rfl rfl rfl), aA, aB, aC, aD, aw, ax, ay, Q_HB, aF, aH, fun aQ => absurd ((hoff 10 (by kernel_rfl)).symm.trans aQ) (by decide), fun aQ => absurd ((hoff 11 (by kernel_rfl)).symm.trans aQ) (by decide), fun aQ => absurd ((hoff 12 (by kernel_rfl)).symm.trans aQ) (by decide), fun aQ => absurd ((hoff 13 (by kernel_rfl)).symm.trans aQ) (by decide)⟩
  refine steps_cons ?_ ?_
  ·
   rintro b a w' ⟨aN, aL, aO, aM, m12_, m13_, ha, aA, aB, aC, aD, aw, ax, ay, Q_HB, aF, aH, aE, aJ, Q_X12_, Q_X13_⟩ hb_ hon hoff
   refine ⟨_, rfl, fun K hK => ?_⟩
   have e18 : a.tmps[18]? = some (.pointer (some ⟨ac, 2, none⟩)) := by rw [ha]; exact (putSel_off rfl).trans rfl
   replace ha := am ha
   have ak := am aA
   have ag := am aB
   have al := am aC
   have ah := am aD
   have aa := am aw
   have ab := am ax
   have ad := am ay
   have HB := am Q_HB
   obtain ⟨cf, cg, ch⟩ := bx aa
   refine value_ (w1 := w') (v := .slice A0_2 l0_2.length c0_2) (by rfl) rfl ?_ ?_
   ·
    go_simp
    (try simp only [i64_w])
    try rfl
   refine hK.out _ _ ⟨aN, aL, aO, aM, m12_, m13_, (by rw [ha.out]; exact putSel_upk 5 hb_ rfl rfl rfl), aA, aB, aC, aD, aw, ax, ay, Q_HB, aF, aH, fun aQ => absurd ((hoff 10 (by kernel_rfl)).symm.trans aQ) (by decide), fun aQ => absurd ((hoff 11 (by kernel_rfl)).symm.trans aQ) (by decide), fun aQ => absurd ((hoff 12 (by kernel_rfl)).symm.trans aQ) (by decide), fun aQ => absurd ((hoff 13 (by kernel_rfl)).symm.trans aQ) (by decide)⟩
  refine steps_cons ?_ ?_
  ·
   rintro b a w' ⟨aN, aL, aO, aM, m12_, m13_, ha, aA, aB, aC, aD, aw, ax, ay, Q_HB, aF, aH, aE, aJ, Q_X12_, Q_X13_⟩ hb_ hon hoff
   refine ⟨_, rfl, fun K hK => ?_⟩
   have e17 : a.tmps[17]? = some (.slice A1_1 l1_1.length c1_1) := by rw [ha]; exact putSel_on (e := (7, 17, .slice A1_1 l1_1.length c1_1)) 4 rfl rfl (hon 7 (by kernel_rfl)) rfl
   have e19 : a.tmps[19]? = some (.slice A0_2 l0_2.length c0_2) := by rw [ha]; exact putSel_on (e := (9, 19, .slice A0_2 l0_2.length c0_2)) 5 rfl rfl (hon 9 (by kernel_rfl)) rfl
   replace ha := am ha
   have ak := am aA
   have ag := am aB
   have al := am aC
   have ah := am aD
   have aa := am aw
   have ab := am ax
   have ad := am ay
   have HB := am Q_HB
   refine Kd.N_lit_step (Kd.slice 48 (Kd.int .u32)) _ 42 ?hg (N' := 20) ?hd (xs := ([l1_1, l0_2] : List (List Int))) (inner := [.slice A1_1 l1_1.length c1_1, .slice A0_2 l0_2.length c0_2]) (ok := (fun k_ => ((P0_1_ k_ ∨ P0_2_ k_ ∨ P1_1_ k_ ∨ P1_2_ k_) ∨ w.heap.size ≤ k_) ∧ k_ ≠ ac ∧ k_ ≠ af ∧ k_ ≠ ae)) (okp := (fun k_ => ((P0_1_ k_ ∨ P0_2_ k_ ∨ P1_1_ k_ ∨ P1_2_ k_) ∨ w.heap.size ≤ k_) ∧ k_ ≠ ac ∧ k_ ≠ af ∧ k_ ≠ ae)) ?hr ?hp (fun _ hk => hk) ((show ∀ k_, w'.heap.size ≤ k_ → (fun k_ => ((P0_1_ k_ ∨ P0_2_ k_ ∨ P1_1_ k_ ∨ P1_2_ k_) ∨ w.heap.size ≤ k_) ∧ k_ ≠ ac ∧ k_ ≠ af ∧ k_ ≠ ae) k_ from fun k_ hk => ⟨(.inr (Nat.le_trans (below_size (bu3 HB.out ai.out an.out au.out)) hk)), Kd.freshB (g := ac) (o := .cells #[.bool a0_0, .slice A0_1 l0_1.length c0_1, .slice A0_2 l0_2.length c0_2] 67 (0, 0)) (ku aa.out) k_ hk, Kd.freshB (g := af) (o := .cells #[.bool a1_0, .slice A1_1 l1_1.length c1_1, .slice A1_2 l1_2.length c1_2] 67 (0, 0)) (ku ab.out) k_ hk, Kd.freshB (g := ae) (o := .cells #[.bool false, .slice none 0 0, .slice none 0 0] 67 (0, 0)) (ku ad.out) k_ hk⟩) _ (Nat.le_refl _)) (Below.refl _ _) (Nat.le_refl _) (by simp) ?_; (case hd => rfl); (case hg => rfl); (case hr => first | (go_simp; done) | (go_simp; rfl)); (case hp => exact (Reps.one (show Kd.FK (Kd.slice 48 (Kd.int .u32)) _ _ l1_1 [.slice A1_1 l1_1.length c1_1] from (Kd.FK_slice_mk (Kd.V_reads' (vy ((fun k_ => ((P0_1_ k_ ∨ P0_2_ k_ ∨ P1_1_ k_ ∨ P1_2_ k_) ∨ w.heap.size ≤ k_) ∧ k_ ≠ ac ∧ k_ ≠ af ∧ k_ ≠ ae)) al.out)).2.1 (Kd.V_F (vy ((fun k_ => ((P0_1_ k_ ∨ P0_2_ k_ ∨ P1_1_ k_ ∨ P1_2_ k_) ∨ w.heap.size ≤ k_) ∧ k_ ≠ ac ∧ k_ ≠ af ∧ k_ ≠ ae)) al.out)))) (Reps.one (show Kd.FK (Kd.slice 48 (Kd.int .u32)) _ _ l0_2 [.slice A0_2 l0_2.length c0_2] from (Kd.FK_slice_mk (Kd.V_reads' (vy ((fun k_ => ((P0_1_ k_ ∨ P0_2_ k_ ∨ P1_1_ k_ ∨ P1_2_ k_) ∨ w.heap.size ≤ k_) ∧ k_ ≠ ac ∧ k_ ≠ af ∧ k_ ≠ ae)) ag.out)).2.1 (Kd.V_F (vy ((fun k_ => ((P0_1_ k_ ∨ P0_2_ k_ ∨ P1_1_ k_ ∨ P1_2_ k_) ∨ w.heap.size ≤ k_) ∧ k_ ≠ ac ∧ k_ ≠ af ∧ k_ ≠ ae)) ag.out)))) (Reps.none _ _))))
   intro aO dn aT hb hg_ hnew_
   clear hg_ hnew_
   (first | rw [← bC.out] at aT | (simp only [Int.reduceToNat] at aT; rw [← bC.out] at aT))
   have bO := el ak aT hb
   have bP := el ag aT hb
   have bQ := el al aT hb
   have bR := el ah aT hb
   have bS := am (Kd.N_lower aT (below_size (bu3 HB.out ai.out an.out au.out)))
   have bT := kb aa hb
   have bU := kb ab hb
   have bV := kb ad hb
   have bW := be3 HB ai an au hb
   have bD := fun (aQ : b 4 = true) => (show Kd.N (Kd.slice 48 (Kd.int .u32)) 42 dn w.heap.size (fun k_ => ((P0_1_ k_ ∨ P0_2_ k_ ∨ P1_1_ k_ ∨ P1_2_ k_) ∨ w.heap.size ≤ k_) ∧ k_ ≠ ac ∧ k_ ≠ af ∧ k_ ≠ ae) aN bi from by first | exact (Kd.N_elder' (by (with_reducible repeat (first | apply Kd.N_alloc | apply Kd.N_drewN | apply Kd.N_drew)); exact (aF aQ)) (Kd.N_base aT) hb) | exact Kd.N_mono (Kd.N_elder' (by (with_reducible repeat (first | apply Kd.N_alloc | apply Kd.N_drewN | apply Kd.N_drew)); exact (aF aQ)) (Kd.N_base aT) hb) (fun _ h_ => by first | trivial | exact h_ | exact h_.1))
   have bE := fun (aQ : b 5 = true) => (show Kd.V (Kd.int .u32) 48 dn w.heap.size (fun k_ => ((P0_1_ k_ ∨ P0_2_ k_ ∨ P1_1_ k_ ∨ P1_2_ k_) ∨ w.heap.size ≤ k_) ∧ k_ ≠ ac ∧ k_ ≠ af ∧ k_ ≠ ae) aL aR from by first | exact (Kd.V_elder' (by (with_reducible repeat (first | apply Kd.V_alloc | apply Kd.V_drewN | apply Kd.V_drew)); exact (aH aQ)) (Kd.N_base aT) hb) | exact Kd.V_mono (Kd.V_elder' (by (with_reducible repeat (first | apply Kd.V_alloc | apply Kd.V_drewN | apply Kd.V_drew)); exact (aH aQ)) (Kd.N_base aT) hb) (fun _ h_ => by first | trivial | exact h_ | exact h_.1))
   clear ak ag al ah aa ab ad HB
   have ak := bO
   have ag := bP
   have al := bQ
   have ah := bR
   have av := bS
   have aa := bT
   have ab := bU
   have ad := bV
   have HB := bW
   clear bO bP bQ bR bS bT bU bV bW hb aT
   refine hK.out _ _ ⟨aN, aL, aO, aM, m12_, m13_, (by rw [ha.out]; exact putSel_upk 6 hb_ rfl rfl rfl), (vz ak.out), (vz ag.out), (vz al.out), (vz ah.out), (ku aa.out), (ku ab.out), (ku ad.out), (bu3 HB.out ai.out an.out au.out), bD, bE, fun _ => (nu av.out), fun aQ => absurd ((hoff 11 (by kernel_rfl)).symm.trans aQ) (by decide), fun aQ => absurd ((hoff 12 (by kernel_rfl)).symm.trans aQ) (by decide), fun aQ => absurd ((hoff 13 (by kernel_rfl)).symm.trans aQ) (by decide)⟩
  refine steps_cons ?_ ?_
  ·
   rintro b a w' ⟨aN, aL, aO, aM, m12_, m13_, ha, aA, aB, aC, aD, aw, ax, ay, Q_HB, aF, aH, aE, aJ, Q_X12_, Q_X13_⟩ hb_ hon hoff
   refine ⟨_, rfl, fun K hK => ?_⟩
   have e20 : a.tmps[20]? = some (aO) := by rw [ha]; exact putSel_on (e := (10, 20, aO)) 6 rfl rfl (hon 10 (by kernel_rfl)) rfl
   replace ha := am ha
   have ak := am aA
   have ag := am aB
   have al := am aC
   have ah := am aD
   have aa := am aw
   have ab := am ax
   have ad := am ay
   have HB := am Q_HB
   have ao := am (aF (hon 4 (by kernel_rfl)))
   have aj := am (aH (hon 5 (by kernel_rfl)))
   have av := am (aE (hon 10 (by kernel_rfl)))
   obtain ⟨ck, cl, co⟩ := Kd.N_slice av.out
   (first | subst co | (injection co with f1_ f2_ f3_; have f4_ := f1_.symm; have f5_ := f3_.symm; clear f1_ f2_ f3_; subst f4_; subst f5_))
   refine goes_ Try.func145 (by kernel_rfl) rfl #[.slice ck bb.length cl] (by rfl) rfl rfl (by first | (simp only [List.map_toArray, List.map_cons, List.map_nil, Act.eval, Array.getD_eq_getD_getElem?, Option.getD_some, e20]; done) | (simp only [List.map_toArray, List.map_cons, List.map_nil, Act.eval, Array.getD_eq_getD_getElem?, Option.getD_some, e20]; rfl)) ?_
   with_reducible refine (nat_Mul.calls k _ _ bb aS _ ?side1 ?side2 A4.out).mono ?_
   (case side1 => exact cu (Kd.N_reads' av.out).2.2)
   (case side2 => exact (Kd.N_reads' av.out).2.1)
   rintro e dp ⟨aM, rfl, aY, hb⟩
   refine ⟨_, rfl, ?_⟩
   replace aY := R_V_base rfl aY
   replace ak := kv ak hb
   replace ag := kv ag hb
   replace al := kv al hb
   replace ah := kv ah hb
   replace aj := kv aj hb
   have aq := ar0 w.heap.size (ok' := fun k_ => ((P0_1_ k_ ∨ P0_2_ k_ ∨ P1_1_ k_ ∨ P1_2_ k_) ∨ w.heap.size ≤ k_) ∧ some k_ ≠ (aN : Value).ownBlock ∧ some k_ ≠ (.slice ck bb.length cl : Value).ownBlock ∧ k_ ≠ ac ∧ k_ ≠ af ∧ k_ ≠ ae) aY (fa (fz3 HB ai an au) (fa (fo ao) (fa (fo av) (fa (fb aa) (fa (fb ab) (fb ad))))))
   replace ao := kn ao hb
   replace av := kn av hb
   replace aa := kb aa hb
   replace ab := kb ab hb
   replace ad := kb ad hb
   replace HB := be3 HB ai an au hb
   (try clear hb)
   (try clear hb2)
   (try clear hk)
   (try clear hi)
   (try clear aY)
   refine hK.out _ _ ⟨aN, aL, .slice ck bb.length cl, aM, m12_, m13_, (by rw [ha.out]; exact putSel_upk 7 hb_ rfl rfl rfl), (vz ak.out), (vz ag.out), (vz al.out), (vz ah.out), (ku aa.out), (ku ab.out), (ku ad.out), (bu3 HB.out ai.out an.out au.out), fun _ => (nu ao.out), fun _ => (vz aj.out), fun _ => (nu av.out), fun _ => (vz aq.out), fun aQ => absurd ((hoff 12 (by kernel_rfl)).symm.trans aQ) (by decide), fun aQ => absurd ((hoff 13 (by kernel_rfl)).symm.trans aQ) (by decide)⟩
  refine steps_cons ?_ ?_
  ·
   rintro b a w' ⟨aN, aL, aO, aM, m12_, m13_, ha, aA, aB, aC, aD, aw, ax, ay, Q_HB, aF, aH, aE, aJ, Q_X12_, Q_X13_⟩ hb_ hon hoff
   refine ⟨_, rfl, fun K hK => ?_⟩
   have e15 : a.tmps[15]? = some (aL) := by rw [ha]; exact putSel_on (e := (5, 15, aL)) 3 rfl rfl (hon 5 (by kernel_rfl)) rfl
   replace ha := am ha
   have ak := am aA
   have ag := am aB
   have al := am aC
   have ah := am aD
   have aa := am aw
   have ab := am ax
   have ad := am ay
   have HB := am Q_HB
   have ao := am (aF (hon 4 (by kernel_rfl)))
   have aj := am (aH (hon 5 (by kernel_rfl)))
   have av := am (aE (hon 10 (by kernel_rfl)))
   have aq := am (aJ (hon 11 (by kernel_rfl)))
   refine value_ (w1 := w') (v := aL) (by rfl) rfl ?_ ?_
   ·
    go_simp
    (try simp only [i64_w])
    try rfl
   refine hK.out _ _ ⟨aN, aL, aO, aM, (aL), m13_, (by rw [ha.out]; exact putSel_upk 8 hb_ rfl rfl rfl), aA, aB, aC, aD, aw, ax, ay, Q_HB, aF, aH, aE, aJ, fun _ => rfl, fun aQ => absurd ((hoff 13 (by kernel_rfl)).symm.trans aQ) (by decide)⟩
  refine steps_cons ?_ ?_
  ·
   rintro b a w' ⟨aN, aL, aO, aM, m12_, m13_, ha, aA, aB, aC, aD, aw, ax, ay, Q_HB, aF, aH, aE, aJ, Q_X12_, Q_X13_⟩ hb_ hon hoff
   refine ⟨_, rfl, fun K hK => ?_⟩
   have e21 : a.tmps[21]? = some (aM) := by rw [ha]; exact putSel_on (e := (11, 21, aM)) 7 rfl rfl (hon 11 (by kernel_rfl)) rfl
   replace ha := am ha
   have ak := am aA
   have ag := am aB
   have al := am aC
   have ah := am aD
   have aa := am aw
   have ab := am ax
   have ad := am ay
   have HB := am Q_HB
   have ao := am (aF (hon 4 (by kernel_rfl)))
   have aj := am (aH (hon 5 (by kernel_rfl)))
   have av := am (aE (hon 10 (by kernel_rfl)))
   have aq := am (aJ (hon 11 (by kernel_rfl)))
   refine value_ (w1 := w') (v := aM) (by rfl) rfl ?_ ?_
   ·
    go_simp
    (try simp only [i64_w])
    try rfl
   refine hK.out _ _ ⟨aN, aL, aO, aM, m12_, (aM), (by rw [ha.out]; exact putSel_upk 9 hb_ rfl rfl rfl), aA, aB, aC, aD, aw, ax, ay, Q_HB, aF, aH, aE, aJ, Q_X12_, fun _ => rfl⟩
  exact steps_nil
 rintro b a dp hall ⟨aN, aL, aO, aM, m12_, m13_, ha, aA, aB, aC, aD, aw, ax, ay, Q_HB, aF, aH, aE, aJ, Q_X12_, Q_X13_⟩
 clear aa ab ad HB ak ag al ah
 have hb1_ := hall 1 (by kernel_rfl)
 have hb3_ := hall 3 (by kernel_rfl)
 have hb4_ := hall 4 (by kernel_rfl)
 have hb5_ := hall 5 (by kernel_rfl)
 have hb7_ := hall 7 (by kernel_rfl)
 have hb9_ := hall 9 (by kernel_rfl)
 have hb10_ := hall 10 (by kernel_rfl)
 have hb11_ := hall 11 (by kernel_rfl)
 have hb12_ := hall 12 (by kernel_rfl)
 have hb13_ := hall 13 (by kernel_rfl)
 subst ha
 obtain rfl := Q_X12_ hb12_
 obtain rfl := Q_X13_ hb13_
 simp only [putSel, hb1_, hb3_, hb4_, hb5_, hb7_, hb9_, hb10_, hb11_, hb12_, hb13_, if_true, Act.put, List.setIfInBounds_toArray, List.set_cons_zero, List.set_cons_succ]
 have ak := am aA
 clear aA
 have ag := am aB
 clear aB
 have al := am aC
 clear aC
 have ah := am aD
 clear aD
 have aa := am aw
 clear aw
 have ab := am ax
 clear ax
 have ad := am ay
 clear ay
 have HB := am Q_HB
 clear Q_HB
 have ao := am (aF hb4_)
 clear aF
 have aj := am (aH hb5_)
 clear aH
 have av := am (aE hb10_)
 clear aE
 have aq := am (aJ hb11_)
 clear aJ
 clear hall hb1_ hb3_ hb4_ hb5_ hb7_ hb9_ hb10_ hb11_ hb12_ hb13_
 have eM := aV.out
 have eN := aG.out
 have eO := az.out
 have eP := aP.out
 obtain ⟨dq, dr, dt, du, dv, dw⟩ := bz aa
 have eQ := aW.out
 have eR := aX.out
 obtain ⟨dx, dy, dz, dA, dB, dC⟩ := bz ab
 by_cases c6 : (a0_0 == a1_0) = true
 ·
  rw [if_pos c6] at H
  have eg : (a0_0 == a1_0) = true := c6
  (try (have eh : decide (a0_0 = a1_0) = true := by simpa using c6))
  (try (have ei : (a0_0 == a1_0) = true := by simpa using c6))
  clear c6
  obtain ⟨a8, bf⟩ : ∃ y_ : List (List Int), y_ = (([aR, aS] : List (List Int))) := ⟨_, rfl⟩
  replace H : ((nat_Add.f k a8).bind fun a9 => ((rational_canonical.f k a0_0 a9 aU).bind fun a1 => (some (a1.1, a1.2.1, a1.2.2)))) = some (r1, r2, r3) := by first | (rw [bf]; with_reducible exact H) | (have H2_ := (Option.bind_some _ _).symm.trans H; rw [bf]; with_reducible exact H2_) | (have H2_ := (Option.bind_some _ _).symm.trans H; with_reducible exact H2_) | with_reducible exact H | (rw [bf]; exact H) | exact H
  have bF := am bf
  clear bf
  obtain ⟨a9, A7, H⟩ := bs H
  (try dsimp -simprocs only at H)
  obtain ⟨⟨bX, bY, bZ⟩, A8, H⟩ := bs H
  (try dsimp -simprocs only at H)
  simp only [Option.some.injEq, Prod.mk.injEq] at H
  obtain ⟨rfl, rfl, rfl⟩ := H
  try go_wp2_with (first | ((with_reducible refine gate_dst (N := 26) rfl ?_); refine Kd.N_lit (Kd.slice 48 (Kd.int .u32)) _ 42 ?hg (N' := 26) ?hd (xs := ([l0_2, l1_2] : List (List Int))) (inner := [.slice A0_2 l0_2.length c0_2, .slice A1_2 l1_2.length c1_2]) (ok := (fun k_ => ((P0_1_ k_ ∨ P0_2_ k_ ∨ P1_1_ k_ ∨ P1_2_ k_) ∨ w.heap.size ≤ k_) ∧ k_ ≠ ac ∧ k_ ≠ af ∧ k_ ≠ ae)) (okp := (fun k_ => ((P0_1_ k_ ∨ P0_2_ k_ ∨ P1_1_ k_ ∨ P1_2_ k_) ∨ w.heap.size ≤ k_) ∧ k_ ≠ ac ∧ k_ ≠ af ∧ k_ ≠ ae)) ?hr ?hp (fun _ hk => hk) ((show ∀ k_, dp.heap.size ≤ k_ → (fun k_ => ((P0_1_ k_ ∨ P0_2_ k_ ∨ P1_1_ k_ ∨ P1_2_ k_) ∨ w.heap.size ≤ k_) ∧ k_ ≠ ac ∧ k_ ≠ af ∧ k_ ≠ ae) k_ from fun k_ hk => ⟨(.inr (Nat.le_trans (below_size (bu3 HB.out ai.out an.out au.out)) hk)), Kd.freshB (g := ac) (o := .cells #[.bool a0_0, .slice A0_1 l0_1.length c0_1, .slice A0_2 l0_2.length c0_2] 67 (0, 0)) (ku aa.out) k_ hk, Kd.freshB (g := af) (o := .cells #[.bool a1_0, .slice A1_1 l1_1.length c1_1, .slice A1_2 l1_2.length c1_2] 67 (0, 0)) (ku ab.out) k_ hk, Kd.freshB (g := ae) (o := .cells #[.bool false, .slice none 0 0, .slice none 0 0] 67 (0, 0)) (ku ad.out) k_ hk⟩) _ (Nat.le_refl _)) (Below.refl _ _) (Nat.le_refl _) (by simp) ?_; (case hd => rfl); (case hg => rfl); (case hr => first | (go_simp; done) | (go_simp; rfl)); (case hp => exact (Reps.one (show Kd.FK (Kd.slice 48 (Kd.int .u32)) _ _ l0_2 [.slice A0_2 l0_2.length c0_2] from (Kd.FK_slice_mk (Kd.V_reads' (vy ((fun k_ => ((P0_1_ k_ ∨ P0_2_ k_ ∨ P1_1_ k_ ∨ P1_2_ k_) ∨ w.heap.size ≤ k_) ∧ k_ ≠ ac ∧ k_ ≠ af ∧ k_ ≠ ae)) ag.out)).2.1 (Kd.V_F (vy ((fun k_ => ((P0_1_ k_ ∨ P0_2_ k_ ∨ P1_1_ k_ ∨ P1_2_ k_) ∨ w.heap.size ≤ k_) ∧ k_ ≠ ac ∧ k_ ≠ af ∧ k_ ≠ ae)) ag.out)))) (Reps.one (show Kd.FK (Kd.slice 48 (Kd.int .u32)) _ _ l1_2 [.slice A1_2 l1_2.length c1_2] from (Kd.FK_slice_mk (Kd.V_reads' (vy ((fun k_ => ((P0_1_ k_ ∨ P0_2_ k_ ∨ P1_1_ k_ ∨ P1_2_ k_) ∨ w.heap.size ≤ k_) ∧ k_ ≠ ac ∧ k_ ≠ af ∧ k_ ≠ ae)) ah.out)).2.1 (Kd.V_F (vy ((fun k_ => ((P0_1_ k_ ∨ P0_2_ k_ ∨ P1_1_ k_ ∨ P1_2_ k_) ∨ w.heap.size ≤ k_) ∧ k_ ≠ ac ∧ k_ ≠ af ∧ k_ ≠ ae)) ah.out)))) (Reps.none _ _)))); intro b0 fn a6 hb hg_ hnew_; clear hg_ hnew_; (first | rw [← a5.out] at a6 | (simp only [Int.reduceToNat] at a6; rw [← a5.out] at a6)); replace ak := el ak a6 hb; replace ag := el ag a6 hb; replace al := el al a6 hb; replace ah := el ah a6 hb; replace ao := en ao a6 hb; replace aj := el aj a6 hb; replace av := en av a6 hb; replace aq := el aq a6 hb; have ap := am (Kd.N_lower a6 (below_size (bu3 HB.out ai.out an.out au.out))); replace aa := kb aa hb; replace ab := kb ab hb; replace ad := kb ad hb; replace HB := be3 HB ai an au hb; clear hb a6; obtain ⟨a3, a4, ej⟩ := Kd.N_slice ap.out; subst ej) | ((with_reducible refine gate_callee (f := 145) rfl ?_); refine goesL_ (some 27) rfl rfl Try.func145 (by kernel_rfl) rfl #[.slice a3 aK.length a4] rfl lu ?_; (with_reducible refine (nat_Mul.calls k _ _ aK aU _ ?side1 ?side2 A5.out).mono ?_); (case side1 => exact cu (Kd.N_reads' ap.out).2.2); (case side2 => exact (Kd.N_reads' ap.out).2.1); rintro e e6 ⟨b1, rfl, aY, hb⟩; refine ⟨_, rfl, ?_⟩; replace aY := R_V_base rfl aY; replace ak := kv ak hb; replace ag := kv ag hb; replace al := kv al hb; replace ah := kv ah hb; replace aj := kv aj hb; replace aq := kv aq hb; have aI := ar0 w.heap.size (ok' := fun k_ => ((P0_1_ k_ ∨ P0_2_ k_ ∨ P1_1_ k_ ∨ P1_2_ k_) ∨ w.heap.size ≤ k_) ∧ some k_ ≠ (.slice a3 aK.length a4 : Value).ownBlock ∧ k_ ≠ ac ∧ k_ ≠ af ∧ k_ ≠ ae) aY (fa (fz3 HB ai an au) (fa (fo ap) (fa (fb aa) (fa (fb ab) (fb ad))))); replace ao := kn ao hb; replace av := kn av hb; replace ap := kn ap hb; replace aa := kb aa hb; replace ab := kb ab hb; replace ad := kb ad hb; replace HB := be3 HB ai an au hb; (try clear hb); (try clear hk); (try clear aY); obtain ⟨dD, dE, dF, dG, dH, dI⟩ := bz aa; obtain ⟨dJ, dK, dL, dM, dN, dO⟩ := bz ab))
  replace ak := am (Kd.V_drew ak.out)
  replace ag := am (Kd.V_drew ag.out)
  replace al := am (Kd.V_drew al.out)
  replace ah := am (Kd.V_drew ah.out)
  replace ao := am (Kd.N_drew ao.out)
  replace aj := am (Kd.V_drew aj.out)
  replace av := am (Kd.N_drew av.out)
  replace aq := am (Kd.V_drew aq.out)
  replace ap := am (Kd.N_drew ap.out)
  replace aI := am (Kd.V_drew aI.out)
  replace aa := am (blk_drew aa.out)
  replace ab := am (blk_drew ab.out)
  replace ad := am (blk_drew ad.out)
  replace HB := am (below_drew1 HB.out)
  obtain ⟨cp, cq, cr⟩ := Kd.V_slice aj.out
  (first | subst cr | (injection cr with f1_ f2_ f3_; have f4_ := f1_.symm; have f5_ := f3_.symm; clear f1_ f2_ f3_; subst f4_; subst f5_))
  obtain ⟨ct, cv, cw⟩ := Kd.V_slice aq.out
  (first | subst cw | (injection cw with f1_ f2_ f3_; have f4_ := f1_.symm; have f5_ := f3_.symm; clear f1_ f2_ f3_; subst f4_; subst f5_))
  refine start_ (n := 9) (S := fun w' => w'.cell? ⟨ac, 0, none⟩ = some (.bool a0_0) ∧ w'.cell? ⟨ac, 1, none⟩ = some (.slice A0_1 l0_1.length c0_1) ∧ w'.cell? ⟨ac, 2, none⟩ = some (.slice A0_2 l0_2.length c0_2)) (ds := []) #[false, false, false, false, false, false, false, false, false] (by kernel_rfl) rfl rfl ⟨bc aa 0, bc aa 1, bc aa 2⟩ (fun hHeld => ?_); refine with_tabW rational_plus.tab4 rational_plus.bits4 (fun HT_ HW_ => ?_)
  generalize e6.drew = e7 at ak ag al ah ao aj av aq ap aI aa ab ad HB hHeld ⊢
  refine pq 0 (some 33) #[true, false, false, false, false, false, false, false, false] HT_ ?_
  refine pq 2 (some 35) #[true, false, true, false, false, false, false, false, false] HT_ ?_
  refine pq 3 (some 36) #[true, false, true, true, false, false, false, false, false] HT_ ?_
  refine pq 6 (some 39) #[true, false, true, true, false, false, true, false, false] HT_ ?_
  refine tq 1 (some 34) #[true, true, true, true, false, false, true, false, false] HT_ HW_ hHeld ?_
  refine one_ (i := 4) (N := some 37) #[true, true, true, true, true, false, true, false, false] rfl rfl (one_of HT_.out (by kernel_rfl)) (by decide) (fun K hK => ?_)
  refine Kd.N_lit_step (Kd.slice 48 (Kd.int .u32)) _ 42 ?hg (N' := 37) ?hd (xs := ([aR, aS] : List (List Int))) (inner := [.slice cp aR.length cq, .slice ct aS.length cv]) (ok := (fun k_ => ((P0_1_ k_ ∨ P0_2_ k_ ∨ P1_1_ k_ ∨ P1_2_ k_) ∨ w.heap.size ≤ k_) ∧ some k_ ≠ (.slice a3 aK.length a4 : Value).ownBlock ∧ k_ ≠ ac ∧ k_ ≠ af ∧ k_ ≠ ae)) (okp := (fun k_ => ((P0_1_ k_ ∨ P0_2_ k_ ∨ P1_1_ k_ ∨ P1_2_ k_) ∨ w.heap.size ≤ k_) ∧ some k_ ≠ (.slice a3 aK.length a4 : Value).ownBlock ∧ k_ ≠ ac ∧ k_ ≠ af ∧ k_ ≠ ae)) ?hr ?hp (fun _ hk => hk) ((show ∀ k_, e7.heap.size ≤ k_ → (fun k_ => ((P0_1_ k_ ∨ P0_2_ k_ ∨ P1_1_ k_ ∨ P1_2_ k_) ∨ w.heap.size ≤ k_) ∧ some k_ ≠ (.slice a3 aK.length a4 : Value).ownBlock ∧ k_ ≠ ac ∧ k_ ≠ af ∧ k_ ≠ ae) k_ from fun k_ hk => ⟨(.inr (Nat.le_trans (below_size (bu3 HB.out ai.out an.out au.out)) hk)), Kd.fresh' (Kd.N_lt (nu ap.out)) k_ hk, Kd.freshB (g := ac) (o := .cells #[.bool a0_0, .slice A0_1 l0_1.length c0_1, .slice A0_2 l0_2.length c0_2] 67 (0, 0)) (ku aa.out) k_ hk, Kd.freshB (g := af) (o := .cells #[.bool a1_0, .slice A1_1 l1_1.length c1_1, .slice A1_2 l1_2.length c1_2] 67 (0, 0)) (ku ab.out) k_ hk, Kd.freshB (g := ae) (o := .cells #[.bool false, .slice none 0 0, .slice none 0 0] 67 (0, 0)) (ku ad.out) k_ hk⟩) _ (Nat.le_refl _)) (Below.refl _ _) (Nat.le_refl _) (by simp) ?_; (case hd => rfl); (case hg => rfl); (case hr => first | (go_simp; done) | (go_simp; rfl)); (case hp => exact (Reps.one (show Kd.FK (Kd.slice 48 (Kd.int .u32)) _ _ aR [.slice cp aR.length cq] from (Kd.FK_slice_mk (Kd.V_reads' (vy ((fun k_ => ((P0_1_ k_ ∨ P0_2_ k_ ∨ P1_1_ k_ ∨ P1_2_ k_) ∨ w.heap.size ≤ k_) ∧ some k_ ≠ (.slice a3 aK.length a4 : Value).ownBlock ∧ k_ ≠ ac ∧ k_ ≠ af ∧ k_ ≠ ae)) aj.out)).2.1 (Kd.V_F (vy ((fun k_ => ((P0_1_ k_ ∨ P0_2_ k_ ∨ P1_1_ k_ ∨ P1_2_ k_) ∨ w.heap.size ≤ k_) ∧ some k_ ≠ (.slice a3 aK.length a4 : Value).ownBlock ∧ k_ ≠ ac ∧ k_ ≠ af ∧ k_ ≠ ae)) aj.out)))) (Reps.one (show Kd.FK (Kd.slice 48 (Kd.int .u32)) _ _ aS [.slice ct aS.length cv] from (Kd.FK_slice_mk (Kd.V_reads' (vy ((fun k_ => ((P0_1_ k_ ∨ P0_2_ k_ ∨ P1_1_ k_ ∨ P1_2_ k_) ∨ w.heap.size ≤ k_) ∧ some k_ ≠ (.slice a3 aK.length a4 : Value).ownBlock ∧ k_ ≠ ac ∧ k_ ≠ af ∧ k_ ≠ ae)) aq.out)).2.1 (Kd.V_F (vy ((fun k_ => ((P0_1_ k_ ∨ P0_2_ k_ ∨ P1_1_ k_ ∨ P1_2_ k_) ∨ w.heap.size ≤ k_) ∧ some k_ ≠ (.slice a3 aK.length a4 : Value).ownBlock ∧ k_ ≠ ac ∧ k_ ≠ af ∧ k_ ≠ ae)) aq.out)))) (Reps.none _ _))))
  intro eS fp a2 hb hg_ hnew_
  clear hg_ hnew_
  (first | rw [← bF.out] at a2 | (simp only [Int.reduceToNat] at a2; rw [← bF.out] at a2))
  replace ak := el ak a2 hb
  replace ag := el ag a2 hb
  replace al := el al a2 hb
  replace ah := el ah a2 hb
  replace ao := en ao a2 hb
  replace aj := el aj a2 hb
  replace av := en av a2 hb
  replace aq := el aq a2 hb
  replace ap := en ap a2 hb
  replace aI := el aI a2 hb
  have aZ := am (Kd.N_lower a2 (below_size (bu3 HB.out ai.out an.out au.out)))
  replace aa := kb aa hb
  replace ab := kb ab hb
  replace ad := kb ad hb
  replace HB := be3 HB ai an au hb
  clear hb a2
  obtain ⟨bw, bA, cx⟩ := Kd.N_slice aZ.out
  (first | subst cx | (injection cx with f1_ f2_ f3_; have f4_ := f1_.symm; have f5_ := f3_.symm; clear f1_ f2_ f3_; subst f4_; subst f5_))
  refine hK.out _ _ ⟨bc aa 0, bc aa 1, bc aa 2⟩ (fun hHeld => ?_)
  clear hK K
  refine nq 37 ?_
  refine one_ (i := 5) (N := some 38) #[true, true, true, true, true, true, true, false, false] rfl rfl (one_of HT_.out (by kernel_rfl)) (by decide) (fun K hK => ?_)
  refine goes_ Try.func142 (by kernel_rfl) rfl #[.slice bw a8.length bA] (by rfl) rfl rfl lu ?_
  with_reducible refine (nat_Add.calls k _ _ a8 a9 _ ?side1 ?side2 A7.out).mono ?_
  (case side1 => exact cu (Kd.N_reads' aZ.out).2.2)
  (case side2 => exact (Kd.N_reads' aZ.out).2.1)
  rintro e fq ⟨eT, rfl, aY, hb⟩
  refine ⟨_, rfl, ?_⟩
  replace aY := R_V_base rfl aY
  replace ak := kv ak hb
  replace ag := kv ag hb
  replace al := kv al hb
  replace ah := kv ah hb
  replace aj := kv aj hb
  replace aq := kv aq hb
  replace aI := kv aI hb
  have bj := ar0 w.heap.size (ok' := fun k_ => ((P0_1_ k_ ∨ P0_2_ k_ ∨ P1_1_ k_ ∨ P1_2_ k_) ∨ w.heap.size ≤ k_) ∧ some k_ ≠ (.slice a3 aK.length a4 : Value).ownBlock ∧ some k_ ≠ (.slice bw a8.length bA : Value).ownBlock ∧ k_ ≠ ac ∧ k_ ≠ af ∧ k_ ≠ ae) aY (fa (fz3 HB ai an au) (fa (fo ap) (fa (fo aZ) (fa (fb aa) (fa (fb ab) (fb ad))))))
  replace ao := kn ao hb
  replace av := kn av hb
  replace ap := kn ap hb
  replace aZ := kn aZ hb
  replace aa := kb aa hb
  replace ab := kb ab hb
  replace ad := kb ad hb
  replace HB := be3 HB ai an au hb
  (try clear hb)
  (try clear hb2)
  (try clear hk)
  (try clear hi)
  (try clear aY)
  obtain ⟨ek, em, cy⟩ := Kd.V_slice bj.out
  (first | subst cy | (injection cy with f1_ f2_ f3_; have f4_ := f1_.symm; have f5_ := f3_.symm; clear f1_ f2_ f3_; subst f4_; subst f5_))
  obtain ⟨eo, ep, cz⟩ := Kd.V_slice aI.out
  (first | subst cz | (injection cz with f1_ f2_ f3_; have f4_ := f1_.symm; have f5_ := f3_.symm; clear f1_ f2_ f3_; subst f4_; subst f5_))
  refine hK.out _ _ ⟨bc aa 0, bc aa 1, bc aa 2⟩ (fun hHeld => ?_)
  clear hK K
  refine nq 38 ?_
  refine one_ (i := 7) (N := some 40) #[true, true, true, true, true, true, true, true, false] rfl rfl (one_of HT_.out (by kernel_rfl)) (by decide) (fun K hK => ?_)
  refine goes_ Try.func155 (by kernel_rfl) rfl #[.bool a0_0, .slice ek a9.length em, .slice eo aU.length ep] (by rfl) rfl rfl lu ?_
  with_reducible refine (rational_canonical.calls k a0_0 (fun k_ => (((P0_1_ k_ ∨ P0_2_ k_ ∨ P1_1_ k_ ∨ P1_2_ k_) ∨ w.heap.size ≤ k_) ∧ (((some k_ ≠ (.slice a3 aK.length a4 : Value).ownBlock ∧ (some k_ ≠ (.slice bw a8.length bA : Value).ownBlock ∧ (k_ ≠ ac ∧ (k_ ≠ af ∧ k_ ≠ ae)))))))) _ _ a9 (fun k_ => ((((P0_1_ k_ ∨ P0_2_ k_ ∨ P1_1_ k_ ∨ P1_2_ k_) ∨ w.heap.size ≤ k_) ∧ (((some k_ ≠ (.slice a3 aK.length a4 : Value).ownBlock ∧ (k_ ≠ ac ∧ (k_ ≠ af ∧ k_ ≠ ae)))))) ∧ some k_ ≠ (.slice bw a8.length bA : Value).ownBlock)) _ _ aU bX bY bZ _ ?side1 ?side2 A8.out).mono ?_
  (case side1 => exact vz bj.out)
  (case side2 => exact vz aI.out)
  rintro e eq ⟨eU, eV, rfl, aY, b2, hb⟩
  refine ⟨_, rfl, ?_⟩
  replace ak := kv ak hb
  replace ag := kv ag hb
  replace al := kv al hb
  replace ah := kv ah hb
  replace aj := kv aj hb
  replace aq := kv aq hb
  replace aI := kv aI hb
  replace bj := kv bj hb
  have bG := ar w.heap.size (ok' := fun k_ => ((P0_1_ k_ ∨ P0_2_ k_ ∨ P1_1_ k_ ∨ P1_2_ k_) ∨ w.heap.size ≤ k_) ∧ some k_ ≠ (.slice a3 aK.length a4 : Value).ownBlock ∧ some k_ ≠ (.slice bw a8.length bA : Value).ownBlock ∧ k_ ≠ ac ∧ k_ ≠ af ∧ k_ ≠ ae) aY (fa (fz3 HB ai an au) (fa (fo ap) (fa (fo aZ) (fa (fb aa) (fa (fb ab) (fb ad))))))
  have bH := ar w.heap.size (ok' := fun k_ => ((P0_1_ k_ ∨ P0_2_ k_ ∨ P1_1_ k_ ∨ P1_2_ k_) ∨ w.heap.size ≤ k_) ∧ some k_ ≠ (.slice a3 aK.length a4 : Value).ownBlock ∧ some k_ ≠ (.slice bw a8.length bA : Value).ownBlock ∧ k_ ≠ ac ∧ k_ ≠ af ∧ k_ ≠ ae) b2 (fa (fz3 HB ai an au) (fa (fo ap) (fa (fo aZ) (fa (fb aa) (fa (fb ab) (fb ad))))))
  replace ao := kn ao hb
  replace av := kn av hb
  replace ap := kn ap hb
  replace aZ := kn aZ hb
  replace aa := kb aa hb
  replace ab := kb ab hb
  replace ad := kb ad hb
  replace HB := be3 HB ai an au hb
  (try clear hb)
  (try clear hb2)
  (try clear hk)
  (try clear hi)
  (try clear aY)
  (try clear b2)
  obtain ⟨er, es, cA⟩ := Kd.V_slice bG.out
  (first | subst cA | (injection cA with f1_ f2_ f3_; have f4_ := f1_.symm; have f5_ := f3_.symm; clear f1_ f2_ f3_; subst f4_; subst f5_))
  obtain ⟨et, eu, cB⟩ := Kd.V_slice bH.out
  (first | subst cB | (injection cB with f1_ f2_ f3_; have f4_ := f1_.symm; have f5_ := f3_.symm; clear f1_ f2_ f3_; subst f4_; subst f5_))
  refine hK.out _ _ ⟨bc aa 0, bc aa 1, bc aa 2⟩ (fun hHeld => ?_)
  clear hK K
  refine nq 40 ?_
  refine one_ (i := 8) (N := none) #[true, true, true, true, true, true, true, true, true] rfl rfl (one_of HT_.out (by kernel_rfl)) (by decide) (fun K hK => ?_)
  have hs43 : eq.cell? ⟨ae, 0, none⟩ = some (.bool false) := bc ad 0
  have hfs43 := blk_frozen ad.out 0
  have hns43_0 := az.out
  have hns43_1 := aW.out
  have hms43_0 := aP.out
  have hms43_1 := aX.out
  have hs45 : eq.cell? ⟨ae, 1, none⟩ = some (.slice none 0 0) := bc ad 1
  have hfs45 := blk_frozen ad.out 1
  have hns45_0 := az.out
  have hns45_1 := aW.out
  have hms45_0 := aP.out
  have hms45_1 := aX.out
  have hs47 : eq.cell? ⟨ae, 2, none⟩ = some (.slice none 0 0) := bc ad 2
  have hfs47 := blk_frozen ad.out 2
  have hns47_0 := az.out
  have hns47_1 := aW.out
  have hms47_0 := aP.out
  have hms47_1 := aX.out
  refine skip_ (w1 := ?_) (by rfl) rfl ?_ ?_
  rotate_left
  ·
   go_simp
   rfl
  refine hK.out _ _ ⟨((cell_far (p := ⟨ae, _, none⟩) az.out _).trans (((cell_far (p := ⟨ae, _, none⟩) az.out _).trans (((cell_far (p := ⟨ae, _, none⟩) az.out _).trans (hHeld.1)))))), ((cell_far (p := ⟨ae, _, none⟩) az.out _).trans (((cell_far (p := ⟨ae, _, none⟩) az.out _).trans (((cell_far (p := ⟨ae, _, none⟩) az.out _).trans (hHeld.2.1)))))), ((cell_far (p := ⟨ae, _, none⟩) az.out _).trans (((cell_far (p := ⟨ae, _, none⟩) az.out _).trans (((cell_far (p := ⟨ae, _, none⟩) az.out _).trans (hHeld.2.2))))))⟩ (fun hHeld => ?_)
  clear hK K
  refine done_ (done_of HT_.out (by kernel_rfl)) ?_
  try go_wp2
  refine bodyPost_ret (results_cell_row rfl _ _ ae 67 #[.bool bX, .slice er bY.length es, .slice et bZ.length eu] (0, 0) _ rfl (kp ad.out) Try.underlying67 rfl (by kernel_rfl)) rfl ?_
  exact ⟨_, _, by first | rfl | (simp [errW_none, errW_some] <;> rfl) | (simp [*, errW_none, errW_some] <;> rfl), by exact vf bG.out, by exact vf bH.out, by repeat (first | (with_reducible first | exact HB.out | apply below_alloc | apply pw_below_drewN | apply below_drew1 | refine below_set ?_ ai.out | refine below_set ?_ an.out | refine below_set ?_ au.out) | exact HB.out)⟩
 ·
  rw [if_neg c6] at H
  have eg : (a0_0 == a1_0) = false := by simpa using c6
  (try (have eh : decide (a0_0 = a1_0) = false := by simpa using c6))
  (try (have ei : (a0_0 == a1_0) = false := by simpa using c6))
  (try (have e8 : ¬ (a0_0 = a1_0) := by simpa using c6))
  clear c6
  obtain ⟨ba, eW, H⟩ := bs H
  (try dsimp -simprocs only at H)
  by_cases cm : ba < 0
  ·
   rw [if_pos cm] at H
   have cC : decide (ba < 0) = true := decide_eq_true cm
   clear cm
   obtain ⟨⟨bI, cD⟩, e9, H⟩ := bs H
   (try dsimp -simprocs only at H)
   obtain ⟨⟨b3, b4, b5⟩, fc, H⟩ := bs H
   (try dsimp -simprocs only at H)
   simp only [Option.some.injEq, Prod.mk.injEq] at H
   obtain ⟨rfl, rfl, rfl⟩ := H
   try go_wp2_with (first | ((with_reducible refine gate_dst (N := 26) rfl ?_); refine Kd.N_lit (Kd.slice 48 (Kd.int .u32)) _ 42 ?hg (N' := 26) ?hd (xs := ([l0_2, l1_2] : List (List Int))) (inner := [.slice A0_2 l0_2.length c0_2, .slice A1_2 l1_2.length c1_2]) (ok := (fun k_ => ((P0_1_ k_ ∨ P0_2_ k_ ∨ P1_1_ k_ ∨ P1_2_ k_) ∨ w.heap.size ≤ k_) ∧ k_ ≠ ac ∧ k_ ≠ af ∧ k_ ≠ ae)) (okp := (fun k_ => ((P0_1_ k_ ∨ P0_2_ k_ ∨ P1_1_ k_ ∨ P1_2_ k_) ∨ w.heap.size ≤ k_) ∧ k_ ≠ ac ∧ k_ ≠ af ∧ k_ ≠ ae)) ?hr ?hp (fun _ hk => hk) ((show ∀ k_, dp.heap.size ≤ k_ → (fun k_ => ((P0_1_ k_ ∨ P0_2_ k_ ∨ P1_1_ k_ ∨ P1_2_ k_) ∨ w.heap.size ≤ k_) ∧ k_ ≠ ac ∧ k_ ≠ af ∧ k_ ≠ ae) k_ from fun k_ hk => ⟨(.inr (Nat.le_trans (below_size (bu3 HB.out ai.out an.out au.out)) hk)), Kd.freshB (g := ac) (o := .cells #[.bool a0_0, .slice A0_1 l0_1.length c0_1, .slice A0_2 l0_2.length c0_2] 67 (0, 0)) (ku aa.out) k_ hk, Kd.freshB (g := af) (o := .cells #[.bool a1_0, .slice A1_1 l1_1.length c1_1, .slice A1_2 l1_2.length c1_2] 67 (0, 0)) (ku ab.out) k_ hk, Kd.freshB (g := ae) (o := .cells #[.bool false, .slice none 0 0, .slice none 0 0] 67 (0, 0)) (ku ad.out) k_ hk⟩) _ (Nat.le_refl _)) (Below.refl _ _) (Nat.le_refl _) (by simp) ?_; (case hd => rfl); (case hg => rfl); (case hr => first | (go_simp; done) | (go_simp; rfl)); (case hp => exact (Reps.one (show Kd.FK (Kd.slice 48 (Kd.int .u32)) _ _ l0_2 [.slice A0_2 l0_2.length c0_2] from (Kd.FK_slice_mk (Kd.V_reads' (vy ((fun k_ => ((P0_1_ k_ ∨ P0_2_ k_ ∨ P1_1_ k_ ∨ P1_2_ k_) ∨ w.heap.size ≤ k_) ∧ k_ ≠ ac ∧ k_ ≠ af ∧ k_ ≠ ae)) ag.out)).2.1 (Kd.V_F (vy ((fun k_ => ((P0_1_ k_ ∨ P0_2_ k_ ∨ P1_1_ k_ ∨ P1_2_ k_) ∨ w.heap.size ≤ k_) ∧ k_ ≠ ac ∧ k_ ≠ af ∧ k_ ≠ ae)) ag.out)))) (Reps.one (show Kd.FK (Kd.slice 48 (Kd.int .u32)) _ _ l1_2 [.slice A1_2 l1_2.length c1_2] from (Kd.FK_slice_mk (Kd.V_reads' (vy ((fun k_ => ((P0_1_ k_ ∨ P0_2_ k_ ∨ P1_1_ k_ ∨ P1_2_ k_) ∨ w.heap.size ≤ k_) ∧ k_ ≠ ac ∧ k_ ≠ af ∧ k_ ≠ ae)) ah.out)).2.1 (Kd.V_F (vy ((fun k_ => ((P0_1_ k_ ∨ P0_2_ k_ ∨ P1_1_ k_ ∨ P1_2_ k_) ∨ w.heap.size ≤ k_) ∧ k_ ≠ ac ∧ k_ ≠ af ∧ k_ ≠ ae)) ah.out)))) (Reps.none _ _)))); intro b0 fr a7 hb hg_ hnew_; clear hg_ hnew_; (first | rw [← a5.out] at a7 | (simp only [Int.reduceToNat] at a7; rw [← a5.out] at a7)); replace ak := el ak a7 hb; replace ag := el ag a7 hb; replace al := el al a7 hb; replace ah := el ah a7 hb; replace ao := en ao a7 hb; replace aj := el aj a7 hb; replace av := en av a7 hb; replace aq := el aq a7 hb; have ap := am (Kd.N_lower a7 (below_size (bu3 HB.out ai.out an.out au.out))); replace aa := kb aa hb; replace ab := kb ab hb; replace ad := kb ad hb; replace HB := be3 HB ai an au hb; clear hb a7; obtain ⟨br, bv, ev⟩ := Kd.N_slice ap.out; subst ev) | ((with_reducible refine gate_callee (f := 145) rfl ?_); refine goesL_ (some 27) rfl rfl Try.func145 (by kernel_rfl) rfl #[.slice br aK.length bv] rfl lu ?_; (with_reducible refine (nat_Mul.calls k _ _ aK aU _ ?side1 ?side2 A5.out).mono ?_); (case side1 => exact cu (Kd.N_reads' ap.out).2.2); (case side2 => exact (Kd.N_reads' ap.out).2.1); rintro e ft ⟨b1, rfl, aY, hb⟩; refine ⟨_, rfl, ?_⟩; replace aY := R_V_base rfl aY; replace ak := kv ak hb; replace ag := kv ag hb; replace al := kv al hb; replace ah := kv ah hb; replace aj := kv aj hb; replace aq := kv aq hb; have aI := ar0 w.heap.size (ok' := fun k_ => ((P0_1_ k_ ∨ P0_2_ k_ ∨ P1_1_ k_ ∨ P1_2_ k_) ∨ w.heap.size ≤ k_) ∧ some k_ ≠ (.slice br aK.length bv : Value).ownBlock ∧ k_ ≠ ac ∧ k_ ≠ af ∧ k_ ≠ ae) aY (fa (fz3 HB ai an au) (fa (fo ap) (fa (fb aa) (fa (fb ab) (fb ad))))); replace ao := kn ao hb; replace av := kn av hb; replace ap := kn ap hb; replace aa := kb aa hb; replace ab := kb ab hb; replace ad := kb ad hb; replace HB := be3 HB ai an au hb; (try clear hb); (try clear hk); (try clear aY); obtain ⟨dP, dQ, dR, dS, dT, dU⟩ := bz aa; obtain ⟨dV, dW, dX, dY, dZ, d0⟩ := bz ab; obtain ⟨cE, cF, ew⟩ := Kd.V_slice aj.out; subst ew; obtain ⟨cG, cH, ex⟩ := Kd.V_slice aq.out; subst ex) | ((with_reducible refine gate_callee (f := 146) rfl ?_); refine goesL_ (some 43) rfl rfl Try.func146 (by kernel_rfl) rfl #[.slice cE aR.length cF, .slice cG aS.length cH] rfl lu ?_; (with_reducible refine (nat_Cmp.calls k _ _ aR _ _ aS ba _ ?side1 ?side2 ?side3 ?side4 eW.out).mono ?_); (case side1 => exact cu (Kd.V_reads' aj.out).2.2); (case side2 => exact (Kd.V_reads' aj.out).2.1); (case side3 => exact cu (Kd.V_reads' aq.out).2.2); (case side4 => exact (Kd.V_reads' aq.out).2.1); rintro e fd ⟨rfl, hb⟩; refine ⟨_, rfl, ?_⟩; replace ak := kv ak hb; replace ag := kv ag hb; replace al := kv al hb; replace ah := kv ah hb; replace ao := kn ao hb; replace aj := kv aj hb; replace av := kn av hb; replace aq := kv aq hb; replace ap := kn ap hb; replace aI := kv aI hb; replace aa := kb aa hb; replace ab := kb ab hb; replace ad := kb ad hb; replace HB := be3 HB ai an au hb; (try clear hb); (try clear hk)))
   replace ak := am (Kd.V_drew ak.out)
   replace ag := am (Kd.V_drew ag.out)
   replace al := am (Kd.V_drew al.out)
   replace ah := am (Kd.V_drew ah.out)
   replace ao := am (Kd.N_drew ao.out)
   replace aj := am (Kd.V_drew aj.out)
   replace av := am (Kd.N_drew av.out)
   replace aq := am (Kd.V_drew aq.out)
   replace ap := am (Kd.N_drew ap.out)
   replace aI := am (Kd.V_drew aI.out)
   replace aa := am (blk_drew aa.out)
   replace ab := am (blk_drew ab.out)
   replace ad := am (blk_drew ad.out)
   replace HB := am (below_drew1 HB.out)
   refine start_ (n := 6) (S := fun w' => w'.cell? ⟨af, 0, none⟩ = some (.bool a1_0) ∧ w'.cell? ⟨af, 1, none⟩ = some (.slice A1_1 l1_1.length c1_1) ∧ w'.cell? ⟨af, 2, none⟩ = some (.slice A1_2 l1_2.length c1_2)) (ds := []) #[false, false, false, false, false, false] (by kernel_rfl) rfl rfl ⟨bc ab 0, bc ab 1, bc ab 2⟩ (fun hHeld => ?_)
   generalize fd.drew = ey at ak ag al ah ao aj av aq ap aI aa ab ad HB hHeld ⊢
   refine pure_ (i := 0) (N := some 45) (v := ?_) (a' := ?_) #[true, false, false, false, false, false] rfl rfl (by kernel_rfl) (fun _ _ _ h => h) (Or.inl ⟨by rfl, ?_⟩) ?_ ?_
   rotate_left
   ·
    intro w'
    go_simp
    with_reducible rfl
   rotate_left
   ·
    simp only [Act.put, List.setIfInBounds_toArray, List.set_cons_zero, List.set_cons_succ, i64_w, i32_w]
    rfl
   refine pure_ (i := 1) (N := some 46) (v := ?_) (a' := ?_) #[true, true, false, false, false, false] rfl rfl (by kernel_rfl) (fun _ _ _ h => h) (Or.inl ⟨by rfl, ?_⟩) ?_ ?_
   rotate_left
   ·
    intro w'
    go_simp
    with_reducible rfl
   rotate_left
   ·
    simp only [Act.put, List.setIfInBounds_toArray, List.set_cons_zero, List.set_cons_succ, i64_w, i32_w]
    rfl
   refine pure_ (i := 3) (N := some 5) (v := ?_) (a' := ?_) #[true, true, false, true, false, false] rfl rfl (by kernel_rfl) (fun _ _ _ h => h) (Or.inl ⟨by rfl, ?_⟩) ?_ ?_
   rotate_left
   ·
    intro w'
    go_simp
    with_reducible rfl
   rotate_left
   ·
    simp only [Act.put, List.setIfInBounds_toArray, List.set_cons_zero, List.set_cons_succ, i64_w, i32_w]
    rfl
   refine pure_ (i := 4) (N := some 6) (v := ?_) (a' := ?_) #[true, true, false, true, true, false] rfl rfl (by kernel_rfl) (fun _ _ _ h => h) (Or.inl ⟨by rfl, ?_⟩) ?_ ?_
   rotate_left
   ·
    intro w'
    go_simp
    with_reducible rfl
   rotate_left
   ·
    simp only [Act.put, List.setIfInBounds_toArray, List.set_cons_zero, List.set_cons_succ, i64_w, i32_w]
    rfl
   refine take_ (i := 2) (N := some 47) (v := ?_) (a' := ?_) #[true, true, true, true, true, false] rfl rfl (by kernel_rfl) (fun _ _ _ h => h) (Or.inl ⟨by rfl, ?_⟩) hHeld ?_ ?_
   rotate_left
   ·
    rintro w' ⟨s0, s1, s2⟩
    go_simp
    with_reducible rfl
   rotate_left
   ·
    simp only [Act.put, List.setIfInBounds_toArray, List.set_cons_zero, List.set_cons_succ, i64_w, i32_w]
    rfl
   refine one_ (i := 5) (N := none) #[true, true, true, true, true, true] rfl rfl (by kernel_rfl) (by decide) (fun K hK => ?_)
   have hs80 : ey.cell? ⟨ac, 0, none⟩ = some (.bool a0_0) := bc aa 0
   have hfs80 := blk_frozen aa.out 0
   have hns80_1 := aG.out
   have hns80_2 := aP.out
   have hms80_1 := aV.out
   have hms80_2 := az.out
   have hs81 : ey.cell? ⟨ac, 1, none⟩ = some (.slice A0_1 l0_1.length c0_1) := bc aa 1
   have hfs81 := blk_frozen aa.out 1
   have hns81_1 := aG.out
   have hns81_2 := aP.out
   have hms81_1 := aV.out
   have hms81_2 := az.out
   have hs82 : ey.cell? ⟨ac, 2, none⟩ = some (.slice A0_2 l0_2.length c0_2) := bc aa 2
   have hfs82 := blk_frozen aa.out 2
   have hns82_1 := aG.out
   have hns82_2 := aP.out
   have hms82_1 := aV.out
   have hms82_2 := az.out
   refine skip_ (w1 := ?_) (by rfl) rfl ?_ ?_
   rotate_left
   ·
    go_simp
    rfl
   refine hK.out _ _ ⟨((cell_far (p := ⟨ac, _, none⟩) aG.out _).trans (((cell_far (p := ⟨ac, _, none⟩) aG.out _).trans (((cell_far (p := ⟨ac, _, none⟩) aG.out _).trans (hHeld.1)))))), ((cell_far (p := ⟨ac, _, none⟩) aG.out _).trans (((cell_far (p := ⟨ac, _, none⟩) aG.out _).trans (((cell_far (p := ⟨ac, _, none⟩) aG.out _).trans (hHeld.2.1)))))), ((cell_far (p := ⟨ac, _, none⟩) aG.out _).trans (((cell_far (p := ⟨ac, _, none⟩) aG.out _).trans (((cell_far (p := ⟨ac, _, none⟩) aG.out _).trans (hHeld.2.2))))))⟩ (fun hHeld => ?_)
   clear hK K
   refine done_ (by kernel_rfl) ?_
   try go_wp2_with (first | ((with_reducible refine gate_callee (f := 185) rfl ?_); refine goesL_ (some 51) rfl rfl Try.func185 (by kernel_rfl) rfl #[.slice cG aS.length cH, .slice cE aR.length cF] rfl lu ?_; (with_reducible refine (nat_Sub.calls k _ _ aS _ _ aR bI cD _ ?side1 ?side2 ?side3 ?side4 e9.out).mono ?_); (case side1 => exact vr aq.out); (case side2 => exact (Kd.V_reads' aq.out).2.1); (case side3 => exact vr aj.out); (case side4 => exact (Kd.V_reads' aj.out).2.1); rintro e fu ⟨eX, rfl, aY, hb⟩; refine ⟨_, rfl, ?_⟩; replace ak := kx ak hb; replace ag := kx ag hb; replace al := kx al hb; replace ah := kx ah hb; replace aj := kx aj hb; replace aq := kx aq hb; replace aI := kx aI hb; have bk := ar0 w.heap.size (ok' := fun k_ => ((P0_1_ k_ ∨ P0_2_ k_ ∨ P1_1_ k_ ∨ P1_2_ k_) ∨ w.heap.size ≤ k_) ∧ some k_ ≠ (.slice br aK.length bv : Value).ownBlock ∧ k_ ≠ ac ∧ k_ ≠ af ∧ k_ ≠ ae) aY (fa (fz3 HB ai an au) (fa (fo ap) (fa (fs aa) (fa (fs ab) (fs ad))))); replace ao := kn ao hb; replace av := kn av hb; replace ap := kn ap hb; replace aa := am (blk_below (g := ac) (o := .cells #[.bool a1_0, .slice A1_1 l1_1.length c1_1, .slice A1_2 l1_2.length c1_2] 67 (0, 0)) (kp aa.out) hb); replace ab := am (blk_below (g := af) (o := .cells #[.bool a1_0, .slice A1_1 l1_1.length c1_1, .slice A1_2 l1_2.length c1_2] 67 (0, 0)) (kf aG.out ab.out) hb); replace ad := am (blk_below (g := ae) (o := .cells #[.bool false, .slice none 0 0, .slice none 0 0] 67 (0, 0)) (kf aP.out ad.out) hb); replace HB := be3 HB ai an au hb; (try clear hb); (try clear aY); obtain ⟨d1, d2, d3, d4, d5, d6⟩ := bz aa; obtain ⟨ez, eA, eB⟩ := Kd.V_slice bk.out; subst eB; obtain ⟨eC, eD, eE⟩ := Kd.V_slice aI.out; subst eE) | ((with_reducible refine gate_callee (f := 155) rfl ?_); refine goesL_ (some 58) rfl rfl Try.func155 (by kernel_rfl) rfl #[.bool a1_0, .slice ez bI.length eA, .slice eC aU.length eD] rfl lu ?_; (with_reducible refine (rational_canonical.calls k a1_0 (fun k_ => (((P0_1_ k_ ∨ P0_2_ k_ ∨ P1_1_ k_ ∨ P1_2_ k_) ∨ w.heap.size ≤ k_) ∧ (((some k_ ≠ (.slice br aK.length bv : Value).ownBlock ∧ (k_ ≠ ac ∧ (k_ ≠ af ∧ k_ ≠ ae))))))) _ _ bI (fun k_ => (((P0_1_ k_ ∨ P0_2_ k_ ∨ P1_1_ k_ ∨ P1_2_ k_) ∨ w.heap.size ≤ k_) ∧ (((some k_ ≠ (.slice br aK.length bv : Value).ownBlock ∧ (k_ ≠ ac ∧ (k_ ≠ af ∧ k_ ≠ ae))))))) _ _ aU b3 b4 b5 _ ?side1 ?side2 fc.out).mono ?_); (case side1 => exact vz bk.out); (case side2 => exact vz aI.out); rintro e fv ⟨eY, eZ, rfl, aY, b2, hb⟩; refine ⟨_, rfl, ?_⟩; replace ak := kv ak hb; replace ag := kv ag hb; replace al := kv al hb; replace ah := kv ah hb; replace aj := kv aj hb; replace aq := kv aq hb; replace aI := kv aI hb; replace bk := kv bk hb; have bJ := ar w.heap.size (ok' := fun k_ => ((P0_1_ k_ ∨ P0_2_ k_ ∨ P1_1_ k_ ∨ P1_2_ k_) ∨ w.heap.size ≤ k_) ∧ some k_ ≠ (.slice br aK.length bv : Value).ownBlock ∧ k_ ≠ ac ∧ k_ ≠ af ∧ k_ ≠ ae) aY (fa (fz3 HB ai an au) (fa (fo ap) (fa (fb aa) (fa (fb ab) (fb ad))))); have bK := ar w.heap.size (ok' := fun k_ => ((P0_1_ k_ ∨ P0_2_ k_ ∨ P1_1_ k_ ∨ P1_2_ k_) ∨ w.heap.size ≤ k_) ∧ some k_ ≠ (.slice br aK.length bv : Value).ownBlock ∧ k_ ≠ ac ∧ k_ ≠ af ∧ k_ ≠ ae) b2 (fa (fz3 HB ai an au) (fa (fo ap) (fa (fb aa) (fa (fb ab) (fb ad))))); replace ao := kn ao hb; replace av := kn av hb; replace ap := kn ap hb; replace aa := kb aa hb; replace ab := kb ab hb; replace ad := kb ad hb; replace HB := be3 HB ai an au hb; (try clear hb); (try clear aY); (try clear b2); obtain ⟨d7, d8, d9, ea, eb, ec⟩ := bz ad; obtain ⟨eF, eG, eH⟩ := Kd.V_slice bJ.out; subst eH; obtain ⟨eI, eJ, eK⟩ := Kd.V_slice bK.out; subst eK))
   refine bodyPost_ret (results_cell_row rfl _ _ ae 67 #[.bool b3, .slice eF b4.length eG, .slice eI b5.length eJ] (0, 0) _ rfl (kp ad.out) Try.underlying67 rfl (by kernel_rfl)) rfl ?_
   exact ⟨_, _, by first | rfl | (simp [errW_none, errW_some] <;> rfl) | (simp [*, errW_none, errW_some] <;> rfl), by exact vf bJ.out, by exact vf bK.out, by repeat (first | (with_reducible first | exact HB.out | apply below_alloc | apply pw_below_drewN | apply below_drew1 | refine below_set ?_ ai.out | refine below_set ?_ an.out | refine below_set ?_ au.out) | exact HB.out)⟩
  ·
   rw [if_neg cm] at H
   have cC : decide (ba < 0) = false := decide_eq_false cm
   clear cm
   obtain ⟨⟨bL, cI⟩, fe, H⟩ := bs H
   (try dsimp -simprocs only at H)
   obtain ⟨⟨b6, b7, b8⟩, ff, H⟩ := bs H
   (try dsimp -simprocs only at H)
   simp only [Option.some.injEq, Prod.mk.injEq] at H
   obtain ⟨rfl, rfl, rfl⟩ := H
   try go_wp2_with (first | ((with_reducible refine gate_dst (N := 26) rfl ?_); refine Kd.N_lit (Kd.slice 48 (Kd.int .u32)) _ 42 ?hg (N' := 26) ?hd (xs := ([l0_2, l1_2] : List (List Int))) (inner := [.slice A0_2 l0_2.length c0_2, .slice A1_2 l1_2.length c1_2]) (ok := (fun k_ => ((P0_1_ k_ ∨ P0_2_ k_ ∨ P1_1_ k_ ∨ P1_2_ k_) ∨ w.heap.size ≤ k_) ∧ k_ ≠ ac ∧ k_ ≠ af ∧ k_ ≠ ae)) (okp := (fun k_ => ((P0_1_ k_ ∨ P0_2_ k_ ∨ P1_1_ k_ ∨ P1_2_ k_) ∨ w.heap.size ≤ k_) ∧ k_ ≠ ac ∧ k_ ≠ af ∧ k_ ≠ ae)) ?hr ?hp (fun _ hk => hk) ((show ∀ k_, dp.heap.size ≤ k_ → (fun k_ => ((P0_1_ k_ ∨ P0_2_ k_ ∨ P1_1_ k_ ∨ P1_2_ k_) ∨ w.heap.size ≤ k_) ∧ k_ ≠ ac ∧ k_ ≠ af ∧ k_ ≠ ae) k_ from fun k_ hk => ⟨(.inr (Nat.le_trans (below_size (bu3 HB.out ai.out an.out au.out)) hk)), Kd.freshB (g := ac) (o := .cells #[.bool a0_0, .slice A0_1 l0_1.length c0_1, .slice A0_2 l0_2.length c0_2] 67 (0, 0)) (ku aa.out) k_ hk, Kd.freshB (g := af) (o := .cells #[.bool a1_0, .slice A1_1 l1_1.length c1_1, .slice A1_2 l1_2.length c1_2] 67 (0, 0)) (ku ab.out) k_ hk, Kd.freshB (g := ae) (o := .cells #[.bool false, .slice none 0 0, .slice none 0 0] 67 (0, 0)) (ku ad.out) k_ hk⟩) _ (Nat.le_refl _)) (Below.refl _ _) (Nat.le_refl _) (by simp) ?_; (case hd => rfl); (case hg => rfl); (case hr => first | (go_simp; done) | (go_simp; rfl)); (case hp => exact (Reps.one (show Kd.FK (Kd.slice 48 (Kd.int .u32)) _ _ l0_2 [.slice A0_2 l0_2.length c0_2] from (Kd.FK_slice_mk (Kd.V_reads' (vy ((fun k_ => ((P0_1_ k_ ∨ P0_2_ k_ ∨ P1_1_ k_ ∨ P1_2_ k_) ∨ w.heap.size ≤ k_) ∧ k_ ≠ ac ∧ k_ ≠ af ∧ k_ ≠ ae)) ag.out)).2.1 (Kd.V_F (vy ((fun k_ => ((P0_1_ k_ ∨ P0_2_ k_ ∨ P1_1_ k_ ∨ P1_2_ k_) ∨ w.heap.size ≤ k_) ∧ k_ ≠ ac ∧ k_ ≠ af ∧ k_ ≠ ae)) ag.out)))) (Reps.one (show Kd.FK (Kd.slice 48 (Kd.int .u32)) _ _ l1_2 [.slice A1_2 l1_2.length c1_2] from (Kd.FK_slice_mk (Kd.V_reads' (vy ((fun k_ => ((P0_1_ k_ ∨ P0_2_ k_ ∨ P1_1_ k_ ∨ P1_2_ k_) ∨ w.heap.size ≤ k_) ∧ k_ ≠ ac ∧ k_ ≠ af ∧ k_ ≠ ae)) ah.out)).2.1 (Kd.V_F (vy ((fun k_ => ((P0_1_ k_ ∨ P0_2_ k_ ∨ P1_1_ k_ ∨ P1_2_ k_) ∨ w.heap.size ≤ k_) ∧ k_ ≠ ac ∧ k_ ≠ af ∧ k_ ≠ ae)) ah.out)))) (Reps.none _ _)))); intro b0 fg a0 hb hg_ hnew_; clear hg_ hnew_; (first | rw [← a5.out] at a0 | (simp only [Int.reduceToNat] at a0; rw [← a5.out] at a0)); replace ak := el ak a0 hb; replace ag := el ag a0 hb; replace al := el al a0 hb; replace ah := el ah a0 hb; replace ao := en ao a0 hb; replace aj := el aj a0 hb; replace av := en av a0 hb; replace aq := el aq a0 hb; have ap := am (Kd.N_lower a0 (below_size (bu3 HB.out ai.out an.out au.out))); replace aa := kb aa hb; replace ab := kb ab hb; replace ad := kb ad hb; replace HB := be3 HB ai an au hb; clear hb a0; obtain ⟨bg, bh, cJ⟩ := Kd.N_slice ap.out; subst cJ) | ((with_reducible refine gate_callee (f := 145) rfl ?_); refine goesL_ (some 27) rfl rfl Try.func145 (by kernel_rfl) rfl #[.slice bg aK.length bh] rfl lu ?_; (with_reducible refine (nat_Mul.calls k _ _ aK aU _ ?side1 ?side2 A5.out).mono ?_); (case side1 => exact cu (Kd.N_reads' ap.out).2.2); (case side2 => exact (Kd.N_reads' ap.out).2.1); rintro e fh ⟨b1, rfl, aY, hb⟩; refine ⟨_, rfl, ?_⟩; replace aY := R_V_base rfl aY; replace ak := kv ak hb; replace ag := kv ag hb; replace al := kv al hb; replace ah := kv ah hb; replace aj := kv aj hb; replace aq := kv aq hb; have aI := ar0 w.heap.size (ok' := fun k_ => ((P0_1_ k_ ∨ P0_2_ k_ ∨ P1_1_ k_ ∨ P1_2_ k_) ∨ w.heap.size ≤ k_) ∧ some k_ ≠ (.slice bg aK.length bh : Value).ownBlock ∧ k_ ≠ ac ∧ k_ ≠ af ∧ k_ ≠ ae) aY (fa (fz3 HB ai an au) (fa (fo ap) (fa (fb aa) (fa (fb ab) (fb ad))))); replace ao := kn ao hb; replace av := kn av hb; replace ap := kn ap hb; replace aa := kb aa hb; replace ab := kb ab hb; replace ad := kb ad hb; replace HB := be3 HB ai an au hb; (try clear hb); (try clear hk); (try clear aY); obtain ⟨cK, cL, cM, cN, cO, cP⟩ := bz aa; obtain ⟨cQ, cR, cS, cT, cU, cV⟩ := bz ab; obtain ⟨b9, ca, cW⟩ := Kd.V_slice aj.out; subst cW; obtain ⟨cb, cc, cX⟩ := Kd.V_slice aq.out; subst cX) | ((with_reducible refine gate_callee (f := 146) rfl ?_); refine goesL_ (some 43) rfl rfl Try.func146 (by kernel_rfl) rfl #[.slice b9 aR.length ca, .slice cb aS.length cc] rfl lu ?_; (with_reducible refine (nat_Cmp.calls k _ _ aR _ _ aS ba _ ?side1 ?side2 ?side3 ?side4 eW.out).mono ?_); (case side1 => exact cu (Kd.V_reads' aj.out).2.2); (case side2 => exact (Kd.V_reads' aj.out).2.1); (case side3 => exact cu (Kd.V_reads' aq.out).2.2); (case side4 => exact (Kd.V_reads' aq.out).2.1); rintro e fi ⟨rfl, hb⟩; refine ⟨_, rfl, ?_⟩; replace ak := kv ak hb; replace ag := kv ag hb; replace al := kv al hb; replace ah := kv ah hb; replace ao := kn ao hb; replace aj := kv aj hb; replace av := kn av hb; replace aq := kv aq hb; replace ap := kn ap hb; replace aI := kv aI hb; replace aa := kb aa hb; replace ab := kb ab hb; replace ad := kb ad hb; replace HB := be3 HB ai an au hb; (try clear hb); (try clear hk)) | ((with_reducible refine gate_callee (f := 185) rfl ?_); refine goesL_ (some 51) rfl rfl Try.func185 (by kernel_rfl) rfl #[.slice b9 aR.length ca, .slice cb aS.length cc] rfl lu ?_; (with_reducible refine (nat_Sub.calls k _ _ aR _ _ aS bL cI _ ?side1 ?side2 ?side3 ?side4 fe.out).mono ?_); (case side1 => exact cu (Kd.V_reads' aj.out).2.2); (case side2 => exact (Kd.V_reads' aj.out).2.1); (case side3 => exact cu (Kd.V_reads' aq.out).2.2); (case side4 => exact (Kd.V_reads' aq.out).2.1); rintro e fj ⟨e0, rfl, aY, hb⟩; refine ⟨_, rfl, ?_⟩; replace ak := kv ak hb; replace ag := kv ag hb; replace al := kv al hb; replace ah := kv ah hb; replace aj := kv aj hb; replace aq := kv aq hb; replace aI := kv aI hb; have bl := ar0 w.heap.size (ok' := fun k_ => ((P0_1_ k_ ∨ P0_2_ k_ ∨ P1_1_ k_ ∨ P1_2_ k_) ∨ w.heap.size ≤ k_) ∧ some k_ ≠ (.slice bg aK.length bh : Value).ownBlock ∧ k_ ≠ ac ∧ k_ ≠ af ∧ k_ ≠ ae) aY (fa (fz3 HB ai an au) (fa (fo ap) (fa (fb aa) (fa (fb ab) (fb ad))))); replace ao := kn ao hb; replace av := kn av hb; replace ap := kn ap hb; replace aa := kb aa hb; replace ab := kb ab hb; replace ad := kb ad hb; replace HB := be3 HB ai an au hb; (try clear hb); (try clear hk); (try clear aY); obtain ⟨cY, cZ, c0, c1, c2, c3⟩ := bz aa; obtain ⟨c4, c5, c7⟩ := Kd.V_slice bl.out; subst c7; obtain ⟨c8, c9, da⟩ := Kd.V_slice aI.out; subst da) | ((with_reducible refine gate_callee (f := 155) rfl ?_); refine goesL_ (some 58) rfl rfl Try.func155 (by kernel_rfl) rfl #[.bool a0_0, .slice c4 bL.length c5, .slice c8 aU.length c9] rfl lu ?_; (with_reducible refine (rational_canonical.calls k a0_0 (fun k_ => (((P0_1_ k_ ∨ P0_2_ k_ ∨ P1_1_ k_ ∨ P1_2_ k_) ∨ w.heap.size ≤ k_) ∧ (((some k_ ≠ (.slice bg aK.length bh : Value).ownBlock ∧ (k_ ≠ ac ∧ (k_ ≠ af ∧ k_ ≠ ae))))))) _ _ bL (fun k_ => (((P0_1_ k_ ∨ P0_2_ k_ ∨ P1_1_ k_ ∨ P1_2_ k_) ∨ w.heap.size ≤ k_) ∧ (((some k_ ≠ (.slice bg aK.length bh : Value).ownBlock ∧ (k_ ≠ ac ∧ (k_ ≠ af ∧ k_ ≠ ae))))))) _ _ aU b6 b7 b8 _ ?side1 ?side2 ff.out).mono ?_); (case side1 => exact vz bl.out); (case side2 => exact vz aI.out); rintro e fk ⟨e1, e2, rfl, aY, b2, hb⟩; refine ⟨_, rfl, ?_⟩; replace ak := kv ak hb; replace ag := kv ag hb; replace al := kv al hb; replace ah := kv ah hb; replace aj := kv aj hb; replace aq := kv aq hb; replace aI := kv aI hb; replace bl := kv bl hb; have bM := ar w.heap.size (ok' := fun k_ => ((P0_1_ k_ ∨ P0_2_ k_ ∨ P1_1_ k_ ∨ P1_2_ k_) ∨ w.heap.size ≤ k_) ∧ some k_ ≠ (.slice bg aK.length bh : Value).ownBlock ∧ k_ ≠ ac ∧ k_ ≠ af ∧ k_ ≠ ae) aY (fa (fz3 HB ai an au) (fa (fo ap) (fa (fb aa) (fa (fb ab) (fb ad))))); have bN := ar w.heap.size (ok' := fun k_ => ((P0_1_ k_ ∨ P0_2_ k_ ∨ P1_1_ k_ ∨ P1_2_ k_) ∨ w.heap.size ≤ k_) ∧ some k_ ≠ (.slice bg aK.length bh : Value).ownBlock ∧ k_ ≠ ac ∧ k_ ≠ af ∧ k_ ≠ ae) b2 (fa (fz3 HB ai an au) (fa (fo ap) (fa (fb aa) (fa (fb ab) (fb ad))))); replace ao := kn ao hb; replace av := kn av hb; replace ap := kn ap hb; replace aa := kb aa hb; replace ab := kb ab hb; replace ad := kb ad hb; replace HB := be3 HB ai an au hb; (try clear hb); (try clear hk); (try clear aY); (try clear b2); obtain ⟨db, dc, dd, de, df, dg⟩ := bz ad; obtain ⟨dh, di, dj⟩ := Kd.V_slice bM.out; subst dj; obtain ⟨dk, dl, dm⟩ := Kd.V_slice bN.out; subst dm))
   refine bodyPost_ret (results_cell_row rfl _ _ ae 67 #[.bool b6, .slice dh b7.length di, .slice dk b8.length dl] (0, 0) _ rfl (kp ad.out) Try.underlying67 rfl (by kernel_rfl)) rfl ?_
   exact ⟨_, _, by first | rfl | (simp [errW_none, errW_some] <;> rfl) | (simp [*, errW_none, errW_some] <;> rfl), by exact vf bM.out, by exact vf bN.out, by repeat (first | (with_reducible first | exact HB.out | apply below_alloc | apply pw_below_drewN | apply below_drew1 | refine below_set ?_ ai.out | refine below_set ?_ an.out | refine below_set ?_ au.out) | exact HB.out)⟩
def rational_Add.l0 : Nat → List (S67) → Int → Int → Bool → List Int → List Int → Option (Bool × List Int × List Int)
 | 0, _, _, _, _, _, _ => none
 | k + 1, x8, x9, x10, x1689000, x1689001, x1689002 => if x10 < x9 then (if 0 ≤ x10 then (if x10 < (x8.length : Int) then ((rational_Trim.f k ((rd_T67 x8 x10).f0) ((rd_T67 x8 x10).f1) ((rd_T67 x8 x10).f2)).bind fun bt1691 => ((rational_plus.f k x1689000 x1689001 x1689002 bt1691.1 bt1691.2.1 bt1691.2.2).bind fun bt1698 => (rational_Add.l0 k x8 x9 (wrap64 (x10 + 1)) bt1698.1 bt1698.2.1 bt1698.2.2))) else (none)) else (none)) else (some (x1689000, x1689001, x1689002))
def rational_Add.f (k : Nat) (l0 : List (S67)) : Option (Bool × List Int × List Int) := (rational_one.f).bind fun t1685 => (rational_Add.l0 k l0 (l0.length : Int) 0 false ([] : List Int) t1685)
theorem rational_Add.calls (k : Nat) (P0_ : Nat → Prop) (A0 : Option Addr) (c0 : Nat) (l0 : List (S67)) (r1 : Bool) (r2 : List Int) (r3 : List Int) (w : World) (hs0 : Kd.V k67 67 w w.heap.size (fun k_ => P0_ k_) (.slice A0 l0.length c0) l0) (h : rational_Add.f k l0 = some (r1, r2, r3)) :
 Calls Try.prog 98 #[.slice A0 l0.length c0] w fun e w' => ∃ v1_ v2_ : Value, e = .returned (.agg #[.bool r1, v1_, v2_]) ∧ Kd.V (Kd.int .u32) 48 w' w.heap.size (fun k_ => (P0_ k_ ∨ w.heap.size ≤ k_)) v1_ r2 ∧ Kd.V (Kd.int .u32) 48 w' w.heap.size (fun k_ => (P0_ k_ ∨ w.heap.size ≤ k_)) v2_ r3 ∧ Below w.heap.size w w' := by
 have cp := Try.underlying67
 have a2 := am (show Kd.V k67 67 w w.heap.size (fun k_ => (P0_ k_ ∨ w.heap.size ≤ k_)) (.slice A0 l0.length c0) l0 from Kd.V_mono hs0 (fun k_ hk => .inl hk))
 have HB := am (Below.refl w.heap.size w)
 have H : ((rational_one.f).bind fun aK => (rational_Add.l0 k l0 (l0.length : Int) 0 false ([] : List Int) aK)) = some (r1, r2, r3) := h
 clear h
 obtain ⟨aK, A2, H⟩ := bs H
 (try dsimp -simprocs only at H)
 have H' := am H
 clear H
 go_enter Try.func98, Try.ntmps98
 go_wp2_with (first | ((with_reducible refine gate_dst (N := 2) rfl ?_); refine box_event ?hg (N := 2) ?hd (cs := #[.bool false, .slice none 0 0, .slice none 0 0]) (t := 67) ?hr ?_; (case hd => rfl); (case hg => rfl); (case hr => first | (go_simp; done) | (go_simp; rfl)); intro ak hg w3 hbox hb; replace a2 := ke a2 hg hb; have af := am (hbox); have bM := ng hg (bu HB.out); have av := ng hg (bu HB.out); replace HB := be HB hb; clear hb hbox hg) | ((with_reducible refine gate_callee (f := 161) rfl ?_); refine goesL_ (some 6) rfl rfl Try.func161 (by kernel_rfl) rfl #[] rfl lu ?_; (with_reducible refine (rational_one.calls  aK _ A2.out).mono ?_); rintro e w4 ⟨cc, rfl, aY, hb⟩; refine ⟨_, rfl, ?_⟩; replace aY := R_V_base rfl aY; replace a2 := kv a2 hb; have aH := ar0 w.heap.size (ok' := fun k_ => (P0_ k_ ∨ w.heap.size ≤ k_) ∧ k_ ≠ ak) aY (fa (fz1 HB av) (fb af)); replace af := kb af hb; replace HB := be1 HB av hb; (try clear hb); (try clear aY); obtain ⟨cq, cr, ct⟩ := Kd.V_slice aH.out; subst ct) | ((with_reducible refine gate_dst (N := 3) rfl ?_); refine box_event ?hg (N := 3) ?hd (cs := #[.bool false, .slice none 0 0, .slice none 0 0]) (t := 67) ?hr ?_; (case hd => rfl); (case hg => rfl); (case hr => first | (go_simp; done) | (go_simp; rfl)); intro ag hg w6 hbox hb; replace a2 := ke a2 hg hb; replace aH := ke aH hg hb; have ac := am (hbox); have bN := ng hg (bu1 HB.out av.out); have az := ng hg (bu1 HB.out av.out); replace HB := be1 HB av hb; have ah := nl hg af; have aA := nr hg af; replace af := kb af hb; clear hb hbox hg; have cv := aA.out; have cw := ah.out; obtain ⟨a3, a4, a5, a6, a7, a8⟩ := bz ac))
 go_loopg [10] k (fun kq cx w' => ∃ (aa : Int) (ao : Bool) (ap : List Int) (aj : List Int) (u1689001 : Value) (u1689002 : Value), cx = .int .i64 aa ∧ Aside0 (rational_Add.l0 kq l0 (l0.length : Int) aa ao ap aj = some (r1, r2, r3)) ∧ Aside0 (kq ≤ k) ∧ Aside0 (Kd.V k67 67 w' w.heap.size (fun k_ => (P0_ k_ ∨ w.heap.size ≤ k_) ∧ k_ ≠ ak ∧ k_ ≠ ag) (.slice A0 l0.length c0) l0) ∧ Aside0 (Kd.V (Kd.int .u32) 48 w' w.heap.size (fun k_ => (P0_ k_ ∨ w.heap.size ≤ k_) ∧ k_ ≠ ak ∧ k_ ≠ ag) u1689001 ap) ∧ Aside0 (Kd.V (Kd.int .u32) 48 w' w.heap.size (fun k_ => (P0_ k_ ∨ w.heap.size ≤ k_) ∧ k_ ≠ ak ∧ k_ ≠ ag) u1689002 aj) ∧ Aside0 (w'.heap[ak]? = some (.cells #[.bool false, (.slice none 0 0), (.slice none 0 0)] 67 (0, 0))) ∧ Aside0 (w'.heap[ag]? = some (.cells #[.bool ao, u1689001, u1689002] 67 (0, 0))) ∧ Aside0 (Below w.heap.size w w'))
 case atStart => exact ⟨(0), (false), (([] : List Int)), (aK), (.slice none 0 0), (.slice cq aK.length cr), (by first | rfl | (simp; done) | (simp [*]; done)), H', ⟨Nat.le_refl _⟩, ⟨by exact vf a2.out⟩, ⟨Kd.V_nil _ _ _ _ _⟩, ⟨by exact vf aH.out⟩, ⟨by (with_reducible repeat (first | refine blk_drewN ?_ _ | refine blk_drew ?_ | refine blk_alloc ?_ _)); refine blk_far ?_ ah.out _; (with_reducible repeat (first | refine blk_drewN ?_ _ | refine blk_drew ?_ | refine blk_alloc ?_ _)); refine blk_far ?_ ah.out _; (with_reducible repeat (first | refine blk_drewN ?_ _ | refine blk_drew ?_ | refine blk_alloc ?_ _)); refine blk_far ?_ ah.out _; (with_reducible repeat (first | refine blk_drewN ?_ _ | refine blk_drew ?_ | refine blk_alloc ?_ _)); exact af.out⟩, ⟨by (with_reducible repeat (first | refine blk_drewN ?_ _ | refine blk_drew ?_ | refine blk_alloc ?_ _)); refine blk_put (cs := #[.bool false, .slice none 0 0, .slice none 0 0]) ?_ 2 _ rfl; (with_reducible repeat (first | refine blk_drewN ?_ _ | refine blk_drew ?_ | refine blk_alloc ?_ _)); refine blk_put (cs := #[.bool false, .slice none 0 0, .slice none 0 0]) ?_ 1 _ rfl; (with_reducible repeat (first | refine blk_drewN ?_ _ | refine blk_drew ?_ | refine blk_alloc ?_ _)); refine blk_put (cs := #[.bool false, .slice none 0 0, .slice none 0 0]) ?_ 0 _ rfl; (with_reducible repeat (first | refine blk_drewN ?_ _ | refine blk_drew ?_ | refine blk_alloc ?_ _)); exact ac.out⟩, ⟨by repeat (first | (with_reducible first | exact HB.out | apply below_alloc | apply pw_below_drewN | apply below_drew1 | refine below_set ?_ av.out | refine below_set ?_ az.out) | exact HB.out)⟩⟩
 case round =>
  clear H'
  try clear c1
  try clear p2
  try clear c7
  try clear a3
  try clear a4
  try clear a5
  try clear a6
  try clear a7
  try clear a8
  obtain ⟨aa, ao, ap, aj, u1689001, u1689002, rfl, HA, HK1, aE, ad, ae, af, ac, HB⟩ := hrel
  cases gk with
  | zero => exact absurd HA.out (by simp [rational_Add.l0])
  | succ k1 =>
   have H := HA.out
   clear HA
   simp only [rational_Add.l0] at H
   by_cases c9 : aa < (l0.length : Int)
   ·
    rw [if_pos c9] at H
    have bO : decide (aa < (l0.length : Int)) = true := decide_eq_true c9
    clear c9
    by_cases bn : 0 ≤ aa
    ·
     rw [if_pos bn] at H
     have cd : decide (0 ≤ aa) = true := decide_eq_true bn
     clear bn
     by_cases bo : aa < (l0.length : Int)
     ·
      rw [if_pos bo] at H
      have ce : decide (aa < (l0.length : Int)) = true := decide_eq_true bo
      clear bo
      obtain ⟨⟨aO, aP, aQ⟩, cy, H⟩ := bs H
      (try dsimp -simprocs only at H)
      obtain ⟨⟨aM, aN, aR⟩, cz, H⟩ := bs H
      (try dsimp -simprocs only at H)
      have H' := am H
      clear H
      have p1689 : 0 ≤ (aa : Int) := of_decide_eq_true (by first | (with_reducible assumption) | assumption)
      have q1689 : aa < (l0.length : Int) := of_decide_eq_true (by first | (with_reducible assumption) | assumption)
      obtain ⟨ad1689, aq, au, aw, ax, e1689, a9, aS, aT, hl1689_1, hi1689_1, hl1689_2, hi1689_2⟩ := at_T67 (Kd.V_reads' aE.out).2.2 aa p1689 q1689
      cases e1689
      obtain ⟨ce1689, hce1689, hMe1689, hcc1689⟩ := Kd.V_get aE.out z67 aa p1689 (by first | exact q1689 | exact of_decide_eq_true (by first | (with_reducible assumption) | assumption) | (have e_ := (Kd.V_reads' aE.out).1; omega))
      obtain ⟨ua1689_1, uc1689_1, ua1689_2, uc1689_2, rfl, ul1689_1, ge1689_1, ul1689_2, ge1689_2⟩ := k67_openF hMe1689
      have hv1689_1 := hcc1689 1 _ rfl
      rw [add_field _ _ 1 (by omega)] at hv1689_1
      replace hv1689_1 := Option.some.inj (hv1689_1.symm.trans aS)
      injection hv1689_1 with hva_ hvn_ hvc_
      rw [hva_] at ge1689_1
      rw [hvc_] at ul1689_1
      have al := am (show Kd.V (Kd.int .u32) 48 _ w.heap.size _ _ ((rd_T67 l0 aa).f1) from Kd.V_mk ul1689_1 ge1689_1)
      clear hva_ hvn_ hvc_ ge1689_1 ul1689_1
      have hv1689_2 := hcc1689 2 _ rfl
      rw [add_field _ _ 2 (by omega)] at hv1689_2
      replace hv1689_2 := Option.some.inj (hv1689_2.symm.trans aT)
      injection hv1689_2 with hva_ hvn_ hvc_
      rw [hva_] at ge1689_2
      rw [hvc_] at ul1689_2
      have an := am (show Kd.V (Kd.int .u32) 48 _ w.heap.size _ _ ((rd_T67 l0 aa).f2) from Kd.V_mk ul1689_2 ge1689_2)
      clear hva_ hvn_ hvc_ ge1689_2 ul1689_2
      clear hcc1689 hce1689
      have aF := am hi1689_1
      have ba := am hl1689_1
      clear hi1689_1 hl1689_1
      have aG := am hi1689_2
      have bb := am hl1689_2
      clear hi1689_2 hl1689_2
      replace p1689 := eq_true p1689
      replace q1689 := eq_true q1689
      try go_wp2_with (first | ((with_reducible refine gate_dst (N := 5) rfl ?_); refine box_event ?hg (N := 5) ?hd (cs := #[.bool false, .slice none 0 0, .slice none 0 0]) (t := 67) ?hr ?_; (case hd => rfl); (case hg => rfl); (case hr => first | (go_simp; done) | (go_simp; rfl)); intro ab hg aZ hbox hb; replace aE := ke aE hg hb; replace ad := ke ad hg hb; replace ae := ke ae hg hb; replace al := ke al hg hb; replace an := ke an hg hb; replace aF := am (Kd.C_below (by repeat (first | (with_reducible exact aF.out) | (with_reducible refine Kd.C_alloc ?_ _) | (with_reducible refine Kd.C_drewN ?_ _) | (with_reducible refine Kd.C_drew ?_) | exact aF.out)) hb); replace aG := am (Kd.C_below (by repeat (first | (with_reducible exact aG.out) | (with_reducible refine Kd.C_alloc ?_ _) | (with_reducible refine Kd.C_drewN ?_ _) | (with_reducible refine Kd.C_drew ?_) | exact aG.out)) hb); have ai := am (hbox); have bP := ng hg (bu2 HB.out av.out az.out); have aD := ng hg (bu2 HB.out av.out az.out); replace HB := be2 HB av az hb; have aB := nl hg af; have aL := nr hg af; replace af := kb af hb; have ay := nl hg ac; have aC := nr hg ac; replace ac := kb ac hb; clear hb hbox hg; have cf := aL.out; have cg := aB.out; have ch := aC.out; have ci := ay.out; obtain ⟨bp, bq, br, bv, bw, bx⟩ := bz ai))
      have bQ : Aside0 (Kd.V k67 67 (((aZ.setCell ⟨ab, 0, none⟩ (.bool ((rd_T67 l0 aa).f0))).setCell ⟨ab, 1, none⟩ (.slice aq ((rd_T67 l0 aa).f1).length au)).setCell ⟨ab, 2, none⟩ (.slice aw ((rd_T67 l0 aa).f2).length ax)) w.heap.size (fun k_ => (P0_ k_ ∨ w.heap.size ≤ k_) ∧ k_ ≠ ak ∧ k_ ≠ ag ∧ k_ ≠ ab) (.slice (some ad1689) l0.length c0) l0) := ⟨by exact vf aE.out⟩
      have bR : Aside0 (Kd.V (Kd.int .u32) 48 (((aZ.setCell ⟨ab, 0, none⟩ (.bool ((rd_T67 l0 aa).f0))).setCell ⟨ab, 1, none⟩ (.slice aq ((rd_T67 l0 aa).f1).length au)).setCell ⟨ab, 2, none⟩ (.slice aw ((rd_T67 l0 aa).f2).length ax)) w.heap.size (fun k_ => (P0_ k_ ∨ w.heap.size ≤ k_) ∧ k_ ≠ ak ∧ k_ ≠ ag ∧ k_ ≠ ab) u1689001 ap) := ⟨by exact vf ad.out⟩
      have bS : Aside0 (Kd.V (Kd.int .u32) 48 (((aZ.setCell ⟨ab, 0, none⟩ (.bool ((rd_T67 l0 aa).f0))).setCell ⟨ab, 1, none⟩ (.slice aq ((rd_T67 l0 aa).f1).length au)).setCell ⟨ab, 2, none⟩ (.slice aw ((rd_T67 l0 aa).f2).length ax)) w.heap.size (fun k_ => (P0_ k_ ∨ w.heap.size ≤ k_) ∧ k_ ≠ ak ∧ k_ ≠ ag ∧ k_ ≠ ab) u1689002 aj) := ⟨by exact vf ae.out⟩
      have bT : Aside0 (Kd.V (Kd.int .u32) 48 (((aZ.setCell ⟨ab, 0, none⟩ (.bool ((rd_T67 l0 aa).f0))).setCell ⟨ab, 1, none⟩ (.slice aq ((rd_T67 l0 aa).f1).length au)).setCell ⟨ab, 2, none⟩ (.slice aw ((rd_T67 l0 aa).f2).length ax)) w.heap.size (fun k_ => (P0_ k_ ∨ w.heap.size ≤ k_) ∧ k_ ≠ ak ∧ k_ ≠ ag ∧ k_ ≠ ab) (.slice aq ((rd_T67 l0 aa).f1).length au) ((rd_T67 l0 aa).f1)) := ⟨by exact vf al.out⟩
      have bU : Aside0 (Kd.V (Kd.int .u32) 48 (((aZ.setCell ⟨ab, 0, none⟩ (.bool ((rd_T67 l0 aa).f0))).setCell ⟨ab, 1, none⟩ (.slice aq ((rd_T67 l0 aa).f1).length au)).setCell ⟨ab, 2, none⟩ (.slice aw ((rd_T67 l0 aa).f2).length ax)) w.heap.size (fun k_ => (P0_ k_ ∨ w.heap.size ≤ k_) ∧ k_ ≠ ak ∧ k_ ≠ ag ∧ k_ ≠ ab) (.slice aw ((rd_T67 l0 aa).f2).length ax) ((rd_T67 l0 aa).f2)) := ⟨by exact vf an.out⟩
      have bV : Aside0 ((((aZ.setCell ⟨ab, 0, none⟩ (.bool ((rd_T67 l0 aa).f0))).setCell ⟨ab, 1, none⟩ (.slice aq ((rd_T67 l0 aa).f1).length au)).setCell ⟨ab, 2, none⟩ (.slice aw ((rd_T67 l0 aa).f2).length ax)).heap[ak]? = some (.cells #[.bool false, .slice none 0 0, .slice none 0 0] 67 (0, 0))) := ⟨by (with_reducible repeat (first | refine blk_drewN ?_ _ | refine blk_drew ?_ | refine blk_alloc ?_ _)); refine blk_far ?_ aB.out _; (with_reducible repeat (first | refine blk_drewN ?_ _ | refine blk_drew ?_ | refine blk_alloc ?_ _)); refine blk_far ?_ aB.out _; (with_reducible repeat (first | refine blk_drewN ?_ _ | refine blk_drew ?_ | refine blk_alloc ?_ _)); refine blk_far ?_ aB.out _; (with_reducible repeat (first | refine blk_drewN ?_ _ | refine blk_drew ?_ | refine blk_alloc ?_ _)); exact af.out⟩
      have bW : Aside0 ((((aZ.setCell ⟨ab, 0, none⟩ (.bool ((rd_T67 l0 aa).f0))).setCell ⟨ab, 1, none⟩ (.slice aq ((rd_T67 l0 aa).f1).length au)).setCell ⟨ab, 2, none⟩ (.slice aw ((rd_T67 l0 aa).f2).length ax)).heap[ag]? = some (.cells #[.bool ao, u1689001, u1689002] 67 (0, 0))) := ⟨by (with_reducible repeat (first | refine blk_drewN ?_ _ | refine blk_drew ?_ | refine blk_alloc ?_ _)); refine blk_far ?_ ay.out _; (with_reducible repeat (first | refine blk_drewN ?_ _ | refine blk_drew ?_ | refine blk_alloc ?_ _)); refine blk_far ?_ ay.out _; (with_reducible repeat (first | refine blk_drewN ?_ _ | refine blk_drew ?_ | refine blk_alloc ?_ _)); refine blk_far ?_ ay.out _; (with_reducible repeat (first | refine blk_drewN ?_ _ | refine blk_drew ?_ | refine blk_alloc ?_ _)); exact ac.out⟩
      have bX : Aside0 ((((aZ.setCell ⟨ab, 0, none⟩ (.bool ((rd_T67 l0 aa).f0))).setCell ⟨ab, 1, none⟩ (.slice aq ((rd_T67 l0 aa).f1).length au)).setCell ⟨ab, 2, none⟩ (.slice aw ((rd_T67 l0 aa).f2).length ax)).heap[ab]? = some (.cells #[.bool ((rd_T67 l0 aa).f0), .slice aq ((rd_T67 l0 aa).f1).length au, .slice aw ((rd_T67 l0 aa).f2).length ax] 67 (0, 0))) := ⟨by (with_reducible repeat (first | refine blk_drewN ?_ _ | refine blk_drew ?_ | refine blk_alloc ?_ _)); refine blk_put (cs := #[.bool ((rd_T67 l0 aa).f0), .slice aq ((rd_T67 l0 aa).f1).length au, .slice none 0 0]) ?_ 2 _ rfl; (with_reducible repeat (first | refine blk_drewN ?_ _ | refine blk_drew ?_ | refine blk_alloc ?_ _)); refine blk_put (cs := #[.bool ((rd_T67 l0 aa).f0), .slice none 0 0, .slice none 0 0]) ?_ 1 _ rfl; (with_reducible repeat (first | refine blk_drewN ?_ _ | refine blk_drew ?_ | refine blk_alloc ?_ _)); refine blk_put (cs := #[.bool false, .slice none 0 0, .slice none 0 0]) ?_ 0 _ rfl; (with_reducible repeat (first | refine blk_drewN ?_ _ | refine blk_drew ?_ | refine blk_alloc ?_ _)); exact ai.out⟩
      have bY : Aside0 (Below w.heap.size w (((aZ.setCell ⟨ab, 0, none⟩ (.bool ((rd_T67 l0 aa).f0))).setCell ⟨ab, 1, none⟩ (.slice aq ((rd_T67 l0 aa).f1).length au)).setCell ⟨ab, 2, none⟩ (.slice aw ((rd_T67 l0 aa).f2).length ax))) := ⟨by repeat (first | (with_reducible first | exact HB.out | apply below_alloc | apply pw_below_drewN | apply below_drew1 | refine below_set ?_ av.out | refine below_set ?_ az.out | refine below_set ?_ aD.out) | exact HB.out)⟩
      (try clear aE)
      (try clear ad)
      (try clear ae)
      (try clear al)
      (try clear an)
      (try clear af)
      (try clear ac)
      (try clear ai)
      (try clear HB)
      generalize (((aZ.setCell ⟨ab, 0, none⟩ (.bool ((rd_T67 l0 aa).f0))).setCell ⟨ab, 1, none⟩ (.slice aq ((rd_T67 l0 aa).f1).length au)).setCell ⟨ab, 2, none⟩ (.slice aw ((rd_T67 l0 aa).f2).length ax)) = cA at bQ bR bS bT bU bV bW bX bY ⊢
      have aE := bQ
      have ad := bR
      have ae := bS
      have al := bT
      have an := bU
      have af := bV
      have ac := bW
      have ai := bX
      have HB := bY
      clear bQ bR bS bT bU bV bW bX bY
      replace aE := am (Kd.V_drew aE.out)
      replace ad := am (Kd.V_drew ad.out)
      replace ae := am (Kd.V_drew ae.out)
      replace al := am (Kd.V_drew al.out)
      replace an := am (Kd.V_drew an.out)
      replace af := am (blk_drew af.out)
      replace ac := am (blk_drew ac.out)
      replace ai := am (blk_drew ai.out)
      replace HB := am (below_drew1 HB.out)
      refine start_ (n := 5) (S := fun w' => w'.cell? ⟨ag, 0, none⟩ = some (.bool ao) ∧ w'.cell? ⟨ag, 1, none⟩ = some (u1689001) ∧ w'.cell? ⟨ag, 2, none⟩ = some (u1689002) ∧ w'.cell? ⟨ab, 0, none⟩ = some (.bool ((rd_T67 l0 aa).f0)) ∧ w'.cell? ⟨ab, 1, none⟩ = some (.slice aq ((rd_T67 l0 aa).f1).length au) ∧ w'.cell? ⟨ab, 2, none⟩ = some (.slice aw ((rd_T67 l0 aa).f2).length ax)) (ds := [4]) #[false, false, false, false, false] (by kernel_rfl) rfl rfl ⟨bc ac 0, bc ac 1, bc ac 2, bc ai 0, bc ai 1, bc ai 2⟩ (fun hHeld => ?_)
      generalize cA.drew = cB at aE ad ae al an af ac ai HB hHeld ⊢
      refine take_ (i := 0) (N := some 14) (v := ?_) (a' := ?_) #[true, false, false, false, false] rfl rfl (by kernel_rfl) (fun _ _ _ h => h) (Or.inl ⟨by rfl, ?_⟩) hHeld ?_ ?_
      rotate_left
      ·
       rintro w' ⟨s0, s1, s2, s3, s4, s5⟩
       go_simp
       with_reducible rfl
      rotate_left
      ·
       simp only [Act.put, List.setIfInBounds_toArray, List.set_cons_zero, List.set_cons_succ, i64_w, i32_w]
       rfl
      refine take_ (i := 1) (N := some 15) (v := ?_) (a' := ?_) #[true, true, false, false, false] rfl rfl (by kernel_rfl) (fun _ _ _ h => h) (Or.inl ⟨by rfl, ?_⟩) hHeld ?_ ?_
      rotate_left
      ·
       rintro w' ⟨s0, s1, s2, s3, s4, s5⟩
       go_simp
       with_reducible rfl
      rotate_left
      ·
       simp only [Act.put, List.setIfInBounds_toArray, List.set_cons_zero, List.set_cons_succ, i64_w, i32_w]
       rfl
      refine one_ (i := 2) (N := some 16) #[true, true, true, false, false] rfl rfl (by kernel_rfl) (by decide) (fun K hK => ?_)
      refine goes_ Try.func87 (by kernel_rfl) rfl #[.agg #[.bool ((rd_T67 l0 aa).f0), .slice aq ((rd_T67 l0 aa).f1).length au, .slice aw ((rd_T67 l0 aa).f2).length ax]] (by rfl) rfl rfl lu ?_
      with_reducible refine (rational_Trim.calls k1 ((rd_T67 l0 aa).f0) (fun k_ => ((P0_ k_ ∨ w.heap.size ≤ k_) ∧ (k_ ≠ ak ∧ (k_ ≠ ag ∧ k_ ≠ ab)))) _ _ ((rd_T67 l0 aa).f1) (fun k_ => ((P0_ k_ ∨ w.heap.size ≤ k_) ∧ (k_ ≠ ak ∧ (k_ ≠ ag ∧ k_ ≠ ab)))) _ _ ((rd_T67 l0 aa).f2) aO aP aQ _ ?side1 ?side2 cy.out).mono ?_
      (case side1 => first | exact al.out | exact vz al.out)
      (case side2 => first | exact an.out | exact vz an.out)
      rintro e cC ⟨cj, ck, rfl, aY, bd, hb⟩
      refine ⟨_, rfl, ?_⟩
      replace aE := kv aE hb
      replace ad := kv ad hb
      replace ae := kv ae hb
      replace al := kv al hb
      replace an := kv an hb
      have aI := ar w.heap.size (ok' := fun k_ => (P0_ k_ ∨ w.heap.size ≤ k_) ∧ k_ ≠ ak ∧ k_ ≠ ag ∧ k_ ≠ ab) aY (fa (fz3 HB av az aD) (fa (fb af) (fa (fb ac) (fb ai))))
      have aJ := ar w.heap.size (ok' := fun k_ => (P0_ k_ ∨ w.heap.size ≤ k_) ∧ k_ ≠ ak ∧ k_ ≠ ag ∧ k_ ≠ ab) bd (fa (fz3 HB av az aD) (fa (fb af) (fa (fb ac) (fb ai))))
      replace af := kb af hb
      replace ac := kb ac hb
      replace ai := kb ai hb
      replace HB := be3 HB av az aD hb
      (try clear hb)
      (try clear hb2)
      (try clear hk)
      (try clear hi)
      (try clear aY)
      (try clear bd)
      obtain ⟨a0, a1, bf⟩ := Kd.V_slice ad.out
      (first | subst bf | (injection bf with f1_ f2_ f3_; have f4_ := f1_.symm; have f5_ := f3_.symm; clear f1_ f2_ f3_; subst f4_; subst f5_))
      obtain ⟨aU, aV, bg⟩ := Kd.V_slice ae.out
      (first | subst bg | (injection bg with f1_ f2_ f3_; have f4_ := f1_.symm; have f5_ := f3_.symm; clear f1_ f2_ f3_; subst f4_; subst f5_))
      obtain ⟨bZ, b0, bh⟩ := Kd.V_slice aI.out
      (first | subst bh | (injection bh with f1_ f2_ f3_; have f4_ := f1_.symm; have f5_ := f3_.symm; clear f1_ f2_ f3_; subst f4_; subst f5_))
      obtain ⟨b1, b2, bi⟩ := Kd.V_slice aJ.out
      (first | subst bi | (injection bi with f1_ f2_ f3_; have f4_ := f1_.symm; have f5_ := f3_.symm; clear f1_ f2_ f3_; subst f4_; subst f5_))
      refine hK.out _ _ ⟨bc ac 0, bc ac 1, bc ac 2, bc ai 0, bc ai 1, bc ai 2⟩ (fun hHeld => ?_)
      clear hK K
      refine nq 16 ?_
      refine one_ (i := 3) (N := some 17) #[true, true, true, true, false] rfl rfl (by kernel_rfl) (by decide) (fun K hK => ?_)
      refine goes_ Try.func165 (by kernel_rfl) rfl #[.agg #[.bool ao, .slice a0 ap.length a1, .slice aU aj.length aV], .agg #[.bool aO, .slice bZ aP.length b0, .slice b1 aQ.length b2]] (by rfl) rfl rfl lu ?_
      with_reducible refine (rational_plus.calls k1 ao (fun k_ => ((P0_ k_ ∨ w.heap.size ≤ k_) ∧ (k_ ≠ ak ∧ (k_ ≠ ag ∧ k_ ≠ ab)))) _ _ ap (fun k_ => ((P0_ k_ ∨ w.heap.size ≤ k_) ∧ (k_ ≠ ak ∧ (k_ ≠ ag ∧ k_ ≠ ab)))) _ _ aj aO (fun k_ => ((P0_ k_ ∨ w.heap.size ≤ k_) ∧ (k_ ≠ ak ∧ (k_ ≠ ag ∧ k_ ≠ ab)))) _ _ aP (fun k_ => ((P0_ k_ ∨ w.heap.size ≤ k_) ∧ (k_ ≠ ak ∧ (k_ ≠ ag ∧ k_ ≠ ab)))) _ _ aQ aM aN aR _ ?side1 ?side2 ?side3 ?side4 cz.out).mono ?_
      (case side1 => exact vz ad.out)
      (case side2 => exact vz ae.out)
      (case side3 => exact vz aI.out)
      (case side4 => exact vz aJ.out)
      rintro e b3 ⟨cl, cm, rfl, aY, bd, hb⟩
      refine ⟨_, rfl, ?_⟩
      replace aE := kv aE hb
      replace ad := kv ad hb
      replace ae := kv ae hb
      replace al := kv al hb
      replace an := kv an hb
      replace aI := kv aI hb
      replace aJ := kv aJ hb
      have aW := ar w.heap.size (ok' := fun k_ => (P0_ k_ ∨ w.heap.size ≤ k_) ∧ k_ ≠ ak ∧ k_ ≠ ag ∧ k_ ≠ ab) aY (fa (fz3 HB av az aD) (fa (fb af) (fa (fb ac) (fb ai))))
      have aX := ar w.heap.size (ok' := fun k_ => (P0_ k_ ∨ w.heap.size ≤ k_) ∧ k_ ≠ ak ∧ k_ ≠ ag ∧ k_ ≠ ab) bd (fa (fz3 HB av az aD) (fa (fb af) (fa (fb ac) (fb ai))))
      replace af := kb af hb
      replace ac := kb ac hb
      replace ai := kb ai hb
      replace HB := be3 HB av az aD hb
      (try clear hb)
      (try clear hb2)
      (try clear hk)
      (try clear hi)
      (try clear aY)
      (try clear bd)
      obtain ⟨bj, bk, bl⟩ := Kd.V_slice aW.out
      (first | subst bl | (injection bl with f1_ f2_ f3_; have f4_ := f1_.symm; have f5_ := f3_.symm; clear f1_ f2_ f3_; subst f4_; subst f5_))
      obtain ⟨b4, b5, bm⟩ := Kd.V_slice aX.out
      (first | subst bm | (injection bm with f1_ f2_ f3_; have f4_ := f1_.symm; have f5_ := f3_.symm; clear f1_ f2_ f3_; subst f4_; subst f5_))
      refine hK.out _ _ ⟨bc ac 0, bc ac 1, bc ac 2, bc ai 0, bc ai 1, bc ai 2⟩ (fun hHeld => ?_)
      clear hK K
      refine nq 17 ?_
      refine last_ (i := 4) (N := none) #[true, true, true, true, true] rfl rfl (by kernel_rfl) (by decide) (fun K hK => ?_)
      have hs26 : b3.cell? ⟨ag, 0, none⟩ = some (.bool ao) := bc ac 0
      have hfs26 := blk_frozen ac.out 0
      have hns26_0 := ah.out
      have hns26_2 := aC.out
      have hms26_0 := aA.out
      have hms26_2 := ay.out
      have hs28 : b3.cell? ⟨ag, 1, none⟩ = some (.slice a0 ap.length a1) := bc ac 1
      have hfs28 := blk_frozen ac.out 1
      have hns28_0 := ah.out
      have hns28_2 := aC.out
      have hms28_0 := aA.out
      have hms28_2 := ay.out
      have hs30 : b3.cell? ⟨ag, 2, none⟩ = some (.slice aU aj.length aV) := bc ac 2
      have hfs30 := blk_frozen ac.out 2
      have hns30_0 := ah.out
      have hns30_2 := aC.out
      have hms30_0 := aA.out
      have hms30_2 := ay.out
      refine skip_ (w1 := ?_) (by rfl) rfl ?_ ?_
      rotate_left
      ·
       go_simp
       rfl
      refine hK.out _ _ ?_
      clear hK K
      refine done_ (by kernel_rfl) ?_
      try go_wp2
      go_roundg k1
      case measure => have := HK1.out; omega
      case rel => exact ⟨(wrap64 (aa + 1)), (aM), (aN), (aR), (.slice bj aN.length bk), (.slice b4 aR.length b5), (by first | rfl | (simp; done) | (simp [*]; done)), H', ⟨by have := HK1.out; omega⟩, ⟨by exact vf aE.out⟩, ⟨by exact vf aW.out⟩, ⟨by exact vf aX.out⟩, ⟨by (with_reducible repeat (first | refine blk_drewN ?_ _ | refine blk_drew ?_ | refine blk_alloc ?_ _)); refine blk_far ?_ ah.out _; (with_reducible repeat (first | refine blk_drewN ?_ _ | refine blk_drew ?_ | refine blk_alloc ?_ _)); refine blk_far ?_ ah.out _; (with_reducible repeat (first | refine blk_drewN ?_ _ | refine blk_drew ?_ | refine blk_alloc ?_ _)); refine blk_far ?_ ah.out _; (with_reducible repeat (first | refine blk_drewN ?_ _ | refine blk_drew ?_ | refine blk_alloc ?_ _)); exact af.out⟩, ⟨by (with_reducible repeat (first | refine blk_drewN ?_ _ | refine blk_drew ?_ | refine blk_alloc ?_ _)); refine blk_put (cs := #[.bool aM, .slice bj aN.length bk, .slice aU aj.length aV]) ?_ 2 _ rfl; (with_reducible repeat (first | refine blk_drewN ?_ _ | refine blk_drew ?_ | refine blk_alloc ?_ _)); refine blk_put (cs := #[.bool aM, .slice a0 ap.length a1, .slice aU aj.length aV]) ?_ 1 _ rfl; (with_reducible repeat (first | refine blk_drewN ?_ _ | refine blk_drew ?_ | refine blk_alloc ?_ _)); refine blk_put (cs := #[.bool ao, .slice a0 ap.length a1, .slice aU aj.length aV]) ?_ 0 _ rfl; (with_reducible repeat (first | refine blk_drewN ?_ _ | refine blk_drew ?_ | refine blk_alloc ?_ _)); exact ac.out⟩, ⟨by repeat (first | (with_reducible first | exact HB.out | apply below_alloc | apply pw_below_drewN | apply below_drew1 | refine below_set ?_ av.out | refine below_set ?_ az.out | refine below_set ?_ aD.out) | exact HB.out)⟩⟩
     ·
      rw [if_neg bo] at H
      exact absurd H (by simp)
    ·
     rw [if_neg bn] at H
     exact absurd H (by simp)
   ·
    rw [if_neg c9] at H
    have bO : decide (aa < (l0.length : Int)) = false := decide_eq_false c9
    clear c9
    simp only [Option.some.injEq, Prod.mk.injEq] at H
    obtain ⟨rfl, rfl, rfl⟩ := H
    have cn := aA.out
    have co := ah.out
    obtain ⟨bA, bB, bC, bD, bE, bF⟩ := bz ac
    obtain ⟨bG, bH, bI, bJ, bK, bL⟩ := bz af
    obtain ⟨b6, b7, b8⟩ := Kd.V_slice ad.out
    subst b8
    obtain ⟨b9, ca, cb⟩ := Kd.V_slice ae.out
    subst cb
    go_wp2
    refine bodyPost_ret (results_cell_row rfl _ _ ak 67 #[.bool ao, .slice b6 ap.length b7, .slice b9 aj.length ca] (0, 0) _ rfl (kp af.out) Try.underlying67 rfl (by kernel_rfl)) rfl ?_
    exact ⟨_, _, by first | rfl | (simp [errW_none, errW_some] <;> rfl) | (simp [*, errW_none, errW_some] <;> rfl), by exact vf ad.out, by exact vf ae.out, by repeat (first | (with_reducible first | exact HB.out | apply below_alloc | apply pw_below_drewN | apply below_drew1 | refine below_set ?_ av.out | refine below_set ?_ az.out) | exact HB.out)⟩
def rational_Neg.f (k : Nat) (a0_0 : Bool) (l0_1 : List Int) (l0_2 : List Int) : Option (Bool × List Int × List Int) := (rational_canonical.f k (!a0_0) l0_1 l0_2).bind fun bt1289 => (some (bt1289.1, bt1289.2.1, bt1289.2.2))
theorem rational_Neg.calls (k : Nat) (a0_0 : Bool) (P0_1_ : Nat → Prop) (A0_1 : Option Addr) (c0_1 : Nat) (l0_1 : List Int) (P0_2_ : Nat → Prop) (A0_2 : Option Addr) (c0_2 : Nat) (l0_2 : List Int) (r1 : Bool) (r2 : List Int) (r3 : List Int) (w : World) (hs0_1 : Kd.V (Kd.int .u32) 48 w w.heap.size (fun k_ => P0_1_ k_) (.slice A0_1 l0_1.length c0_1) l0_1) (hs0_2 : Kd.V (Kd.int .u32) 48 w w.heap.size (fun k_ => P0_2_ k_) (.slice A0_2 l0_2.length c0_2) l0_2) (h : rational_Neg.f k a0_0 l0_1 l0_2 = some (r1, r2, r3)) :
 Calls Try.prog 92 #[.agg #[.bool a0_0, .slice A0_1 l0_1.length c0_1, .slice A0_2 l0_2.length c0_2]] w fun e w' => ∃ v1_ v2_ : Value, e = .returned (.agg #[.bool r1, v1_, v2_]) ∧ Kd.V (Kd.int .u32) 48 w' w.heap.size (fun k_ => ((P0_1_ k_ ∨ P0_2_ k_) ∨ w.heap.size ≤ k_)) v1_ r2 ∧ Kd.V (Kd.int .u32) 48 w' w.heap.size (fun k_ => ((P0_1_ k_ ∨ P0_2_ k_) ∨ w.heap.size ≤ k_)) v2_ r3 ∧ Below w.heap.size w w' := by
 have aP := Try.underlying67
 have ad := am (show Kd.V (Kd.int .u32) 48 w w.heap.size (fun k_ => ((P0_1_ k_ ∨ P0_2_ k_) ∨ w.heap.size ≤ k_)) (.slice A0_1 l0_1.length c0_1) l0_1 from Kd.V_mono hs0_1 (fun k_ hk => .inl (.inl hk)))
 have ae := am (show Kd.V (Kd.int .u32) 48 w w.heap.size (fun k_ => ((P0_1_ k_ ∨ P0_2_ k_) ∨ w.heap.size ≤ k_)) (.slice A0_2 l0_2.length c0_2) l0_2 from Kd.V_mono hs0_2 (fun k_ hk => .inl (.inr hk)))
 have HB := am (Below.refl w.heap.size w)
 have H : ((rational_canonical.f k (!a0_0) l0_1 l0_2).bind fun ak => (some (ak.1, ak.2.1, ak.2.2))) = some (r1, r2, r3) := h
 clear h
 obtain ⟨⟨ao, ap, aq⟩, A2, H⟩ := bs H
 (try dsimp -simprocs only at H)
 simp only [Option.some.injEq, Prod.mk.injEq] at H
 obtain ⟨rfl, rfl, rfl⟩ := H
 go_enter Try.func92, Try.ntmps92
 go_wp2_with (first | ((with_reducible refine gate_dst (N := 1) rfl ?_); refine box_event ?hg (N := 1) ?hd (cs := #[.bool a0_0, .slice A0_1 l0_1.length c0_1, .slice A0_2 l0_2.length c0_2]) (t := 67) ?hr ?_; (case hd => rfl); (case hg => rfl); (case hr => first | (go_simp; done) | (go_simp; rfl)); intro ag hg w3 hbox hb; replace ad := ke ad hg hb; replace ae := ke ae hg hb; have aa := am (hbox); have au := ng hg (bu HB.out); have ab := ng hg (bu HB.out); replace HB := be HB hb; clear hb hbox hg) | ((with_reducible refine gate_dst (N := 2) rfl ?_); refine box_event ?hg (N := 2) ?hd (cs := #[.bool false, .slice none 0 0, .slice none 0 0]) (t := 67) ?hr ?_; (case hd => rfl); (case hg => rfl); (case hr => first | (go_simp; done) | (go_simp; rfl)); intro af hg w4 hbox hb; replace ad := ke ad hg hb; replace ae := ke ae hg hb; have ac := am (hbox); have av := ng hg (bu1 HB.out ab.out); have ah := ng hg (bu1 HB.out ab.out); replace HB := be1 HB ab hb; have ai := nl hg aa; have aj := nr hg aa; replace aa := kb aa hb; clear hb hbox hg; have aQ := ai.out; have aR := aj.out; obtain ⟨aw, ax, ay, az, aA, aB⟩ := bz aa) | ((with_reducible refine gate_callee (f := 155) rfl ?_); refine goesL_ (some 10) rfl rfl Try.func155 (by kernel_rfl) rfl #[.bool (!a0_0), .slice A0_1 l0_1.length c0_1, .slice A0_2 l0_2.length c0_2] rfl lu ?_; (with_reducible refine (rational_canonical.calls k (!a0_0) (fun k_ => ((((P0_1_ k_ ∨ P0_2_ k_) ∨ w.heap.size ≤ k_) ∧ k_ ≠ ag) ∧ k_ ≠ af)) _ _ l0_1 (fun k_ => ((((P0_1_ k_ ∨ P0_2_ k_) ∨ w.heap.size ≤ k_) ∧ k_ ≠ ag) ∧ k_ ≠ af)) _ _ l0_2 ao ap aq _ ?side1 ?side2 A2.out).mono ?_); (case side1 => exact vz ad.out); (case side2 => exact vz ae.out); rintro e w7 ⟨aL, aM, rfl, aN, aO, hb⟩; refine ⟨_, rfl, ?_⟩; replace ad := kv ad hb; replace ae := kv ae hb; have al := ar w.heap.size (ok' := fun k_ => ((P0_1_ k_ ∨ P0_2_ k_) ∨ w.heap.size ≤ k_) ∧ k_ ≠ ag ∧ k_ ≠ af) aN (fa (fz2 HB ab ah) (fa (fb aa) (fb ac))); have an := ar w.heap.size (ok' := fun k_ => ((P0_1_ k_ ∨ P0_2_ k_) ∨ w.heap.size ≤ k_) ∧ k_ ≠ ag ∧ k_ ≠ af) aO (fa (fz2 HB ab ah) (fa (fb aa) (fb ac))); replace aa := kb aa hb; replace ac := kb ac hb; replace HB := be2 HB ab ah hb; (try clear hb); (try clear aN); (try clear aO); obtain ⟨aC, aD, aE, aF, aG, aH⟩ := bz ac; obtain ⟨aS, aT, aU⟩ := Kd.V_slice al.out; subst aU; obtain ⟨aI, aJ, aK⟩ := Kd.V_slice an.out; subst aK))
 refine bodyPost_ret (results_cell_row rfl _ _ af 67 #[.bool ao, .slice aS ap.length aT, .slice aI aq.length aJ] (0, 0) _ rfl (kp ac.out) Try.underlying67 rfl (by kernel_rfl)) rfl ?_
 exact ⟨_, _, by first | rfl | (simp [errW_none, errW_some] <;> rfl) | (simp [*, errW_none, errW_some] <;> rfl), by exact vf al.out, by exact vf an.out, by repeat (first | (with_reducible first | exact HB.out | apply below_alloc | apply pw_below_drewN | apply below_drew1 | refine below_set ?_ ab.out | refine below_set ?_ ah.out) | exact HB.out)⟩
def rational_Sub.f (k : Nat) (a0_0 : Bool) (l0_1 : List Int) (l0_2 : List Int) (a1_0 : Bool) (l1_1 : List Int) (l1_2 : List Int) : Option (Bool × List Int × List Int) := (rational_Trim.f k a0_0 l0_1 l0_2).bind fun bt2022 => ((rational_Neg.f k a1_0 l1_1 l1_2).bind fun bt2029 => ((rational_plus.f k bt2022.1 bt2022.2.1 bt2022.2.2 bt2029.1 bt2029.2.1 bt2029.2.2).bind fun bt2036 => (some (bt2036.1, bt2036.2.1, bt2036.2.2))))
theorem rational_Sub.calls (k : Nat) (a0_0 : Bool) (P0_1_ : Nat → Prop) (A0_1 : Option Addr) (c0_1 : Nat) (l0_1 : List Int) (P0_2_ : Nat → Prop) (A0_2 : Option Addr) (c0_2 : Nat) (l0_2 : List Int) (a1_0 : Bool) (P1_1_ : Nat → Prop) (A1_1 : Option Addr) (c1_1 : Nat) (l1_1 : List Int) (P1_2_ : Nat → Prop) (A1_2 : Option Addr) (c1_2 : Nat) (l1_2 : List Int) (r1 : Bool) (r2 : List Int) (r3 : List Int) (w : World) (hs0_1 : Kd.V (Kd.int .u32) 48 w w.heap.size (fun k_ => P0_1_ k_) (.slice A0_1 l0_1.length c0_1) l0_1) (hs0_2 : Kd.V (Kd.int .u32) 48 w w.heap.size (fun k_ => P0_2_ k_) (.slice A0_2 l0_2.length c0_2) l0_2) (hs1_1 : Kd.V (Kd.int .u32) 48 w w.heap.size (fun k_ => P1_1_ k_) (.slice A1_1 l1_1.length c1_1) l1_1) (hs1_2 : Kd.V (Kd.int .u32) 48 w w.heap.size (fun k_ => P1_2_ k_) (.slice A1_2 l1_2.length c1_2) l1_2) (h : rational_Sub.f k a0_0 l0_1 l0_2 a1_0 l1_1 l1_2 = some (r1, r2, r3)) :
 Calls Try.prog 105 #[.agg #[.bool a0_0, .slice A0_1 l0_1.length c0_1, .slice A0_2 l0_2.length c0_2], .agg #[.bool a1_0, .slice A1_1 l1_1.length c1_1, .slice A1_2 l1_2.length c1_2]] w fun e w' => ∃ v1_ v2_ : Value, e = .returned (.agg #[.bool r1, v1_, v2_]) ∧ Kd.V (Kd.int .u32) 48 w' w.heap.size (fun k_ => ((P0_1_ k_ ∨ P0_2_ k_ ∨ P1_1_ k_ ∨ P1_2_ k_) ∨ w.heap.size ≤ k_)) v1_ r2 ∧ Kd.V (Kd.int .u32) 48 w' w.heap.size (fun k_ => ((P0_1_ k_ ∨ P0_2_ k_ ∨ P1_1_ k_ ∨ P1_2_ k_) ∨ w.heap.size ≤ k_)) v2_ r3 ∧ Below w.heap.size w w' := by
 have bl := Try.underlying67
 have ak := am (show Kd.V (Kd.int .u32) 48 w w.heap.size (fun k_ => ((P0_1_ k_ ∨ P0_2_ k_ ∨ P1_1_ k_ ∨ P1_2_ k_) ∨ w.heap.size ≤ k_)) (.slice A0_1 l0_1.length c0_1) l0_1 from Kd.V_mono hs0_1 (fun k_ hk => .inl (.inl hk)))
 have al := am (show Kd.V (Kd.int .u32) 48 w w.heap.size (fun k_ => ((P0_1_ k_ ∨ P0_2_ k_ ∨ P1_1_ k_ ∨ P1_2_ k_) ∨ w.heap.size ≤ k_)) (.slice A0_2 l0_2.length c0_2) l0_2 from Kd.V_mono hs0_2 (fun k_ hk => .inl (.inr (.inl hk))))
 have an := am (show Kd.V (Kd.int .u32) 48 w w.heap.size (fun k_ => ((P0_1_ k_ ∨ P0_2_ k_ ∨ P1_1_ k_ ∨ P1_2_ k_) ∨ w.heap.size ≤ k_)) (.slice A1_1 l1_1.length c1_1) l1_1 from Kd.V_mono hs1_1 (fun k_ hk => .inl (.inr (.inr (.inl hk)))))
 have ao := am (show Kd.V (Kd.int .u32) 48 w w.heap.size (fun k_ => ((P0_1_ k_ ∨ P0_2_ k_ ∨ P1_1_ k_ ∨ P1_2_ k_) ∨ w.heap.size ≤ k_)) (.slice A1_2 l1_2.length c1_2) l1_2 from Kd.V_mono hs1_2 (fun k_ hk => .inl (.inr (.inr (.inr hk)))))
 have HB := am (Below.refl w.heap.size w)
 have H : ((rational_Trim.f k a0_0 l0_1 l0_2).bind fun az => ((rational_Neg.f k a1_0 l1_1 l1_2).bind fun aA => ((rational_plus.f k az.1 az.2.1 az.2.2 aA.1 aA.2.1 aA.2.2).bind fun aB => (some (aB.1, aB.2.1, aB.2.2))))) = some (r1, r2, r3) := h
 clear h
 obtain ⟨⟨aC, aD, aE⟩, A3, H⟩ := bs H
 (try dsimp -simprocs only at H)
 obtain ⟨⟨aF, aG, aH⟩, A4, H⟩ := bs H
 (try dsimp -simprocs only at H)
 obtain ⟨⟨aK, aL, aM⟩, A5, H⟩ := bs H
 (try dsimp -simprocs only at H)
 simp only [Option.some.injEq, Prod.mk.injEq] at H
 obtain ⟨rfl, rfl, rfl⟩ := H
 go_enter Try.func105, Try.ntmps105
 try go_wp2_with (first | ((with_reducible refine gate_dst (N := 2) rfl ?_); refine box_event ?hg (N := 2) ?hd (cs := #[.bool a0_0, .slice A0_1 l0_1.length c0_1, .slice A0_2 l0_2.length c0_2]) (t := 67) ?hr ?_; (case hd => rfl); (case hg => rfl); (case hr => first | (go_simp; done) | (go_simp; rfl)); intro ag hg w6 hbox hb; replace ak := ke ak hg hb; replace al := ke al hg hb; replace an := ke an hg hb; replace ao := ke ao hg hb; have ab := am (hbox); have aX := ng hg (bu HB.out); have ai := ng hg (bu HB.out); replace HB := be HB hb; clear hb hbox hg) | ((with_reducible refine gate_dst (N := 3) rfl ?_); refine box_event ?hg (N := 3) ?hd (cs := #[.bool a1_0, .slice A1_1 l1_1.length c1_1, .slice A1_2 l1_2.length c1_2]) (t := 67) ?hr ?_; (case hd => rfl); (case hg => rfl); (case hr => first | (go_simp; done) | (go_simp; rfl)); intro ah hg w7 hbox hb; replace ak := ke ak hg hb; replace al := ke al hg hb; replace an := ke an hg hb; replace ao := ke ao hg hb; have ac := am (hbox); have aY := ng hg (bu1 HB.out ai.out); have aj := ng hg (bu1 HB.out ai.out); replace HB := be1 HB ai hb; have aN := nl hg ab; have aO := nr hg ab; replace ab := kb ab hb; clear hb hbox hg) | ((with_reducible refine gate_dst (N := 4) rfl ?_); refine box_event ?hg (N := 4) ?hd (cs := #[.bool false, .slice none 0 0, .slice none 0 0]) (t := 67) ?hr ?_; (case hd => rfl); (case hg => rfl); (case hr => first | (go_simp; done) | (go_simp; rfl)); intro aa hg w8 hbox hb; replace ak := ke ak hg hb; replace al := ke al hg hb; replace an := ke an hg hb; replace ao := ke ao hg hb; have af := am (hbox); have aZ := ng hg (bu2 HB.out ai.out aj.out); have ap := ng hg (bu2 HB.out ai.out aj.out); replace HB := be2 HB ai aj hb; have ad := nl hg ab; have aq := nr hg ab; replace ab := kb ab hb; have ae := nl hg ac; have au := nr hg ac; replace ac := kb ac hb; clear hb hbox hg))
 replace ak := am (Kd.V_drew ak.out)
 replace al := am (Kd.V_drew al.out)
 replace an := am (Kd.V_drew an.out)
 replace ao := am (Kd.V_drew ao.out)
 replace ab := am (blk_drew ab.out)
 replace ac := am (blk_drew ac.out)
 replace af := am (blk_drew af.out)
 replace HB := am (below_drew1 HB.out)
 refine start_ (n := 6) (S := fun w' => w'.cell? ⟨ag, 0, none⟩ = some (.bool a0_0) ∧ w'.cell? ⟨ag, 1, none⟩ = some (.slice A0_1 l0_1.length c0_1) ∧ w'.cell? ⟨ag, 2, none⟩ = some (.slice A0_2 l0_2.length c0_2) ∧ w'.cell? ⟨ah, 0, none⟩ = some (.bool a1_0) ∧ w'.cell? ⟨ah, 1, none⟩ = some (.slice A1_1 l1_1.length c1_1) ∧ w'.cell? ⟨ah, 2, none⟩ = some (.slice A1_2 l1_2.length c1_2)) (ds := []) #[false, false, false, false, false, false] (by kernel_rfl) rfl rfl ⟨bc ab 0, bc ab 1, bc ab 2, bc ac 0, bc ac 1, bc ac 2⟩ (fun hHeld => ?_)
 generalize w8.drew = w9 at ak al an ao ab ac af HB hHeld ⊢
 refine take_ (i := 0) (N := some 5) (v := ?_) (a' := ?_) #[true, false, false, false, false, false] rfl rfl (by kernel_rfl) (fun _ _ _ h => h) (Or.inl ⟨by rfl, ?_⟩) hHeld ?_ ?_
 rotate_left
 ·
  rintro w' ⟨s0, s1, s2, s3, s4, s5⟩
  go_simp
  with_reducible rfl
 rotate_left
 ·
  simp only [Act.put, List.setIfInBounds_toArray, List.set_cons_zero, List.set_cons_succ, i64_w, i32_w]
  rfl
 refine take_ (i := 2) (N := some 7) (v := ?_) (a' := ?_) #[true, false, true, false, false, false] rfl rfl (by kernel_rfl) (fun _ _ _ h => h) (Or.inl ⟨by rfl, ?_⟩) hHeld ?_ ?_
 rotate_left
 ·
  rintro w' ⟨s0, s1, s2, s3, s4, s5⟩
  go_simp
  with_reducible rfl
 rotate_left
 ·
  simp only [Act.put, List.setIfInBounds_toArray, List.set_cons_zero, List.set_cons_succ, i64_w, i32_w]
  rfl
 refine one_ (i := 1) (N := some 6) #[true, true, true, false, false, false] rfl rfl (by kernel_rfl) (by decide) (fun K hK => ?_)
 refine goes_ Try.func87 (by kernel_rfl) rfl #[.agg #[.bool a0_0, .slice A0_1 l0_1.length c0_1, .slice A0_2 l0_2.length c0_2]] (by rfl) rfl rfl lu ?_
 with_reducible refine (rational_Trim.calls k a0_0 (fun k_ => (((((P0_1_ k_ ∨ P0_2_ k_ ∨ P1_1_ k_ ∨ P1_2_ k_) ∨ w.heap.size ≤ k_) ∧ k_ ≠ ag) ∧ k_ ≠ ah) ∧ k_ ≠ aa)) _ _ l0_1 (fun k_ => (((((P0_1_ k_ ∨ P0_2_ k_ ∨ P1_1_ k_ ∨ P1_2_ k_) ∨ w.heap.size ≤ k_) ∧ k_ ≠ ag) ∧ k_ ≠ ah) ∧ k_ ≠ aa)) _ _ l0_2 aC aD aE _ ?side1 ?side2 A3.out).mono ?_
 (case side1 => exact vz ak.out)
 (case side2 => exact vz al.out)
 rintro e bm ⟨bf, bg, rfl, aP, aQ, hb⟩
 refine ⟨_, rfl, ?_⟩
 replace ak := kv ak hb
 replace al := kv al hb
 replace an := kv an hb
 replace ao := kv ao hb
 have av := ar w.heap.size (ok' := fun k_ => ((P0_1_ k_ ∨ P0_2_ k_ ∨ P1_1_ k_ ∨ P1_2_ k_) ∨ w.heap.size ≤ k_) ∧ k_ ≠ ag ∧ k_ ≠ ah ∧ k_ ≠ aa) aP (fa (fz3 HB ai aj ap) (fa (fb ab) (fa (fb ac) (fb af))))
 have aw := ar w.heap.size (ok' := fun k_ => ((P0_1_ k_ ∨ P0_2_ k_ ∨ P1_1_ k_ ∨ P1_2_ k_) ∨ w.heap.size ≤ k_) ∧ k_ ≠ ag ∧ k_ ≠ ah ∧ k_ ≠ aa) aQ (fa (fz3 HB ai aj ap) (fa (fb ab) (fa (fb ac) (fb af))))
 replace ab := kb ab hb
 replace ac := kb ac hb
 replace af := kb af hb
 replace HB := be3 HB ai aj ap hb
 (try clear hb)
 (try clear hb2)
 (try clear hk)
 (try clear hi)
 (try clear aP)
 (try clear aQ)
 refine hK.out _ _ ⟨bc ab 0, bc ab 1, bc ab 2, bc ac 0, bc ac 1, bc ac 2⟩ (fun hHeld => ?_)
 clear hK K
 refine nq 6 ?_
 refine one_ (i := 3) (N := some 8) #[true, true, true, true, false, false] rfl rfl (by kernel_rfl) (by decide) (fun K hK => ?_)
 refine goes_ Try.func92 (by kernel_rfl) rfl #[.agg #[.bool a1_0, .slice A1_1 l1_1.length c1_1, .slice A1_2 l1_2.length c1_2]] (by rfl) rfl rfl lu ?_
 with_reducible refine (rational_Neg.calls k a1_0 (fun k_ => (((((P0_1_ k_ ∨ P0_2_ k_ ∨ P1_1_ k_ ∨ P1_2_ k_) ∨ w.heap.size ≤ k_) ∧ k_ ≠ ag) ∧ k_ ≠ ah) ∧ k_ ≠ aa)) _ _ l1_1 (fun k_ => (((((P0_1_ k_ ∨ P0_2_ k_ ∨ P1_1_ k_ ∨ P1_2_ k_) ∨ w.heap.size ≤ k_) ∧ k_ ≠ ag) ∧ k_ ≠ ah) ∧ k_ ≠ aa)) _ _ l1_2 aF aG aH _ ?side1 ?side2 A4.out).mono ?_
 (case side1 => exact vz an.out)
 (case side2 => exact vz ao.out)
 rintro e bn ⟨bh, bi, rfl, aP, aQ, hb⟩
 refine ⟨_, rfl, ?_⟩
 replace ak := kv ak hb
 replace al := kv al hb
 replace an := kv an hb
 replace ao := kv ao hb
 replace av := kv av hb
 replace aw := kv aw hb
 have ax := ar w.heap.size (ok' := fun k_ => ((P0_1_ k_ ∨ P0_2_ k_ ∨ P1_1_ k_ ∨ P1_2_ k_) ∨ w.heap.size ≤ k_) ∧ k_ ≠ ag ∧ k_ ≠ ah ∧ k_ ≠ aa) aP (fa (fz3 HB ai aj ap) (fa (fb ab) (fa (fb ac) (fb af))))
 have ay := ar w.heap.size (ok' := fun k_ => ((P0_1_ k_ ∨ P0_2_ k_ ∨ P1_1_ k_ ∨ P1_2_ k_) ∨ w.heap.size ≤ k_) ∧ k_ ≠ ag ∧ k_ ≠ ah ∧ k_ ≠ aa) aQ (fa (fz3 HB ai aj ap) (fa (fb ab) (fa (fb ac) (fb af))))
 replace ab := kb ab hb
 replace ac := kb ac hb
 replace af := kb af hb
 replace HB := be3 HB ai aj ap hb
 (try clear hb)
 (try clear hb2)
 (try clear hk)
 (try clear hi)
 (try clear aP)
 (try clear aQ)
 obtain ⟨a0, a1, aR⟩ := Kd.V_slice av.out
 (first | subst aR | (injection aR with f1_ f2_ f3_; have f4_ := f1_.symm; have f5_ := f3_.symm; clear f1_ f2_ f3_; subst f4_; subst f5_))
 obtain ⟨a2, a3, aS⟩ := Kd.V_slice aw.out
 (first | subst aS | (injection aS with f1_ f2_ f3_; have f4_ := f1_.symm; have f5_ := f3_.symm; clear f1_ f2_ f3_; subst f4_; subst f5_))
 obtain ⟨a4, a5, aT⟩ := Kd.V_slice ax.out
 (first | subst aT | (injection aT with f1_ f2_ f3_; have f4_ := f1_.symm; have f5_ := f3_.symm; clear f1_ f2_ f3_; subst f4_; subst f5_))
 obtain ⟨a6, a7, aU⟩ := Kd.V_slice ay.out
 (first | subst aU | (injection aU with f1_ f2_ f3_; have f4_ := f1_.symm; have f5_ := f3_.symm; clear f1_ f2_ f3_; subst f4_; subst f5_))
 refine hK.out _ _ ⟨bc ab 0, bc ab 1, bc ab 2, bc ac 0, bc ac 1, bc ac 2⟩ (fun hHeld => ?_)
 clear hK K
 refine nq 8 ?_
 refine one_ (i := 4) (N := some 9) #[true, true, true, true, true, false] rfl rfl (by kernel_rfl) (by decide) (fun K hK => ?_)
 refine goes_ Try.func165 (by kernel_rfl) rfl #[.agg #[.bool aC, .slice a0 aD.length a1, .slice a2 aE.length a3], .agg #[.bool aF, .slice a4 aG.length a5, .slice a6 aH.length a7]] (by rfl) rfl rfl lu ?_
 with_reducible refine (rational_plus.calls k aC (fun k_ => (((P0_1_ k_ ∨ P0_2_ k_ ∨ P1_1_ k_ ∨ P1_2_ k_) ∨ w.heap.size ≤ k_) ∧ (k_ ≠ ag ∧ (k_ ≠ ah ∧ k_ ≠ aa)))) _ _ aD (fun k_ => (((P0_1_ k_ ∨ P0_2_ k_ ∨ P1_1_ k_ ∨ P1_2_ k_) ∨ w.heap.size ≤ k_) ∧ (k_ ≠ ag ∧ (k_ ≠ ah ∧ k_ ≠ aa)))) _ _ aE aF (fun k_ => (((P0_1_ k_ ∨ P0_2_ k_ ∨ P1_1_ k_ ∨ P1_2_ k_) ∨ w.heap.size ≤ k_) ∧ (k_ ≠ ag ∧ (k_ ≠ ah ∧ k_ ≠ aa)))) _ _ aG (fun k_ => (((P0_1_ k_ ∨ P0_2_ k_ ∨ P1_1_ k_ ∨ P1_2_ k_) ∨ w.heap.size ≤ k_) ∧ (k_ ≠ ag ∧ (k_ ≠ ah ∧ k_ ≠ aa)))) _ _ aH aK aL aM _ ?side1 ?side2 ?side3 ?side4 A5.out).mono ?_
 (case side1 => exact vz av.out)
 (case side2 => exact vz aw.out)
 (case side3 => exact vz ax.out)
 (case side4 => exact vz ay.out)
 rintro e a8 ⟨bj, bk, rfl, aP, aQ, hb⟩
 refine ⟨_, rfl, ?_⟩
 replace ak := kv ak hb
 replace al := kv al hb
 replace an := kv an hb
 replace ao := kv ao hb
 replace av := kv av hb
 replace aw := kv aw hb
 replace ax := kv ax hb
 replace ay := kv ay hb
 have aI := ar w.heap.size (ok' := fun k_ => ((P0_1_ k_ ∨ P0_2_ k_ ∨ P1_1_ k_ ∨ P1_2_ k_) ∨ w.heap.size ≤ k_) ∧ k_ ≠ ag ∧ k_ ≠ ah ∧ k_ ≠ aa) aP (fa (fz3 HB ai aj ap) (fa (fb ab) (fa (fb ac) (fb af))))
 have aJ := ar w.heap.size (ok' := fun k_ => ((P0_1_ k_ ∨ P0_2_ k_ ∨ P1_1_ k_ ∨ P1_2_ k_) ∨ w.heap.size ≤ k_) ∧ k_ ≠ ag ∧ k_ ≠ ah ∧ k_ ≠ aa) aQ (fa (fz3 HB ai aj ap) (fa (fb ab) (fa (fb ac) (fb af))))
 replace ab := kb ab hb
 replace ac := kb ac hb
 replace af := kb af hb
 replace HB := be3 HB ai aj ap hb
 (try clear hb)
 (try clear hb2)
 (try clear hk)
 (try clear hi)
 (try clear aP)
 (try clear aQ)
 obtain ⟨a9, ba, aV⟩ := Kd.V_slice aI.out
 (first | subst aV | (injection aV with f1_ f2_ f3_; have f4_ := f1_.symm; have f5_ := f3_.symm; clear f1_ f2_ f3_; subst f4_; subst f5_))
 obtain ⟨bb, bd, aW⟩ := Kd.V_slice aJ.out
 (first | subst aW | (injection aW with f1_ f2_ f3_; have f4_ := f1_.symm; have f5_ := f3_.symm; clear f1_ f2_ f3_; subst f4_; subst f5_))
 refine hK.out _ _ ⟨bc ab 0, bc ab 1, bc ab 2, bc ac 0, bc ac 1, bc ac 2⟩ (fun hHeld => ?_)
 clear hK K
 refine nq 9 ?_
 refine one_ (i := 5) (N := none) #[true, true, true, true, true, true] rfl rfl (by kernel_rfl) (by decide) (fun K hK => ?_)
 have hs17 : a8.cell? ⟨aa, 0, none⟩ = some (.bool false) := bc af 0
 have hfs17 := blk_frozen af.out 0
 have hns17_0 := ad.out
 have hns17_1 := ae.out
 have hms17_0 := aq.out
 have hms17_1 := au.out
 have hs19 : a8.cell? ⟨aa, 1, none⟩ = some (.slice none 0 0) := bc af 1
 have hfs19 := blk_frozen af.out 1
 have hns19_0 := ad.out
 have hns19_1 := ae.out
 have hms19_0 := aq.out
 have hms19_1 := au.out
 have hs21 : a8.cell? ⟨aa, 2, none⟩ = some (.slice none 0 0) := bc af 2
 have hfs21 := blk_frozen af.out 2
 have hns21_0 := ad.out
 have hns21_1 := ae.out
 have hms21_0 := aq.out
 have hms21_1 := au.out
 refine skip_ (w1 := ?_) (by rfl) rfl ?_ ?_
 rotate_left
 ·
  go_simp
  rfl
 refine hK.out _ _ ⟨((cell_far (p := ⟨aa, _, none⟩) ad.out _).trans (((cell_far (p := ⟨aa, _, none⟩) ad.out _).trans (((cell_far (p := ⟨aa, _, none⟩) ad.out _).trans (hHeld.1)))))), ((cell_far (p := ⟨aa, _, none⟩) ad.out _).trans (((cell_far (p := ⟨aa, _, none⟩) ad.out _).trans (((cell_far (p := ⟨aa, _, none⟩) ad.out _).trans (hHeld.2.1)))))), ((cell_far (p := ⟨aa, _, none⟩) ad.out _).trans (((cell_far (p := ⟨aa, _, none⟩) ad.out _).trans (((cell_far (p := ⟨aa, _, none⟩) ad.out _).trans (hHeld.2.2.1)))))), ((cell_far (p := ⟨aa, _, none⟩) ae.out _).trans (((cell_far (p := ⟨aa, _, none⟩) ae.out _).trans (((cell_far (p := ⟨aa, _, none⟩) ae.out _).trans (hHeld.2.2.2.1)))))), ((cell_far (p := ⟨aa, _, none⟩) ae.out _).trans (((cell_far (p := ⟨aa, _, none⟩) ae.out _).trans (((cell_far (p := ⟨aa, _, none⟩) ae.out _).trans (hHeld.2.2.2.2.1)))))), ((cell_far (p := ⟨aa, _, none⟩) ae.out _).trans (((cell_far (p := ⟨aa, _, none⟩) ae.out _).trans (((cell_far (p := ⟨aa, _, none⟩) ae.out _).trans (hHeld.2.2.2.2.2))))))⟩ (fun hHeld => ?_)
 clear hK K
 refine done_ (by kernel_rfl) ?_
 try go_wp2
 refine bodyPost_ret (results_cell_row rfl _ _ aa 67 #[.bool aK, .slice a9 aL.length ba, .slice bb aM.length bd] (0, 0) _ rfl (kp af.out) Try.underlying67 rfl (by kernel_rfl)) rfl ?_
 exact ⟨_, _, by first | rfl | (simp [errW_none, errW_some] <;> rfl) | (simp [*, errW_none, errW_some] <;> rfl), by exact vf aI.out, by exact vf aJ.out, by repeat (first | (with_reducible first | exact HB.out | apply below_alloc | apply pw_below_drewN | apply below_drew1 | refine below_set ?_ ai.out | refine below_set ?_ aj.out | refine below_set ?_ ap.out) | exact HB.out)⟩
def rational_Cmp.f (k : Nat) (a0_0 : Bool) (l0_1 : List Int) (l0_2 : List Int) (a1_0 : Bool) (l1_1 : List Int) (l1_2 : List Int) : Option (Int) := (rational_Sub.f k a0_0 l0_1 l0_2 a1_0 l1_1 l1_2).bind fun bt2045 => ((rational_Sign.f k bt2045.1 bt2045.2.1 bt2045.2.2).bind fun t2052 => (some t2052))
theorem rational_Cmp.calls (k : Nat) (a0_0 : Bool) (A0_1 : Option Addr) (c0_1 : Nat) (l0_1 : List Int) (A0_2 : Option Addr) (c0_2 : Nat) (l0_2 : List Int) (a1_0 : Bool) (A1_1 : Option Addr) (c1_1 : Nat) (l1_1 : List Int) (A1_2 : Option Addr) (c1_2 : Nat) (l1_2 : List Int) (r : Int) (w : World) (hr0_1 : Kd.C (Kd.int .u32) w A0_1 l0_1.length l0_1) (hc0_1 : l0_1.length ≤ c0_1) (hr0_2 : Kd.C (Kd.int .u32) w A0_2 l0_2.length l0_2) (hc0_2 : l0_2.length ≤ c0_2) (hr1_1 : Kd.C (Kd.int .u32) w A1_1 l1_1.length l1_1) (hc1_1 : l1_1.length ≤ c1_1) (hr1_2 : Kd.C (Kd.int .u32) w A1_2 l1_2.length l1_2) (hc1_2 : l1_2.length ≤ c1_2) (h : rational_Cmp.f k a0_0 l0_1 l0_2 a1_0 l1_1 l1_2 = some r) :
 Calls Try.prog 104 #[.agg #[.bool a0_0, .slice A0_1 l0_1.length c0_1, .slice A0_2 l0_2.length c0_2], .agg #[.bool a1_0, .slice A1_1 l1_1.length c1_1, .slice A1_2 l1_2.length c1_2]] w fun e w' => e = .returned (.int .i64 r) ∧ Below w.heap.size w w' := by
 have aZ := Try.underlying67
 have av := am hr0_1
 have aw := am hc0_1
 clear hr0_1 hc0_1
 have ax := am hr0_2
 have ay := am hc0_2
 clear hr0_2 hc0_2
 have az := am hr1_1
 have aA := am hc1_1
 clear hr1_1 hc1_1
 have aB := am hr1_2
 have aC := am hc1_2
 clear hr1_2 hc1_2
 have HB := am (Below.refl w.heap.size w)
 have H : ((rational_Sub.f k a0_0 l0_1 l0_2 a1_0 l1_1 l1_2).bind fun an => ((rational_Sign.f k an.1 an.2.1 an.2.2).bind fun ao => (some ao))) = some r := h
 clear h
 obtain ⟨⟨ap, aq, au⟩, A3, H⟩ := bs H
 (try dsimp -simprocs only at H)
 obtain ⟨ao, A4, H⟩ := bs H
 replace H : (some ao) = some r := H
 obtain rfl := Option.some.inj H
 go_enter Try.func104, Try.ntmps104
 go_wp2_with (first | ((with_reducible refine gate_dst (N := 2) rfl ?_); refine box_event ?hg (N := 2) ?hd (cs := #[.bool a0_0, .slice A0_1 l0_1.length c0_1, .slice A0_2 l0_2.length c0_2]) (t := 67) ?hr ?_; (case hd => rfl); (case hg => rfl); (case hr => first | (go_simp; done) | (go_simp; rfl)); intro ai hg w5 hbox hb; have ab := am (hbox); have ad := ng hg (bu HB.out); have aa := ng hg (bu HB.out); replace HB := be HB hb; clear hb hbox hg) | ((with_reducible refine gate_dst (N := 3) rfl ?_); refine box_event ?hg (N := 3) ?hd (cs := #[.bool a1_0, .slice A1_1 l1_1.length c1_1, .slice A1_2 l1_2.length c1_2]) (t := 67) ?hr ?_; (case hd => rfl); (case hg => rfl); (case hr => first | (go_simp; done) | (go_simp; rfl)); intro aj hg w6 hbox hb; have af := am (hbox); have ae := ng hg (bu1 HB.out aa.out); have ac := ng hg (bu1 HB.out aa.out); replace HB := be1 HB aa hb; have ak := nl hg ab; have al := nr hg ab; replace ab := kb ab hb; clear hb hbox hg; have a0 := ak.out; have a1 := al.out; obtain ⟨aD, aE, aF, aG, aH, aI⟩ := bz ab; obtain ⟨aJ, aK, aL, aM, aN, aO⟩ := bz af) | ((with_reducible refine gate_callee (f := 105) rfl ?_); refine goesL_ (some 7) rfl rfl Try.func105 (by kernel_rfl) rfl #[.agg #[.bool a0_0, .slice A0_1 l0_1.length c0_1, .slice A0_2 l0_2.length c0_2], .agg #[.bool a1_0, .slice A1_1 l1_1.length c1_1, .slice A1_2 l1_2.length c1_2]] rfl lu ?_; (with_reducible refine (rational_Sub.calls k a0_0 (fun k_ => k_ < w.heap.size) _ _ l0_1 (fun k_ => k_ < w.heap.size) _ _ l0_2 a1_0 (fun k_ => k_ < w.heap.size) _ _ l1_1 (fun k_ => k_ < w.heap.size) _ _ l1_2 ap aq au _ ?side1 ?side2 ?side3 ?side4 A3.out).mono ?_); (case side1 => exact Kd.V_mk aw.out (Kd.F_below (Kd.C_F (Kd.heap_int .u32) av.out) (bu2 HB.out aa.out ac.out))); (case side2 => exact Kd.V_mk ay.out (Kd.F_below (Kd.C_F (Kd.heap_int .u32) ax.out) (bu2 HB.out aa.out ac.out))); (case side3 => exact Kd.V_mk aA.out (Kd.F_below (Kd.C_F (Kd.heap_int .u32) az.out) (bu2 HB.out aa.out ac.out))); (case side4 => exact Kd.V_mk aC.out (Kd.F_below (Kd.C_F (Kd.heap_int .u32) aB.out) (bu2 HB.out aa.out ac.out))); rintro e a2 ⟨aV, aW, rfl, aX, aY, hb⟩; refine ⟨_, rfl, ?_⟩; have ag := am (Kd.V_lower (Kd.V_mono (ok' := fun k_ => k_ ≠ ai ∧ k_ ≠ aj) aX (fun k_ hk_ => ⟨Or.elim hk_ (fun hs_ => Or.elim hs_ (fun hs_ => fun e_ => Nat.not_le.2 hs_ (by rw [e_]; exact ad.out)) (fun hs_ => Or.elim hs_ (fun hs_ => fun e_ => Nat.not_le.2 hs_ (by rw [e_]; exact ad.out)) (fun hs_ => Or.elim hs_ (fun hs_ => fun e_ => Nat.not_le.2 hs_ (by rw [e_]; exact ad.out)) (fun hs_ => fun e_ => Nat.not_le.2 hs_ (by rw [e_]; exact ad.out))))) (fun hn_ => (Kd.freshB (g := ai) (o := .cells #[.bool a0_0, .slice A0_1 l0_1.length c0_1, .slice A0_2 l0_2.length c0_2] 67 (0, 0)) (ku ab.out) k_ hn_)), Or.elim hk_ (fun hs_ => Or.elim hs_ (fun hs_ => fun e_ => Nat.not_le.2 hs_ (by rw [e_]; exact ae.out)) (fun hs_ => Or.elim hs_ (fun hs_ => fun e_ => Nat.not_le.2 hs_ (by rw [e_]; exact ae.out)) (fun hs_ => Or.elim hs_ (fun hs_ => fun e_ => Nat.not_le.2 hs_ (by rw [e_]; exact ae.out)) (fun hs_ => fun e_ => Nat.not_le.2 hs_ (by rw [e_]; exact ae.out))))) (fun hn_ => (Kd.freshB (g := aj) (o := .cells #[.bool a1_0, .slice A1_1 l1_1.length c1_1, .slice A1_2 l1_2.length c1_2] 67 (0, 0)) (ku af.out) k_ hn_))⟩)) (below_size (bu2 HB.out aa.out ac.out))); have ah := am (Kd.V_lower (Kd.V_mono (ok' := fun k_ => k_ ≠ ai ∧ k_ ≠ aj) aY (fun k_ hk_ => ⟨Or.elim hk_ (fun hs_ => Or.elim hs_ (fun hs_ => fun e_ => Nat.not_le.2 hs_ (by rw [e_]; exact ad.out)) (fun hs_ => Or.elim hs_ (fun hs_ => fun e_ => Nat.not_le.2 hs_ (by rw [e_]; exact ad.out)) (fun hs_ => Or.elim hs_ (fun hs_ => fun e_ => Nat.not_le.2 hs_ (by rw [e_]; exact ad.out)) (fun hs_ => fun e_ => Nat.not_le.2 hs_ (by rw [e_]; exact ad.out))))) (fun hn_ => (Kd.freshB (g := ai) (o := .cells #[.bool a0_0, .slice A0_1 l0_1.length c0_1, .slice A0_2 l0_2.length c0_2] 67 (0, 0)) (ku ab.out) k_ hn_)), Or.elim hk_ (fun hs_ => Or.elim hs_ (fun hs_ => fun e_ => Nat.not_le.2 hs_ (by rw [e_]; exact ae.out)) (fun hs_ => Or.elim hs_ (fun hs_ => fun e_ => Nat.not_le.2 hs_ (by rw [e_]; exact ae.out)) (fun hs_ => Or.elim hs_ (fun hs_ => fun e_ => Nat.not_le.2 hs_ (by rw [e_]; exact ae.out)) (fun hs_ => fun e_ => Nat.not_le.2 hs_ (by rw [e_]; exact ae.out))))) (fun hn_ => (Kd.freshB (g := aj) (o := .cells #[.bool a1_0, .slice A1_1 l1_1.length c1_1, .slice A1_2 l1_2.length c1_2] 67 (0, 0)) (ku af.out) k_ hn_))⟩)) (below_size (bu2 HB.out aa.out ac.out))); replace ab := kb ab hb; replace af := kb af hb; replace HB := be2 HB aa ac hb; (try clear hb); (try clear aX); (try clear aY); obtain ⟨aP, aQ, aR⟩ := Kd.V_slice ag.out; subst aR; obtain ⟨aS, aT, aU⟩ := Kd.V_slice ah.out; subst aU) | ((with_reducible refine gate_callee (f := 91) rfl ?_); refine goesL_ (some 8) rfl rfl Try.func91 (by kernel_rfl) rfl #[.agg #[.bool ap, .slice aP aq.length aQ, .slice aS au.length aT]] rfl lu ?_; (with_reducible refine (rational_Sign.calls k ap _ _ aq _ _ au ao _ ?side1 ?side2 ?side3 ?side4 A4.out).mono ?_); (case side1 => exact cu (Kd.V_reads' ag.out).2.2); (case side2 => exact (Kd.V_reads' ag.out).2.1); (case side3 => exact cu (Kd.V_reads' ah.out).2.2); (case side4 => exact (Kd.V_reads' ah.out).2.1); rintro e a3 ⟨rfl, hb⟩; refine ⟨_, rfl, ?_⟩; replace ag := kv ag hb; replace ah := kv ah hb; replace ab := kb ab hb; replace af := kb af hb; replace HB := be2 HB aa ac hb; (try clear hb)))
 go_ret
 exact ⟨by first | rfl | (simp [errW_none, errW_some] <;> rfl) | (simp [*, errW_none, errW_some] <;> rfl), by repeat (first | (with_reducible first | exact HB.out | apply below_alloc | apply pw_below_drewN | apply below_drew1 | refine below_set ?_ aa.out | refine below_set ?_ ac.out) | exact HB.out)⟩
def rational_Floor.j0 : Nat → List Int → Bool → Bool → List Int → List Int → Option (Bool × List Int × List Int)
 | 0, _, _, _, _, _ => none
 | k + 1, x3, x23, x2437000, x2437001, x2437002 => if x23 = true then ((rational_one.f).bind fun t2453 => ((nat_Add.f k (([x3, t2453] : List (List Int)))).bind fun t2459 => ((rational_one.f).bind fun t2462 => ((rational_canonical.f k x2437000 t2459 t2462).bind fun bt2465 => (some (bt2465.1, bt2465.2.1, bt2465.2.2)))))) else ((rational_one.f).bind fun t2472 => ((rational_canonical.f k x2437000 x3 t2472).bind fun bt2475 => (some (bt2475.1, bt2475.2.1, bt2475.2.2))))
def rational_Floor.f (k : Nat) (a0_0 : Bool) (l0_1 : List Int) (l0_2 : List Int) : Option (Bool × List Int × List Int) := (rational_Trim.f k a0_0 l0_1 l0_2).bind fun bt2438 => ((nat_DivMod.f k bt2438.2.1 bt2438.2.2).bind fun bt2445 => (if bt2438.1 = true then ((nat_Bits.f k bt2445.2.1).bind fun t2452 => (rational_Floor.j0 k bt2445.1 (decide (t2452 > 0)) bt2438.1 bt2438.2.1 bt2438.2.2)) else (rational_Floor.j0 k bt2445.1 false bt2438.1 bt2438.2.1 bt2438.2.2)))
theorem rational_Floor.calls (k : Nat) (a0_0 : Bool) (P0_1_ : Nat → Prop) (A0_1 : Option Addr) (c0_1 : Nat) (l0_1 : List Int) (P0_2_ : Nat → Prop) (A0_2 : Option Addr) (c0_2 : Nat) (l0_2 : List Int) (r1 : Bool) (r2 : List Int) (r3 : List Int) (w : World) (hs0_1 : Kd.V (Kd.int .u32) 48 w w.heap.size (fun k_ => P0_1_ k_) (.slice A0_1 l0_1.length c0_1) l0_1) (hs0_2 : Kd.V (Kd.int .u32) 48 w w.heap.size (fun k_ => P0_2_ k_) (.slice A0_2 l0_2.length c0_2) l0_2) (h : rational_Floor.f k a0_0 l0_1 l0_2 = some (r1, r2, r3)) :
 Calls Try.prog 106 #[.agg #[.bool a0_0, .slice A0_1 l0_1.length c0_1, .slice A0_2 l0_2.length c0_2]] w fun e w' => ∃ v1_ v2_ : Value, e = .returned (.agg #[.bool r1, v1_, v2_]) ∧ Kd.V (Kd.int .u32) 48 w' w.heap.size (fun k_ => ((P0_1_ k_ ∨ P0_2_ k_) ∨ w.heap.size ≤ k_)) v1_ r2 ∧ Kd.V (Kd.int .u32) 48 w' w.heap.size (fun k_ => ((P0_1_ k_ ∨ P0_2_ k_) ∨ w.heap.size ≤ k_)) v2_ r3 ∧ Below w.heap.size w w' := by
 have cT := Try.underlying67
 have aw := am (show Kd.V (Kd.int .u32) 48 w w.heap.size (fun k_ => ((P0_1_ k_ ∨ P0_2_ k_) ∨ w.heap.size ≤ k_)) (.slice A0_1 l0_1.length c0_1) l0_1 from Kd.V_mono hs0_1 (fun k_ hk => .inl (.inl hk)))
 have ax := am (show Kd.V (Kd.int .u32) 48 w w.heap.size (fun k_ => ((P0_1_ k_ ∨ P0_2_ k_) ∨ w.heap.size ≤ k_)) (.slice A0_2 l0_2.length c0_2) l0_2 from Kd.V_mono hs0_2 (fun k_ hk => .inl (.inr hk)))
 have HB := am (Below.refl w.heap.size w)
 have H : ((rational_Trim.f k a0_0 l0_1 l0_2).bind fun az => ((nat_DivMod.f k az.2.1 az.2.2).bind fun aR => (if az.1 = true then ((nat_Bits.f k aR.2.1).bind fun aF => (rational_Floor.j0 k aR.1 (decide (aF > 0)) az.1 az.2.1 az.2.2)) else (rational_Floor.j0 k aR.1 false az.1 az.2.1 az.2.2)))) = some (r1, r2, r3) := h
 clear h
 obtain ⟨⟨aq, ao, ap⟩, A2, H⟩ := bs H
 (try dsimp -simprocs only at H)
 obtain ⟨⟨ay, aY, bN⟩, A3, H⟩ := bs H
 (try dsimp -simprocs only at H)
 have b3 := am H
 clear H
 go_enter Try.func106, Try.ntmps106
 go_upto_region 3 with (first | ((with_reducible refine gate_dst (N := 1) rfl ?_); refine box_event ?hg (N := 1) ?hd (cs := #[.bool a0_0, .slice A0_1 l0_1.length c0_1, .slice A0_2 l0_2.length c0_2]) (t := 67) ?hr ?_; (case hd => rfl); (case hg => rfl); (case hr => first | (go_simp; done) | (go_simp; rfl)); intro ae hg w5 hbox hb; replace aw := ke aw hg hb; replace ax := ke ax hg hb; have aa := am (hbox); have b4 := ng hg (bu HB.out); have ah := ng hg (bu HB.out); replace HB := be HB hb; clear hb hbox hg) | ((with_reducible refine gate_dst (N := 2) rfl ?_); refine box_event ?hg (N := 2) ?hd (cs := #[.bool false, .slice none 0 0, .slice none 0 0]) (t := 67) ?hr ?_; (case hd => rfl); (case hg => rfl); (case hr => first | (go_simp; done) | (go_simp; rfl)); intro ab hg w6 hbox hb; replace aw := ke aw hg hb; replace ax := ke ax hg hb; have ad := am (hbox); have b5 := ng hg (bu1 HB.out ah.out); have ai := ng hg (bu1 HB.out ah.out); replace HB := be1 HB ah hb; have ac := nl hg aa; have aj := nr hg aa; replace aa := kb aa hb; clear hb hbox hg; have cU := ac.out; have cV := aj.out; obtain ⟨bG, bH, bI, bJ, bK, bL⟩ := bz aa) | ((with_reducible refine gate_callee (f := 87) rfl ?_); refine goesL_ (some 7) rfl rfl Try.func87 (by kernel_rfl) rfl #[.agg #[.bool a0_0, .slice A0_1 l0_1.length c0_1, .slice A0_2 l0_2.length c0_2]] rfl lu ?_; (with_reducible refine (rational_Trim.calls k a0_0 (fun k_ => ((((P0_1_ k_ ∨ P0_2_ k_) ∨ w.heap.size ≤ k_) ∧ k_ ≠ ae) ∧ k_ ≠ ab)) _ _ l0_1 (fun k_ => ((((P0_1_ k_ ∨ P0_2_ k_) ∨ w.heap.size ≤ k_) ∧ k_ ≠ ae) ∧ k_ ≠ ab)) _ _ l0_2 aq ao ap _ ?side1 ?side2 A2.out).mono ?_); (case side1 => exact vz aw.out); (case side2 => exact vz ax.out); rintro e w9 ⟨cw, cx, rfl, aB, aZ, hb⟩; refine ⟨_, rfl, ?_⟩; replace aw := kv aw hb; replace ax := kv ax hb; have au := ar w.heap.size (ok' := fun k_ => ((P0_1_ k_ ∨ P0_2_ k_) ∨ w.heap.size ≤ k_) ∧ k_ ≠ ae ∧ k_ ≠ ab) aB (fa (fz2 HB ah ai) (fa (fb aa) (fb ad))); have av := ar w.heap.size (ok' := fun k_ => ((P0_1_ k_ ∨ P0_2_ k_) ∨ w.heap.size ≤ k_) ∧ k_ ≠ ae ∧ k_ ≠ ab) aZ (fa (fz2 HB ah ai) (fa (fb aa) (fb ad))); replace aa := kb aa hb; replace ad := kb ad hb; replace HB := be2 HB ah ai hb; (try clear hb); (try clear aB); (try clear aZ); obtain ⟨a5, a6, a7, a8, a9, ba⟩ := bz aa; obtain ⟨aG, aH, b6⟩ := Kd.V_slice au.out; subst b6; obtain ⟨aI, aJ, b7⟩ := Kd.V_slice av.out; subst b7) | ((with_reducible refine gate_store (t := 67) (p := 1) rfl ?_); refine store_event (t := 67) (p := 1) (v := ?vo_w13) (w1 := (((w9.setCell ⟨ae, 0, none⟩ (.bool aq)).setCell ⟨ae, 1, none⟩ (.slice aG ao.length aH)).setCell ⟨ae, 2, none⟩ (.slice aI ap.length aJ))) ?hg ?ho ?hn ?hr ?_; (case ho => rfl); (case hg => rfl); (case hn => rfl); (case hr => first | (go_simp; done) | (go_simp; rfl)); intro bM hw; have cy : Aside0 (Kd.V (Kd.int .u32) 48 bM w.heap.size (fun k_ => ((P0_1_ k_ ∨ P0_2_ k_) ∨ w.heap.size ≤ k_) ∧ k_ ≠ ae ∧ k_ ≠ ab) (.slice A0_1 l0_1.length c0_1) l0_1) := ⟨(by rw [hw]; exact vf aw.out)⟩; have cz : Aside0 (Kd.V (Kd.int .u32) 48 bM w.heap.size (fun k_ => ((P0_1_ k_ ∨ P0_2_ k_) ∨ w.heap.size ≤ k_) ∧ k_ ≠ ae ∧ k_ ≠ ab) (.slice A0_2 l0_2.length c0_2) l0_2) := ⟨(by rw [hw]; exact vf ax.out)⟩; have cA : Aside0 (Kd.V (Kd.int .u32) 48 bM w.heap.size (fun k_ => ((P0_1_ k_ ∨ P0_2_ k_) ∨ w.heap.size ≤ k_) ∧ k_ ≠ ae ∧ k_ ≠ ab) (.slice aG ao.length aH) ao) := ⟨(by rw [hw]; exact vf au.out)⟩; have cB : Aside0 (Kd.V (Kd.int .u32) 48 bM w.heap.size (fun k_ => ((P0_1_ k_ ∨ P0_2_ k_) ∨ w.heap.size ≤ k_) ∧ k_ ≠ ae ∧ k_ ≠ ab) (.slice aI ap.length aJ) ap) := ⟨(by rw [hw]; exact vf av.out)⟩; have cC : Aside0 (bM.heap[ae]? = some (.cells #[.bool aq, .slice aG ao.length aH, .slice aI ap.length aJ] 67 (0, 0))) := ⟨(by rw [hw]; exact (kp aa.out))⟩; have cD : Aside0 (bM.heap[ab]? = some (.cells #[.bool false, .slice none 0 0, .slice none 0 0] 67 (0, 0))) := ⟨(by rw [hw]; exact (kf aj.out ad.out))⟩; have cE : Aside0 (Below w.heap.size w bM) := ⟨(by rw [hw]; exact (bu2 HB.out ah.out ai.out))⟩; clear hw aw ax au av aa ad HB; have aw := cy; have ax := cz; have au := cA; have av := cB; have aa := cC; have ad := cD; have HB := cE; clear cy cz cA cB cC cD cE; obtain ⟨bb, bd, bf, bg, bh, bi⟩ := bz aa) | ((with_reducible refine gate_callee (f := 167) rfl ?_); refine goesL_ (some 13) rfl rfl Try.func167 (by kernel_rfl) rfl #[.slice aG ao.length aH, .slice aI ap.length aJ] rfl lu ?_; (with_reducible refine (nat_DivMod.calls k (fun k_ => (((P0_1_ k_ ∨ P0_2_ k_) ∨ w.heap.size ≤ k_) ∧ (k_ ≠ ae ∧ k_ ≠ ab))) _ _ ao (fun k_ => (((P0_1_ k_ ∨ P0_2_ k_) ∨ w.heap.size ≤ k_) ∧ (k_ ≠ ae ∧ k_ ≠ ab))) _ _ ap ay aY bN _ ?side1 ?side2 A3.out).mono ?_); (case side1 => exact vz au.out); (case side2 => exact vz av.out); rintro e dc ⟨bO, cF, rfl, aB, aZ, hb⟩; refine ⟨_, rfl, ?_⟩; replace aw := kv aw hb; replace ax := kv ax hb; replace au := kv au hb; replace av := kv av hb; have aK := ar w.heap.size (ok' := fun k_ => ((P0_1_ k_ ∨ P0_2_ k_) ∨ w.heap.size ≤ k_) ∧ k_ ≠ ae ∧ k_ ≠ ab) aB (fa (fz2 HB ah ai) (fa (fb aa) (fb ad))); have aE := ar w.heap.size (ok' := fun k_ => ((P0_1_ k_ ∨ P0_2_ k_) ∨ w.heap.size ≤ k_) ∧ k_ ≠ ae ∧ k_ ≠ ab) aZ (fa (fz2 HB ah ai) (fa (fb aa) (fb ad))); replace aa := kb aa hb; replace ad := kb ad hb; replace HB := be2 HB ah ai hb; (try clear hb); (try clear aB); (try clear aZ)))
 (try simp only [Act.put, List.setIfInBounds_toArray, List.set_cons_zero, List.set_cons_succ])
 go_cut [23] (fun cW wc => ∃ (kq : Nat) (aX : Bool), cW = .bool aX ∧ Aside0 (rational_Floor.j0 kq ay aX aq ao ap = some (r1, r2, r3)) ∧ Aside0 (kq ≤ k) ∧ Aside0 (Kd.V (Kd.int .u32) 48 wc w.heap.size (fun k_ => ((P0_1_ k_ ∨ P0_2_ k_) ∨ w.heap.size ≤ k_) ∧ k_ ≠ ae ∧ k_ ≠ ab) bO ay) ∧ Aside0 (Kd.V (Kd.int .u32) 48 wc w.heap.size (fun k_ => ((P0_1_ k_ ∨ P0_2_ k_) ∨ w.heap.size ≤ k_) ∧ k_ ≠ ae ∧ k_ ≠ ab) (.slice aG ao.length aH) ao) ∧ Aside0 (Kd.V (Kd.int .u32) 48 wc w.heap.size (fun k_ => ((P0_1_ k_ ∨ P0_2_ k_) ∨ w.heap.size ≤ k_) ∧ k_ ≠ ae ∧ k_ ≠ ab) (.slice aI ap.length aJ) ap) ∧ Aside0 (wc.heap[ae]? = some (.cells #[.bool aq, (.slice aG ao.length aH), (.slice aI ap.length aJ)] 67 (0, 0))) ∧ Aside0 (wc.heap[ab]? = some (.cells #[.bool false, (.slice none 0 0), (.slice none 0 0)] 67 (0, 0))) ∧ Aside0 (Below w.heap.size w wc))
 case first =>
  have H := b3.out
  clear b3
  by_cases bP : aq = true
  ·
   subst bP
   have H1 : ((nat_Bits.f k aY).bind fun aF => (rational_Floor.j0 k ay (decide (aF > 0)) true ao ap)) = some (r1, r2, r3) := by rw [if_pos rfl] at H; exact H
   clear H
   have H := H1
   clear H1
   obtain ⟨aF, cX, H⟩ := bs H
   (try dsimp -simprocs only at H)
   have H' := am H
   clear H
   have cG := ac.out
   have cH := aj.out
   obtain ⟨bj, bk, bl, bm, bn, bo⟩ := bz aa
   obtain ⟨cY, cZ, b8⟩ := Kd.V_slice aE.out
   subst b8
   go_wp2_with (first | (go_at_call 154; (with_reducible refine (nat_Bits.calls k _ _ aY aF _ ?side1 ?side2 cX.out).mono ?_); (case side1 => exact cu (Kd.V_reads' aE.out).2.2); (case side2 => exact (Kd.V_reads' aE.out).2.1); rintro e dd ⟨rfl, hb⟩; replace aw := kv aw hb; replace ax := kv ax hb; replace au := kv au hb; replace av := kv av hb; replace aK := kv aK hb; replace aE := kv aE hb; replace aa := kb aa hb; replace ad := kb ad hb; replace HB := be2 HB ah ai hb; (try clear hb)))
   go_meet
   case rel => exact ⟨_, (decide (aF > 0)), (by first | rfl | (simp; done) | (simp [*]; done)), H', ⟨by first | omega | exact Nat.le_refl _⟩, ⟨by (with_reducible repeat (first | apply Kd.V_alloc | apply Kd.V_drewN | apply Kd.V_drew)); exact aK.out⟩, ⟨by (with_reducible repeat (first | apply Kd.V_alloc | apply Kd.V_drewN | apply Kd.V_drew)); exact au.out⟩, ⟨by (with_reducible repeat (first | apply Kd.V_alloc | apply Kd.V_drewN | apply Kd.V_drew)); exact av.out⟩, ⟨by (with_reducible repeat (first | refine blk_drewN ?_ _ | refine blk_drew ?_ | refine blk_alloc ?_ _)); exact aa.out⟩, ⟨by (with_reducible repeat (first | refine blk_drewN ?_ _ | refine blk_drew ?_ | refine blk_alloc ?_ _)); exact ad.out⟩, ⟨by repeat (first | (with_reducible first | exact HB.out | apply below_alloc | apply pw_below_drewN | apply below_drew1 | refine below_set ?_ ah.out | refine below_set ?_ ai.out) | exact HB.out)⟩⟩
  ·
   replace bP := Bool.eq_false_iff.mpr bP
   subst bP
   have H1 : (rational_Floor.j0 k ay false false ao ap) = some (r1, r2, r3) := by rw [if_neg (show ¬ (false = true) by decide)] at H; exact H
   clear H
   have H := H1
   clear H1
   have H' := am H
   clear H
   have cI := ac.out
   have cJ := aj.out
   obtain ⟨bp, bq, br, bv, bw, bx⟩ := bz aa
   go_wp2
   go_meet
   case rel => exact ⟨_, (false), (by first | rfl | (simp; done) | (simp [*]; done)), H', ⟨by first | omega | exact Nat.le_refl _⟩, ⟨by (with_reducible repeat (first | apply Kd.V_alloc | apply Kd.V_drewN | apply Kd.V_drew)); exact aK.out⟩, ⟨by (with_reducible repeat (first | apply Kd.V_alloc | apply Kd.V_drewN | apply Kd.V_drew)); exact au.out⟩, ⟨by (with_reducible repeat (first | apply Kd.V_alloc | apply Kd.V_drewN | apply Kd.V_drew)); exact av.out⟩, ⟨by (with_reducible repeat (first | refine blk_drewN ?_ _ | refine blk_drew ?_ | refine blk_alloc ?_ _)); exact aa.out⟩, ⟨by (with_reducible repeat (first | refine blk_drewN ?_ _ | refine blk_drew ?_ | refine blk_alloc ?_ _)); exact ad.out⟩, ⟨by repeat (first | (with_reducible first | exact HB.out | apply below_alloc | apply pw_below_drewN | apply below_drew1 | refine below_set ?_ ah.out | refine below_set ?_ ai.out) | exact HB.out)⟩⟩
 case rest =>
  clear b3
  try clear c1
  try clear c2
  try clear p2
  try clear c7
  try clear c8
  try clear c10
  try clear bP
  try clear c18
  try clear c22
  try clear a5
  try clear a6
  try clear a7
  try clear bb
  try clear bd
  try clear bf
  try clear bj
  try clear bk
  try clear bl
  try clear bp
  try clear bq
  try clear br
  try clear bG
  try clear bH
  try clear bI
  try clear a8
  try clear a9
  try clear ba
  try clear bg
  try clear bh
  try clear bi
  try clear bm
  try clear bn
  try clear bo
  try clear bv
  try clear bw
  try clear bx
  try clear bJ
  try clear bK
  try clear bL
  obtain ⟨kq, aX, rfl, HA, HJ3, an, af, ag, aa, ad, HB⟩ := hcut
  cases kq with
  | zero => exact absurd HA.out (by simp [rational_Floor.j0])
  | succ kj3 =>
   have H := HA.out
   clear HA
   simp only [rational_Floor.j0] at H
   by_cases b2 : aX = true
   ·
    subst b2
    have H1 : ((rational_one.f).bind fun aC => ((nat_Add.f kj3 (([ay, aC] : List (List Int)))).bind fun aO => ((rational_one.f).bind fun aP => ((rational_canonical.f kj3 aq aO aP).bind fun aS => (some (aS.1, aS.2.1, aS.2.2)))))) = some (r1, r2, r3) := by rw [if_pos rfl] at H; exact H
    clear H
    have H := H1
    clear H1
    obtain ⟨aC, c0, H⟩ := bs H
    (try dsimp -simprocs only at H)
    obtain ⟨aD, aT⟩ : ∃ y_ : List (List Int), y_ = (([ay, aC] : List (List Int))) := ⟨_, rfl⟩
    rw [← aT] at H
    have a0 := am aT
    clear aT
    obtain ⟨aO, c3, H⟩ := bs H
    (try dsimp -simprocs only at H)
    obtain ⟨aP, c4, H⟩ := bs H
    (try dsimp -simprocs only at H)
    obtain ⟨⟨bA, bB, bC⟩, c5, H⟩ := bs H
    (try dsimp -simprocs only at H)
    simp only [Option.some.injEq, Prod.mk.injEq] at H
    obtain ⟨rfl, rfl, rfl⟩ := H
    try go_wp2_with (first | ((with_reducible refine gate_callee (f := 161) rfl ?_); refine goesL_ (some 25) rfl rfl Try.func161 (by kernel_rfl) rfl #[] rfl lu ?_; (with_reducible refine (rational_one.calls  aC _ c0.out).mono ?_); rintro e c6 ⟨cK, rfl, aB, hb⟩; refine ⟨_, rfl, ?_⟩; replace aB := R_V_base rfl aB; replace an := kv an hb; replace af := kv af hb; replace ag := kv ag hb; have al := ar0 w.heap.size (ok' := fun k_ => ((P0_1_ k_ ∨ P0_2_ k_) ∨ w.heap.size ≤ k_) ∧ k_ ≠ ae ∧ k_ ≠ ab) aB (fa (fz2 HB ah ai) (fa (fb aa) (fb ad))); replace aa := kb aa hb; replace ad := kb ad hb; replace HB := be2 HB ah ai hb; (try clear hb); (try clear hk); (try clear aB); obtain ⟨bQ, bR, b9⟩ := Kd.V_slice an.out; subst b9; obtain ⟨bS, bT, ca⟩ := Kd.V_slice al.out; subst ca) | ((with_reducible refine gate_dst (N := 26) rfl ?_); refine Kd.N_lit (Kd.slice 48 (Kd.int .u32)) _ 42 ?hg (N' := 26) ?hd (xs := ([ay, aC] : List (List Int))) (inner := [.slice bQ ay.length bR, .slice bS aC.length bT]) (ok := (fun k_ => ((P0_1_ k_ ∨ P0_2_ k_) ∨ w.heap.size ≤ k_) ∧ k_ ≠ ae ∧ k_ ≠ ab)) (okp := (fun k_ => ((P0_1_ k_ ∨ P0_2_ k_) ∨ w.heap.size ≤ k_) ∧ k_ ≠ ae ∧ k_ ≠ ab)) ?hr ?hp (fun _ hk => hk) ((show ∀ k_, c6.heap.size ≤ k_ → (fun k_ => ((P0_1_ k_ ∨ P0_2_ k_) ∨ w.heap.size ≤ k_) ∧ k_ ≠ ae ∧ k_ ≠ ab) k_ from fun k_ hk => ⟨(.inr (Nat.le_trans (below_size (bu2 HB.out ah.out ai.out)) hk)), Kd.freshB (g := ae) (o := .cells #[.bool aq, .slice aG ao.length aH, .slice aI ap.length aJ] 67 (0, 0)) (ku aa.out) k_ hk, Kd.freshB (g := ab) (o := .cells #[.bool false, .slice none 0 0, .slice none 0 0] 67 (0, 0)) (ku ad.out) k_ hk⟩) _ (Nat.le_refl _)) (Below.refl _ _) (Nat.le_refl _) (by simp) ?_; (case hd => rfl); (case hg => rfl); (case hr => first | (go_simp; done) | (go_simp; rfl)); (case hp => exact (Reps.one (show Kd.FK (Kd.slice 48 (Kd.int .u32)) _ _ ay [.slice bQ ay.length bR] from (Kd.FK_slice_mk (Kd.V_reads' (vy ((fun k_ => ((P0_1_ k_ ∨ P0_2_ k_) ∨ w.heap.size ≤ k_) ∧ k_ ≠ ae ∧ k_ ≠ ab)) an.out)).2.1 (Kd.V_F (vy ((fun k_ => ((P0_1_ k_ ∨ P0_2_ k_) ∨ w.heap.size ≤ k_) ∧ k_ ≠ ae ∧ k_ ≠ ab)) an.out)))) (Reps.one (show Kd.FK (Kd.slice 48 (Kd.int .u32)) _ _ aC [.slice bS aC.length bT] from (Kd.FK_slice_mk (Kd.V_reads' (vy ((fun k_ => ((P0_1_ k_ ∨ P0_2_ k_) ∨ w.heap.size ≤ k_) ∧ k_ ≠ ae ∧ k_ ≠ ab)) al.out)).2.1 (Kd.V_F (vy ((fun k_ => ((P0_1_ k_ ∨ P0_2_ k_) ∨ w.heap.size ≤ k_) ∧ k_ ≠ ae ∧ k_ ≠ ab)) al.out)))) (Reps.none _ _)))); intro cL de aL hb hg_ hnew_; clear hg_ hnew_; (first | rw [← a0.out] at aL | (simp only [Int.reduceToNat] at aL; rw [← a0.out] at aL)); replace an := el an aL hb; replace af := el af aL hb; replace ag := el ag aL hb; replace al := el al aL hb; have ak := am (Kd.N_lower aL (below_size (bu2 HB.out ah.out ai.out))); replace aa := kb aa hb; replace ad := kb ad hb; replace HB := be2 HB ah ai hb; clear hb aL; obtain ⟨aU, aV, cb⟩ := Kd.N_slice ak.out; subst cb) | ((with_reducible refine gate_callee (f := 142) rfl ?_); refine goesL_ (some 27) rfl rfl Try.func142 (by kernel_rfl) rfl #[.slice aU aD.length aV] rfl lu ?_; (with_reducible refine (nat_Add.calls kj3 _ _ aD aO _ ?side1 ?side2 c3.out).mono ?_); (case side1 => exact cu (Kd.N_reads' ak.out).2.2); (case side2 => exact (Kd.N_reads' ak.out).2.1); rintro e c9 ⟨cM, rfl, aB, hb⟩; refine ⟨_, rfl, ?_⟩; replace aB := R_V_base rfl aB; replace an := kv an hb; replace af := kv af hb; replace ag := kv ag hb; replace al := kv al hb; have aA := ar0 w.heap.size (ok' := fun k_ => ((P0_1_ k_ ∨ P0_2_ k_) ∨ w.heap.size ≤ k_) ∧ some k_ ≠ (.slice aU aD.length aV : Value).ownBlock ∧ k_ ≠ ae ∧ k_ ≠ ab) aB (fa (fz2 HB ah ai) (fa (fo ak) (fa (fb aa) (fb ad)))); replace ak := kn ak hb; replace aa := kb aa hb; replace ad := kb ad hb; replace HB := be2 HB ah ai hb; (try clear hb); (try clear hk); (try clear aB)))
    replace an := am (Kd.V_drew an.out)
    replace af := am (Kd.V_drew af.out)
    replace ag := am (Kd.V_drew ag.out)
    replace al := am (Kd.V_drew al.out)
    replace ak := am (Kd.N_drew ak.out)
    replace aA := am (Kd.V_drew aA.out)
    replace aa := am (blk_drew aa.out)
    replace ad := am (blk_drew ad.out)
    replace HB := am (below_drew1 HB.out)
    refine start_ (n := 6) (S := fun w' => w'.cell? ⟨ae, 0, none⟩ = some (.bool aq) ∧ w'.cell? ⟨ae, 1, none⟩ = some (.slice aG ao.length aH) ∧ w'.cell? ⟨ae, 2, none⟩ = some (.slice aI ap.length aJ)) (ds := []) #[false, false, false, false, false, false] (by kernel_rfl) rfl rfl ⟨bc aa 0, bc aa 1, bc aa 2⟩ (fun hHeld => ?_)
    generalize c9.drew = df at an af ag al ak aA aa ad HB hHeld ⊢
    refine pure_ (i := 0) (N := some 28) (v := ?_) (a' := ?_) #[true, false, false, false, false, false] rfl rfl (by kernel_rfl) (fun _ _ _ h => h) (Or.inl ⟨by rfl, ?_⟩) ?_ ?_
    rotate_left
    ·
     intro w'
     go_simp
     with_reducible rfl
    rotate_left
    ·
     simp only [Act.put, List.setIfInBounds_toArray, List.set_cons_zero, List.set_cons_succ, i64_w, i32_w]
     rfl
    refine pure_ (i := 2) (N := some 30) (v := ?_) (a' := ?_) #[true, false, true, false, false, false] rfl rfl (by kernel_rfl) (fun _ _ _ h => h) (Or.inl ⟨by rfl, ?_⟩) ?_ ?_
    rotate_left
    ·
     intro w'
     go_simp
     with_reducible rfl
    rotate_left
    ·
     simp only [Act.put, List.setIfInBounds_toArray, List.set_cons_zero, List.set_cons_succ, i64_w, i32_w]
     rfl
    refine take_ (i := 1) (N := some 29) (v := ?_) (a' := ?_) #[true, true, true, false, false, false] rfl rfl (by kernel_rfl) (fun _ _ _ h => h) (Or.inl ⟨by rfl, ?_⟩) hHeld ?_ ?_
    rotate_left
    ·
     rintro w' ⟨s0, s1, s2⟩
     go_simp
     with_reducible rfl
    rotate_left
    ·
     simp only [Act.put, List.setIfInBounds_toArray, List.set_cons_zero, List.set_cons_succ, i64_w, i32_w]
     rfl
    refine one_ (i := 3) (N := some 31) #[true, true, true, true, false, false] rfl rfl (by kernel_rfl) (by decide) (fun K hK => ?_)
    refine goes_ Try.func161 (by kernel_rfl) rfl #[] (by rfl) rfl rfl lu ?_
    with_reducible refine (rational_one.calls  aP _ c4.out).mono ?_
    rintro e dg ⟨cN, rfl, aB, hb⟩
    refine ⟨_, rfl, ?_⟩
    replace aB := R_V_base rfl aB
    replace an := kv an hb
    replace af := kv af hb
    replace ag := kv ag hb
    replace al := kv al hb
    replace aA := kv aA hb
    have aM := ar0 w.heap.size (ok' := fun k_ => ((P0_1_ k_ ∨ P0_2_ k_) ∨ w.heap.size ≤ k_) ∧ some k_ ≠ (.slice aU aD.length aV : Value).ownBlock ∧ k_ ≠ ae ∧ k_ ≠ ab) aB (fa (fz2 HB ah ai) (fa (fo ak) (fa (fb aa) (fb ad))))
    replace ak := kn ak hb
    replace aa := kb aa hb
    replace ad := kb ad hb
    replace HB := be2 HB ah ai hb
    (try clear hb)
    (try clear hb2)
    (try clear hk)
    (try clear hi)
    (try clear aB)
    obtain ⟨cc, cd, bU⟩ := Kd.V_slice aA.out
    (first | subst bU | (injection bU with f1_ f2_ f3_; have f4_ := f1_.symm; have f5_ := f3_.symm; clear f1_ f2_ f3_; subst f4_; subst f5_))
    obtain ⟨ce, cf, bV⟩ := Kd.V_slice aM.out
    (first | subst bV | (injection bV with f1_ f2_ f3_; have f4_ := f1_.symm; have f5_ := f3_.symm; clear f1_ f2_ f3_; subst f4_; subst f5_))
    refine hK.out _ _ ⟨bc aa 0, bc aa 1, bc aa 2⟩ (fun hHeld => ?_)
    clear hK K
    refine nq 31 ?_
    refine one_ (i := 4) (N := some 32) #[true, true, true, true, true, false] rfl rfl (by kernel_rfl) (by decide) (fun K hK => ?_)
    refine goes_ Try.func155 (by kernel_rfl) rfl #[.bool aq, .slice cc aO.length cd, .slice ce aP.length cf] (by rfl) rfl rfl lu ?_
    with_reducible refine (rational_canonical.calls kj3 aq (fun k_ => (((P0_1_ k_ ∨ P0_2_ k_) ∨ w.heap.size ≤ k_) ∧ (some k_ ≠ (.slice aU aD.length aV : Value).ownBlock ∧ (k_ ≠ ae ∧ k_ ≠ ab)))) _ _ aO (fun k_ => (((P0_1_ k_ ∨ P0_2_ k_) ∨ w.heap.size ≤ k_) ∧ (some k_ ≠ (.slice aU aD.length aV : Value).ownBlock ∧ (k_ ≠ ae ∧ k_ ≠ ab)))) _ _ aP bA bB bC _ ?side1 ?side2 c5.out).mono ?_
    (case side1 => exact vz aA.out)
    (case side2 => exact vz aM.out)
    rintro e cg ⟨cO, cP, rfl, aB, aZ, hb⟩
    refine ⟨_, rfl, ?_⟩
    replace an := kv an hb
    replace af := kv af hb
    replace ag := kv ag hb
    replace al := kv al hb
    replace aA := kv aA hb
    replace aM := kv aM hb
    have a1 := ar w.heap.size (ok' := fun k_ => ((P0_1_ k_ ∨ P0_2_ k_) ∨ w.heap.size ≤ k_) ∧ some k_ ≠ (.slice aU aD.length aV : Value).ownBlock ∧ k_ ≠ ae ∧ k_ ≠ ab) aB (fa (fz2 HB ah ai) (fa (fo ak) (fa (fb aa) (fb ad))))
    have a2 := ar w.heap.size (ok' := fun k_ => ((P0_1_ k_ ∨ P0_2_ k_) ∨ w.heap.size ≤ k_) ∧ some k_ ≠ (.slice aU aD.length aV : Value).ownBlock ∧ k_ ≠ ae ∧ k_ ≠ ab) aZ (fa (fz2 HB ah ai) (fa (fo ak) (fa (fb aa) (fb ad))))
    replace ak := kn ak hb
    replace aa := kb aa hb
    replace ad := kb ad hb
    replace HB := be2 HB ah ai hb
    (try clear hb)
    (try clear hb2)
    (try clear hk)
    (try clear hi)
    (try clear aB)
    (try clear aZ)
    obtain ⟨ch, ci, bW⟩ := Kd.V_slice a1.out
    (first | subst bW | (injection bW with f1_ f2_ f3_; have f4_ := f1_.symm; have f5_ := f3_.symm; clear f1_ f2_ f3_; subst f4_; subst f5_))
    obtain ⟨cj, ck, bX⟩ := Kd.V_slice a2.out
    (first | subst bX | (injection bX with f1_ f2_ f3_; have f4_ := f1_.symm; have f5_ := f3_.symm; clear f1_ f2_ f3_; subst f4_; subst f5_))
    refine hK.out _ _ ⟨bc aa 0, bc aa 1, bc aa 2⟩ (fun hHeld => ?_)
    clear hK K
    refine nq 32 ?_
    refine one_ (i := 5) (N := none) #[true, true, true, true, true, true] rfl rfl (by kernel_rfl) (by decide) (fun K hK => ?_)
    have hs41 : cg.cell? ⟨ab, 0, none⟩ = some (.bool false) := bc ad 0
    have hfs41 := blk_frozen ad.out 0
    have hns41_0 := ac.out
    have hms41_0 := aj.out
    have hs43 : cg.cell? ⟨ab, 1, none⟩ = some (.slice none 0 0) := bc ad 1
    have hfs43 := blk_frozen ad.out 1
    have hns43_0 := ac.out
    have hms43_0 := aj.out
    have hs45 : cg.cell? ⟨ab, 2, none⟩ = some (.slice none 0 0) := bc ad 2
    have hfs45 := blk_frozen ad.out 2
    have hns45_0 := ac.out
    have hms45_0 := aj.out
    refine skip_ (w1 := ?_) (by rfl) rfl ?_ ?_
    rotate_left
    ·
     go_simp
     rfl
    refine hK.out _ _ ⟨((cell_far (p := ⟨ab, _, none⟩) ac.out _).trans (((cell_far (p := ⟨ab, _, none⟩) ac.out _).trans (((cell_far (p := ⟨ab, _, none⟩) ac.out _).trans (hHeld.1)))))), ((cell_far (p := ⟨ab, _, none⟩) ac.out _).trans (((cell_far (p := ⟨ab, _, none⟩) ac.out _).trans (((cell_far (p := ⟨ab, _, none⟩) ac.out _).trans (hHeld.2.1)))))), ((cell_far (p := ⟨ab, _, none⟩) ac.out _).trans (((cell_far (p := ⟨ab, _, none⟩) ac.out _).trans (((cell_far (p := ⟨ab, _, none⟩) ac.out _).trans (hHeld.2.2))))))⟩ (fun hHeld => ?_)
    clear hK K
    refine done_ (by kernel_rfl) ?_
    try go_wp2
    refine bodyPost_ret (results_cell_row rfl _ _ ab 67 #[.bool bA, .slice ch bB.length ci, .slice cj bC.length ck] (0, 0) _ rfl (kp ad.out) Try.underlying67 rfl (by kernel_rfl)) rfl ?_
    exact ⟨_, _, by first | rfl | (simp [errW_none, errW_some] <;> rfl) | (simp [*, errW_none, errW_some] <;> rfl), by exact vf a1.out, by exact vf a2.out, by repeat (first | (with_reducible first | exact HB.out | apply below_alloc | apply pw_below_drewN | apply below_drew1 | refine below_set ?_ ah.out | refine below_set ?_ ai.out) | exact HB.out)⟩
   ·
    replace b2 := Bool.eq_false_iff.mpr b2
    subst b2
    have H1 : ((rational_one.f).bind fun aQ => ((rational_canonical.f kj3 aq ay aQ).bind fun aW => (some (aW.1, aW.2.1, aW.2.2)))) = some (r1, r2, r3) := by rw [if_neg (show ¬ (false = true) by decide)] at H; exact H
    clear H
    have H := H1
    clear H1
    obtain ⟨aQ, da, H⟩ := bs H
    (try dsimp -simprocs only at H)
    obtain ⟨⟨bD, bE, bF⟩, db, H⟩ := bs H
    (try dsimp -simprocs only at H)
    simp only [Option.some.injEq, Prod.mk.injEq] at H
    obtain ⟨rfl, rfl, rfl⟩ := H
    try go_wp2
    replace an := am (Kd.V_drew an.out)
    replace af := am (Kd.V_drew af.out)
    replace ag := am (Kd.V_drew ag.out)
    replace aa := am (blk_drew aa.out)
    replace ad := am (blk_drew ad.out)
    replace HB := am (below_drew1 HB.out)
    refine start_ (n := 6) (S := fun w' => w'.cell? ⟨ae, 0, none⟩ = some (.bool aq) ∧ w'.cell? ⟨ae, 1, none⟩ = some (.slice aG ao.length aH) ∧ w'.cell? ⟨ae, 2, none⟩ = some (.slice aI ap.length aJ)) (ds := []) #[false, false, false, false, false, false] (by kernel_rfl) rfl rfl ⟨bc aa 0, bc aa 1, bc aa 2⟩ (fun hHeld => ?_)
    generalize wc.drew = dh at an af ag aa ad HB hHeld ⊢
    refine pure_ (i := 0) (N := some 28) (v := ?_) (a' := ?_) #[true, false, false, false, false, false] rfl rfl (by kernel_rfl) (fun _ _ _ h => h) (Or.inl ⟨by rfl, ?_⟩) ?_ ?_
    rotate_left
    ·
     intro w'
     go_simp
     with_reducible rfl
    rotate_left
    ·
     simp only [Act.put, List.setIfInBounds_toArray, List.set_cons_zero, List.set_cons_succ, i64_w, i32_w]
     rfl
    refine pure_ (i := 2) (N := some 30) (v := ?_) (a' := ?_) #[true, false, true, false, false, false] rfl rfl (by kernel_rfl) (fun _ _ _ h => h) (Or.inl ⟨by rfl, ?_⟩) ?_ ?_
    rotate_left
    ·
     intro w'
     go_simp
     with_reducible rfl
    rotate_left
    ·
     simp only [Act.put, List.setIfInBounds_toArray, List.set_cons_zero, List.set_cons_succ, i64_w, i32_w]
     rfl
    refine take_ (i := 1) (N := some 29) (v := ?_) (a' := ?_) #[true, true, true, false, false, false] rfl rfl (by kernel_rfl) (fun _ _ _ h => h) (Or.inl ⟨by rfl, ?_⟩) hHeld ?_ ?_
    rotate_left
    ·
     rintro w' ⟨s0, s1, s2⟩
     go_simp
     with_reducible rfl
    rotate_left
    ·
     simp only [Act.put, List.setIfInBounds_toArray, List.set_cons_zero, List.set_cons_succ, i64_w, i32_w]
     rfl
    refine one_ (i := 3) (N := some 31) #[true, true, true, true, false, false] rfl rfl (by kernel_rfl) (by decide) (fun K hK => ?_)
    refine goes_ Try.func161 (by kernel_rfl) rfl #[] (by rfl) rfl rfl lu ?_
    with_reducible refine (rational_one.calls  aQ _ da.out).mono ?_
    rintro e di ⟨cQ, rfl, aB, hb⟩
    refine ⟨_, rfl, ?_⟩
    replace aB := R_V_base rfl aB
    replace an := kv an hb
    replace af := kv af hb
    replace ag := kv ag hb
    have aN := ar0 w.heap.size (ok' := fun k_ => ((P0_1_ k_ ∨ P0_2_ k_) ∨ w.heap.size ≤ k_) ∧ k_ ≠ ae ∧ k_ ≠ ab) aB (fa (fz2 HB ah ai) (fa (fb aa) (fb ad)))
    replace aa := kb aa hb
    replace ad := kb ad hb
    replace HB := be2 HB ah ai hb
    (try clear hb)
    (try clear hb2)
    (try clear hk)
    (try clear hi)
    (try clear aB)
    obtain ⟨cl, cm, bY⟩ := Kd.V_slice an.out
    (first | subst bY | (injection bY with f1_ f2_ f3_; have f4_ := f1_.symm; have f5_ := f3_.symm; clear f1_ f2_ f3_; subst f4_; subst f5_))
    obtain ⟨cn, co, bZ⟩ := Kd.V_slice aN.out
    (first | subst bZ | (injection bZ with f1_ f2_ f3_; have f4_ := f1_.symm; have f5_ := f3_.symm; clear f1_ f2_ f3_; subst f4_; subst f5_))
    refine hK.out _ _ ⟨bc aa 0, bc aa 1, bc aa 2⟩ (fun hHeld => ?_)
    clear hK K
    refine nq 31 ?_
    refine one_ (i := 4) (N := some 32) #[true, true, true, true, true, false] rfl rfl (by kernel_rfl) (by decide) (fun K hK => ?_)
    refine goes_ Try.func155 (by kernel_rfl) rfl #[.bool aq, .slice cl ay.length cm, .slice cn aQ.length co] (by rfl) rfl rfl lu ?_
    with_reducible refine (rational_canonical.calls kj3 aq (fun k_ => (((P0_1_ k_ ∨ P0_2_ k_) ∨ w.heap.size ≤ k_) ∧ (k_ ≠ ae ∧ k_ ≠ ab))) _ _ ay (fun k_ => (((P0_1_ k_ ∨ P0_2_ k_) ∨ w.heap.size ≤ k_) ∧ (k_ ≠ ae ∧ k_ ≠ ab))) _ _ aQ bD bE bF _ ?side1 ?side2 db.out).mono ?_
    (case side1 => exact vz an.out)
    (case side2 => exact vz aN.out)
    rintro e cp ⟨cR, cS, rfl, aB, aZ, hb⟩
    refine ⟨_, rfl, ?_⟩
    replace an := kv an hb
    replace af := kv af hb
    replace ag := kv ag hb
    replace aN := kv aN hb
    have a3 := ar w.heap.size (ok' := fun k_ => ((P0_1_ k_ ∨ P0_2_ k_) ∨ w.heap.size ≤ k_) ∧ k_ ≠ ae ∧ k_ ≠ ab) aB (fa (fz2 HB ah ai) (fa (fb aa) (fb ad)))
    have a4 := ar w.heap.size (ok' := fun k_ => ((P0_1_ k_ ∨ P0_2_ k_) ∨ w.heap.size ≤ k_) ∧ k_ ≠ ae ∧ k_ ≠ ab) aZ (fa (fz2 HB ah ai) (fa (fb aa) (fb ad)))
    replace aa := kb aa hb
    replace ad := kb ad hb
    replace HB := be2 HB ah ai hb
    (try clear hb)
    (try clear hb2)
    (try clear hk)
    (try clear hi)
    (try clear aB)
    (try clear aZ)
    obtain ⟨cq, cr, b0⟩ := Kd.V_slice a3.out
    (first | subst b0 | (injection b0 with f1_ f2_ f3_; have f4_ := f1_.symm; have f5_ := f3_.symm; clear f1_ f2_ f3_; subst f4_; subst f5_))
    obtain ⟨ct, cv, b1⟩ := Kd.V_slice a4.out
    (first | subst b1 | (injection b1 with f1_ f2_ f3_; have f4_ := f1_.symm; have f5_ := f3_.symm; clear f1_ f2_ f3_; subst f4_; subst f5_))
    refine hK.out _ _ ⟨bc aa 0, bc aa 1, bc aa 2⟩ (fun hHeld => ?_)
    clear hK K
    refine nq 32 ?_
    refine one_ (i := 5) (N := none) #[true, true, true, true, true, true] rfl rfl (by kernel_rfl) (by decide) (fun K hK => ?_)
    have hs53 : cp.cell? ⟨ab, 0, none⟩ = some (.bool false) := bc ad 0
    have hfs53 := blk_frozen ad.out 0
    have hns53_0 := ac.out
    have hms53_0 := aj.out
    have hs55 : cp.cell? ⟨ab, 1, none⟩ = some (.slice none 0 0) := bc ad 1
    have hfs55 := blk_frozen ad.out 1
    have hns55_0 := ac.out
    have hms55_0 := aj.out
    have hs57 : cp.cell? ⟨ab, 2, none⟩ = some (.slice none 0 0) := bc ad 2
    have hfs57 := blk_frozen ad.out 2
    have hns57_0 := ac.out
    have hms57_0 := aj.out
    refine skip_ (w1 := ?_) (by rfl) rfl ?_ ?_
    rotate_left
    ·
     go_simp
     rfl
    refine hK.out _ _ ⟨((cell_far (p := ⟨ab, _, none⟩) ac.out _).trans (((cell_far (p := ⟨ab, _, none⟩) ac.out _).trans (((cell_far (p := ⟨ab, _, none⟩) ac.out _).trans (hHeld.1)))))), ((cell_far (p := ⟨ab, _, none⟩) ac.out _).trans (((cell_far (p := ⟨ab, _, none⟩) ac.out _).trans (((cell_far (p := ⟨ab, _, none⟩) ac.out _).trans (hHeld.2.1)))))), ((cell_far (p := ⟨ab, _, none⟩) ac.out _).trans (((cell_far (p := ⟨ab, _, none⟩) ac.out _).trans (((cell_far (p := ⟨ab, _, none⟩) ac.out _).trans (hHeld.2.2))))))⟩ (fun hHeld => ?_)
    clear hK K
    refine done_ (by kernel_rfl) ?_
    try go_wp2
    refine bodyPost_ret (results_cell_row rfl _ _ ab 67 #[.bool bD, .slice cq bE.length cr, .slice ct bF.length cv] (0, 0) _ rfl (kp ad.out) Try.underlying67 rfl (by kernel_rfl)) rfl ?_
    exact ⟨_, _, by first | rfl | (simp [errW_none, errW_some] <;> rfl) | (simp [*, errW_none, errW_some] <;> rfl), by exact vf a3.out, by exact vf a4.out, by repeat (first | (with_reducible first | exact HB.out | apply below_alloc | apply pw_below_drewN | apply below_drew1 | refine below_set ?_ ah.out | refine below_set ?_ ai.out) | exact HB.out)⟩
def rational_Whole.f (k : Nat) (a0_0 : Bool) (l0_1 : List Int) (l0_2 : List Int) : Option (List Int × Bool) := (rational_Trim.f k a0_0 l0_1 l0_2).bind fun bt2483 => (if bt2483.1 = true then (some (([] : List Int), false)) else ((rational_one.f).bind fun t2490 => ((nat_Cmp.f k bt2483.2.2 t2490).bind fun t2493 => (if t2493 = 0 then (some (bt2483.2.1, true)) else (some (([] : List Int), false))))))
def rational_Whole.T2 : Bool × List (List Nat × List Nat) := (true, [([], []), ([0], [0]), ([1], [1]), ([2], [2]), ([3, 2], [2, 3]), ([2, 2], [2]), ([4, 5, 5, 2], [2, 4, 5]), ([6, 2], [2, 6]), ([2, 7], [2, 7])])
def rational_Whole.B2 : List Nat := [0, 1, 3, 7, 15, 7, 63, 127, 255]
theorem rational_Whole.tab2 : rtab .any (opsOf Try.f107 2) = rational_Whole.T2 := by kernel_rfl
theorem rational_Whole.bits2 : waitsOk rational_Whole.T2.2 rational_Whole.B2 = true := by kernel_rfl
theorem rational_Whole.calls (k : Nat) (a0_0 : Bool) (P0_1_ : Nat → Prop) (A0_1 : Option Addr) (c0_1 : Nat) (l0_1 : List Int) (P0_2_ : Nat → Prop) (A0_2 : Option Addr) (c0_2 : Nat) (l0_2 : List Int) (r1 : List Int) (r2 : Bool) (w : World) (hs0_1 : Kd.V (Kd.int .u32) 48 w w.heap.size (fun k_ => P0_1_ k_) (.slice A0_1 l0_1.length c0_1) l0_1) (hs0_2 : Kd.V (Kd.int .u32) 48 w w.heap.size (fun k_ => P0_2_ k_) (.slice A0_2 l0_2.length c0_2) l0_2) (h : rational_Whole.f k a0_0 l0_1 l0_2 = some (r1, r2)) :
 Calls Try.prog 107 #[.agg #[.bool a0_0, .slice A0_1 l0_1.length c0_1, .slice A0_2 l0_2.length c0_2]] w fun e w' => ∃ v0_ : Value, e = .returned (.tuple #[v0_, .bool r2]) ∧ Kd.V (Kd.int .u32) 48 w' w.heap.size (fun k_ => ((P0_1_ k_ ∨ P0_2_ k_) ∨ w.heap.size ≤ k_)) v0_ r1 ∧ Below w.heap.size w w' := by
 have bU := Try.underlying67
 have ae := am (show Kd.V (Kd.int .u32) 48 w w.heap.size (fun k_ => ((P0_1_ k_ ∨ P0_2_ k_) ∨ w.heap.size ≤ k_)) (.slice A0_1 l0_1.length c0_1) l0_1 from Kd.V_mono hs0_1 (fun k_ hk => .inl (.inl hk)))
 have af := am (show Kd.V (Kd.int .u32) 48 w w.heap.size (fun k_ => ((P0_1_ k_ ∨ P0_2_ k_) ∨ w.heap.size ≤ k_)) (.slice A0_2 l0_2.length c0_2) l0_2 from Kd.V_mono hs0_2 (fun k_ hk => .inl (.inr hk)))
 have HB := am (Below.refl w.heap.size w)
 have H : ((rational_Trim.f k a0_0 l0_1 l0_2).bind fun az => (if az.1 = true then (some (([] : List Int), false)) else ((rational_one.f).bind fun al => ((nat_Cmp.f k az.2.2 al).bind fun ak => (if ak = 0 then (some (az.2.1, true)) else (some (([] : List Int), false))))))) = some (r1, r2) := h
 clear h
 obtain ⟨⟨aR, ah, ag⟩, A2, H⟩ := bs H
 (try dsimp -simprocs only at H)
 by_cases c3 : aR = true
 ·
  subst c3
  have H1 : (some (([] : List Int), false)) = some (r1, r2) := by rw [if_pos rfl] at H; exact H
  clear H
  have H := H1
  clear H1
  simp only [Option.some.injEq, Prod.mk.injEq] at H
  obtain ⟨rfl, rfl⟩ := H
  go_enter Try.func107, Try.ntmps107
  try go_wp2_with (first | ((with_reducible refine gate_dst (N := 1) rfl ?_); refine box_event ?hg (N := 1) ?hd (cs := #[.bool a0_0, .slice A0_1 l0_1.length c0_1, .slice A0_2 l0_2.length c0_2]) (t := 67) ?hr ?_; (case hd => rfl); (case hg => rfl); (case hr => first | (go_simp; done) | (go_simp; rfl)); intro aa hg w4 hbox hb; replace ae := ke ae hg hb; replace af := ke af hg hb; have ab := am (hbox); have aA := ng hg (bu HB.out); have ai := ng hg (bu HB.out); replace HB := be HB hb; clear hb hbox hg; obtain ⟨bw, bx, bA, bB, bC, bD⟩ := bz ab) | ((with_reducible refine gate_callee (f := 87) rfl ?_); refine goesL_ (some 5) rfl rfl Try.func87 (by kernel_rfl) rfl #[.agg #[.bool a0_0, .slice A0_1 l0_1.length c0_1, .slice A0_2 l0_2.length c0_2]] rfl lu ?_; (with_reducible refine (rational_Trim.calls k a0_0 (fun k_ => (((P0_1_ k_ ∨ P0_2_ k_) ∨ w.heap.size ≤ k_) ∧ k_ ≠ aa)) _ _ l0_1 (fun k_ => (((P0_1_ k_ ∨ P0_2_ k_) ∨ w.heap.size ≤ k_) ∧ k_ ≠ aa)) _ _ l0_2 true ah ag _ ?side1 ?side2 A2.out).mono ?_); (case side1 => exact vz ae.out); (case side2 => exact vz af.out); rintro e w6 ⟨aL, aM, rfl, ay, aN, hb⟩; refine ⟨_, rfl, ?_⟩; replace ae := kv ae hb; replace af := kv af hb; have ad := ar w.heap.size (ok' := fun k_ => ((P0_1_ k_ ∨ P0_2_ k_) ∨ w.heap.size ≤ k_) ∧ k_ ≠ aa) ay (fa (fz1 HB ai) (fb ab)); have ac := ar w.heap.size (ok' := fun k_ => ((P0_1_ k_ ∨ P0_2_ k_) ∨ w.heap.size ≤ k_) ∧ k_ ≠ aa) aN (fa (fz1 HB ai) (fb ab)); replace ab := kb ab hb; replace HB := be1 HB ai hb; (try clear hb); (try clear ay); (try clear aN); obtain ⟨bE, bF, bG, bH, bI, bJ⟩ := bz ab; obtain ⟨aB, aC, bV⟩ := Kd.V_slice ad.out; subst bV; obtain ⟨aJ, aK, bW⟩ := Kd.V_slice ac.out; subst bW))
  have aD : Aside0 (Kd.V (Kd.int .u32) 48 (((w6.setCell ⟨aa, 0, none⟩ (.bool true)).setCell ⟨aa, 1, none⟩ (.slice aB ah.length aC)).setCell ⟨aa, 2, none⟩ (.slice aJ ag.length aK)) w.heap.size (fun k_ => ((P0_1_ k_ ∨ P0_2_ k_) ∨ w.heap.size ≤ k_) ∧ k_ ≠ aa) (.slice A0_1 l0_1.length c0_1) l0_1) := ⟨by exact vf ae.out⟩
  have aE : Aside0 (Kd.V (Kd.int .u32) 48 (((w6.setCell ⟨aa, 0, none⟩ (.bool true)).setCell ⟨aa, 1, none⟩ (.slice aB ah.length aC)).setCell ⟨aa, 2, none⟩ (.slice aJ ag.length aK)) w.heap.size (fun k_ => ((P0_1_ k_ ∨ P0_2_ k_) ∨ w.heap.size ≤ k_) ∧ k_ ≠ aa) (.slice A0_2 l0_2.length c0_2) l0_2) := ⟨by exact vf af.out⟩
  have aF : Aside0 (Kd.V (Kd.int .u32) 48 (((w6.setCell ⟨aa, 0, none⟩ (.bool true)).setCell ⟨aa, 1, none⟩ (.slice aB ah.length aC)).setCell ⟨aa, 2, none⟩ (.slice aJ ag.length aK)) w.heap.size (fun k_ => ((P0_1_ k_ ∨ P0_2_ k_) ∨ w.heap.size ≤ k_) ∧ k_ ≠ aa) (.slice aB ah.length aC) ah) := ⟨by exact vf ad.out⟩
  have aG : Aside0 (Kd.V (Kd.int .u32) 48 (((w6.setCell ⟨aa, 0, none⟩ (.bool true)).setCell ⟨aa, 1, none⟩ (.slice aB ah.length aC)).setCell ⟨aa, 2, none⟩ (.slice aJ ag.length aK)) w.heap.size (fun k_ => ((P0_1_ k_ ∨ P0_2_ k_) ∨ w.heap.size ≤ k_) ∧ k_ ≠ aa) (.slice aJ ag.length aK) ag) := ⟨by exact vf ac.out⟩
  have aH : Aside0 ((((w6.setCell ⟨aa, 0, none⟩ (.bool true)).setCell ⟨aa, 1, none⟩ (.slice aB ah.length aC)).setCell ⟨aa, 2, none⟩ (.slice aJ ag.length aK)).heap[aa]? = some (.cells #[.bool true, .slice aB ah.length aC, .slice aJ ag.length aK] 67 (0, 0))) := ⟨by (with_reducible repeat (first | refine blk_drewN ?_ _ | refine blk_drew ?_ | refine blk_alloc ?_ _)); refine blk_put (cs := #[.bool true, .slice aB ah.length aC, .slice A0_2 l0_2.length c0_2]) ?_ 2 _ rfl; (with_reducible repeat (first | refine blk_drewN ?_ _ | refine blk_drew ?_ | refine blk_alloc ?_ _)); refine blk_put (cs := #[.bool true, .slice A0_1 l0_1.length c0_1, .slice A0_2 l0_2.length c0_2]) ?_ 1 _ rfl; (with_reducible repeat (first | refine blk_drewN ?_ _ | refine blk_drew ?_ | refine blk_alloc ?_ _)); refine blk_put (cs := #[.bool a0_0, .slice A0_1 l0_1.length c0_1, .slice A0_2 l0_2.length c0_2]) ?_ 0 _ rfl; (with_reducible repeat (first | refine blk_drewN ?_ _ | refine blk_drew ?_ | refine blk_alloc ?_ _)); exact ab.out⟩
  have aI : Aside0 (Below w.heap.size w (((w6.setCell ⟨aa, 0, none⟩ (.bool true)).setCell ⟨aa, 1, none⟩ (.slice aB ah.length aC)).setCell ⟨aa, 2, none⟩ (.slice aJ ag.length aK))) := ⟨by repeat (first | (with_reducible first | exact HB.out | apply below_alloc | apply pw_below_drewN | apply below_drew1 | refine below_set ?_ ai.out) | exact HB.out)⟩
  (try clear ae)
  (try clear af)
  (try clear ad)
  (try clear ac)
  (try clear ab)
  (try clear HB)
  generalize (((w6.setCell ⟨aa, 0, none⟩ (.bool true)).setCell ⟨aa, 1, none⟩ (.slice aB ah.length aC)).setCell ⟨aa, 2, none⟩ (.slice aJ ag.length aK)) = bX at aD aE aF aG aH aI ⊢
  have ae := aD
  have af := aE
  have ad := aF
  have ac := aG
  have ab := aH
  have HB := aI
  clear aD aE aF aG aH aI
  replace ae := am (Kd.V_drew ae.out)
  replace af := am (Kd.V_drew af.out)
  replace ad := am (Kd.V_drew ad.out)
  replace ac := am (Kd.V_drew ac.out)
  replace ab := am (blk_drew ab.out)
  replace HB := am (below_drew1 HB.out)
  refine start_ (n := 9) (S := fun w' => w'.cell? ⟨aa, 0, none⟩ = some (.bool true) ∧ w'.cell? ⟨aa, 1, none⟩ = some (.slice aB ah.length aC) ∧ w'.cell? ⟨aa, 2, none⟩ = some (.slice aJ ag.length aK)) (ds := []) #[false, false, false, false, false, false, false, false, false] (by kernel_rfl) rfl rfl ⟨bc ab 0, bc ab 1, bc ab 2⟩ (fun hHeld => ?_); refine with_tabW rational_Whole.tab2 rational_Whole.bits2 (fun HT_ HW_ => ?_)
  generalize bX.drew = b0 at ae af ad ac ab HB hHeld ⊢
  refine pq 0 (some 6) #[true, false, false, false, false, false, false, false, false] HT_ ?_
  refine tq 1 (some 7) #[true, true, false, false, false, false, false, false, false] HT_ HW_ hHeld ?_
  refine pq 2 (some 8) #[true, true, true, false, false, false, false, false, false] HT_ ?_
  refine pure_ (i := 3) (N := some 9) (v := undef) (a' := ?_) #[true, true, true, true, false, false, false, false, false] rfl rfl (any_of HT_.out (by kernel_rfl)) (fun _ _ _ h => h) (Or.inr ⟨by rfl, rfl⟩) ?_ ?_
  rotate_left
  ·
   simp only [Act.put, List.setIfInBounds_toArray, List.set_cons_zero, List.set_cons_succ, i64_w, i32_w]
   rfl
  refine pure_ (i := 4) (N := some 10) (v := undef) (a' := ?_) #[true, true, true, true, true, false, false, false, false] rfl rfl (any_of HT_.out (by kernel_rfl)) (fun _ _ _ h => h) (Or.inr ⟨by rfl, rfl⟩) ?_ ?_
  rotate_left
  ·
   simp only [Act.put, List.setIfInBounds_toArray, List.set_cons_zero, List.set_cons_succ, i64_w, i32_w]
   rfl
  refine pure_ (i := 5) (N := some 11) (v := undef) (a' := ?_) #[true, true, true, true, true, true, false, false, false] rfl rfl (any_of HT_.out (by kernel_rfl)) (fun _ _ _ h => h) (Or.inr ⟨by rfl, rfl⟩) ?_ ?_
  rotate_left
  ·
   simp only [Act.put, List.setIfInBounds_toArray, List.set_cons_zero, List.set_cons_succ, i64_w, i32_w]
   rfl
  refine pure_ (i := 6) (N := some 12) (v := undef) (a' := ?_) #[true, true, true, true, true, true, true, false, false] rfl rfl (any_of HT_.out (by kernel_rfl)) (fun _ _ _ h => h) (Or.inr ⟨by rfl, rfl⟩) ?_ ?_
  rotate_left
  ·
   simp only [Act.put, List.setIfInBounds_toArray, List.set_cons_zero, List.set_cons_succ, i64_w, i32_w]
   rfl
  refine pure_ (i := 7) (N := some 13) (v := undef) (a' := ?_) #[true, true, true, true, true, true, true, true, false] rfl rfl (any_of HT_.out (by kernel_rfl)) (fun _ _ _ h => h) (Or.inr ⟨by rfl, rfl⟩) ?_ ?_
  rotate_left
  ·
   simp only [Act.put, List.setIfInBounds_toArray, List.set_cons_zero, List.set_cons_succ, i64_w, i32_w]
   rfl
  refine pq 8 (some 14) #[true, true, true, true, true, true, true, true, true] HT_ ?_
  refine done_ (done_of HT_.out (by kernel_rfl)) ?_
  try go_wp2
  go_ret2
  exact ⟨_, by first | rfl | (simp [errW_none, errW_some] <;> rfl) | (simp [*, errW_none, errW_some] <;> rfl), Kd.V_nil _ _ _ _ _, by repeat (first | (with_reducible first | exact HB.out | apply below_alloc | apply pw_below_drewN | apply below_drew1 | refine below_set ?_ ai.out) | exact HB.out)⟩
 ·
  replace c3 := Bool.eq_false_iff.mpr c3
  subst c3
  have H1 : ((rational_one.f).bind fun al => ((nat_Cmp.f k ag al).bind fun ak => (if ak = 0 then (some (ah, true)) else (some (([] : List Int), false))))) = some (r1, r2) := by rw [if_neg (show ¬ (false = true) by decide)] at H; exact H
  clear H
  have H := H1
  clear H1
  obtain ⟨al, bS, H⟩ := bs H
  (try dsimp -simprocs only at H)
  obtain ⟨ak, bT, H⟩ := bs H
  (try dsimp -simprocs only at H)
  by_cases aO : ak = 0
  ·
   rw [if_pos aO] at H
   have aS : (ak == 0) = true := beq_iff_eq.mpr aO
   have aT : (ak != 0) = false := bne_eq_false_iff_eq.mpr aO
   clear aO
   simp only [Option.some.injEq, Prod.mk.injEq] at H
   obtain ⟨rfl, rfl⟩ := H
   go_enter Try.func107, Try.ntmps107
   try go_wp2_with (first | ((with_reducible refine gate_dst (N := 1) rfl ?_); refine box_event ?hg (N := 1) ?hd (cs := #[.bool a0_0, .slice A0_1 l0_1.length c0_1, .slice A0_2 l0_2.length c0_2]) (t := 67) ?hr ?_; (case hd => rfl); (case hg => rfl); (case hr => first | (go_simp; done) | (go_simp; rfl)); intro aa hg b1 hbox hb; replace ae := ke ae hg hb; replace af := ke af hg hb; have ab := am (hbox); have aA := ng hg (bu HB.out); have ai := ng hg (bu HB.out); replace HB := be HB hb; clear hb hbox hg; obtain ⟨aX, aY, aZ, a0, a1, a2⟩ := bz ab) | ((with_reducible refine gate_callee (f := 87) rfl ?_); refine goesL_ (some 5) rfl rfl Try.func87 (by kernel_rfl) rfl #[.agg #[.bool a0_0, .slice A0_1 l0_1.length c0_1, .slice A0_2 l0_2.length c0_2]] rfl lu ?_; (with_reducible refine (rational_Trim.calls k a0_0 (fun k_ => (((P0_1_ k_ ∨ P0_2_ k_) ∨ w.heap.size ≤ k_) ∧ k_ ≠ aa)) _ _ l0_1 (fun k_ => (((P0_1_ k_ ∨ P0_2_ k_) ∨ w.heap.size ≤ k_) ∧ k_ ≠ aa)) _ _ l0_2 false ah ag _ ?side1 ?side2 A2.out).mono ?_); (case side1 => exact vz ae.out); (case side2 => exact vz af.out); rintro e aP ⟨aL, aM, rfl, ay, aN, hb⟩; refine ⟨_, rfl, ?_⟩; replace ae := kv ae hb; replace af := kv af hb; have ad := ar w.heap.size (ok' := fun k_ => ((P0_1_ k_ ∨ P0_2_ k_) ∨ w.heap.size ≤ k_) ∧ k_ ≠ aa) ay (fa (fz1 HB ai) (fb ab)); have ac := ar w.heap.size (ok' := fun k_ => ((P0_1_ k_ ∨ P0_2_ k_) ∨ w.heap.size ≤ k_) ∧ k_ ≠ aa) aN (fa (fz1 HB ai) (fb ab)); replace ab := kb ab hb; replace HB := be1 HB ai hb; (try clear hb); (try clear ay); (try clear aN); obtain ⟨a3, a4, a5, a6, a7, a8⟩ := bz ab; obtain ⟨an, ao, bK⟩ := Kd.V_slice ad.out; subst bK; obtain ⟨ap, aq, bL⟩ := Kd.V_slice ac.out; subst bL))
   have aD : Aside0 (Kd.V (Kd.int .u32) 48 (((aP.setCell ⟨aa, 0, none⟩ (.bool false)).setCell ⟨aa, 1, none⟩ (.slice an ah.length ao)).setCell ⟨aa, 2, none⟩ (.slice ap ag.length aq)) w.heap.size (fun k_ => ((P0_1_ k_ ∨ P0_2_ k_) ∨ w.heap.size ≤ k_) ∧ k_ ≠ aa) (.slice A0_1 l0_1.length c0_1) l0_1) := ⟨by exact vf ae.out⟩
   have aE : Aside0 (Kd.V (Kd.int .u32) 48 (((aP.setCell ⟨aa, 0, none⟩ (.bool false)).setCell ⟨aa, 1, none⟩ (.slice an ah.length ao)).setCell ⟨aa, 2, none⟩ (.slice ap ag.length aq)) w.heap.size (fun k_ => ((P0_1_ k_ ∨ P0_2_ k_) ∨ w.heap.size ≤ k_) ∧ k_ ≠ aa) (.slice A0_2 l0_2.length c0_2) l0_2) := ⟨by exact vf af.out⟩
   have aF : Aside0 (Kd.V (Kd.int .u32) 48 (((aP.setCell ⟨aa, 0, none⟩ (.bool false)).setCell ⟨aa, 1, none⟩ (.slice an ah.length ao)).setCell ⟨aa, 2, none⟩ (.slice ap ag.length aq)) w.heap.size (fun k_ => ((P0_1_ k_ ∨ P0_2_ k_) ∨ w.heap.size ≤ k_) ∧ k_ ≠ aa) (.slice an ah.length ao) ah) := ⟨by exact vf ad.out⟩
   have aG : Aside0 (Kd.V (Kd.int .u32) 48 (((aP.setCell ⟨aa, 0, none⟩ (.bool false)).setCell ⟨aa, 1, none⟩ (.slice an ah.length ao)).setCell ⟨aa, 2, none⟩ (.slice ap ag.length aq)) w.heap.size (fun k_ => ((P0_1_ k_ ∨ P0_2_ k_) ∨ w.heap.size ≤ k_) ∧ k_ ≠ aa) (.slice ap ag.length aq) ag) := ⟨by exact vf ac.out⟩
   have aH : Aside0 ((((aP.setCell ⟨aa, 0, none⟩ (.bool false)).setCell ⟨aa, 1, none⟩ (.slice an ah.length ao)).setCell ⟨aa, 2, none⟩ (.slice ap ag.length aq)).heap[aa]? = some (.cells #[.bool false, .slice an ah.length ao, .slice ap ag.length aq] 67 (0, 0))) := ⟨by (with_reducible repeat (first | refine blk_drewN ?_ _ | refine blk_drew ?_ | refine blk_alloc ?_ _)); refine blk_put (cs := #[.bool false, .slice an ah.length ao, .slice A0_2 l0_2.length c0_2]) ?_ 2 _ rfl; (with_reducible repeat (first | refine blk_drewN ?_ _ | refine blk_drew ?_ | refine blk_alloc ?_ _)); refine blk_put (cs := #[.bool false, .slice A0_1 l0_1.length c0_1, .slice A0_2 l0_2.length c0_2]) ?_ 1 _ rfl; (with_reducible repeat (first | refine blk_drewN ?_ _ | refine blk_drew ?_ | refine blk_alloc ?_ _)); refine blk_put (cs := #[.bool a0_0, .slice A0_1 l0_1.length c0_1, .slice A0_2 l0_2.length c0_2]) ?_ 0 _ rfl; (with_reducible repeat (first | refine blk_drewN ?_ _ | refine blk_drew ?_ | refine blk_alloc ?_ _)); exact ab.out⟩
   have aI : Aside0 (Below w.heap.size w (((aP.setCell ⟨aa, 0, none⟩ (.bool false)).setCell ⟨aa, 1, none⟩ (.slice an ah.length ao)).setCell ⟨aa, 2, none⟩ (.slice ap ag.length aq))) := ⟨by repeat (first | (with_reducible first | exact HB.out | apply below_alloc | apply pw_below_drewN | apply below_drew1 | refine below_set ?_ ai.out) | exact HB.out)⟩
   (try clear ae)
   (try clear af)
   (try clear ad)
   (try clear ac)
   (try clear ab)
   (try clear HB)
   generalize (((aP.setCell ⟨aa, 0, none⟩ (.bool false)).setCell ⟨aa, 1, none⟩ (.slice an ah.length ao)).setCell ⟨aa, 2, none⟩ (.slice ap ag.length aq)) = bY at aD aE aF aG aH aI ⊢
   have ae := aD
   have af := aE
   have ad := aF
   have ac := aG
   have ab := aH
   have HB := aI
   clear aD aE aF aG aH aI
   replace ae := am (Kd.V_drew ae.out)
   replace af := am (Kd.V_drew af.out)
   replace ad := am (Kd.V_drew ad.out)
   replace ac := am (Kd.V_drew ac.out)
   replace ab := am (blk_drew ab.out)
   replace HB := am (below_drew1 HB.out)
   refine start_ (n := 9) (S := fun w' => w'.cell? ⟨aa, 0, none⟩ = some (.bool false) ∧ w'.cell? ⟨aa, 1, none⟩ = some (.slice an ah.length ao) ∧ w'.cell? ⟨aa, 2, none⟩ = some (.slice ap ag.length aq)) (ds := []) #[false, false, false, false, false, false, false, false, false] (by kernel_rfl) rfl rfl ⟨bc ab 0, bc ab 1, bc ab 2⟩ (fun hHeld => ?_); refine with_tabW rational_Whole.tab2 rational_Whole.bits2 (fun HT_ HW_ => ?_)
   generalize bY.drew = b2 at ae af ad ac ab HB hHeld ⊢
   refine pq 0 (some 6) #[true, false, false, false, false, false, false, false, false] HT_ ?_
   refine tq 1 (some 7) #[true, true, false, false, false, false, false, false, false] HT_ HW_ hHeld ?_
   refine pq 2 (some 8) #[true, true, true, false, false, false, false, false, false] HT_ ?_
   refine pq 3 (some 9) #[true, true, true, true, false, false, false, false, false] HT_ ?_
   refine tq 4 (some 10) #[true, true, true, true, true, false, false, false, false] HT_ HW_ hHeld ?_
   refine one_ (i := 5) (N := some 11) #[true, true, true, true, true, true, false, false, false] rfl rfl (one_of HT_.out (by kernel_rfl)) (by decide) (fun K hK => ?_)
   refine goes_ Try.func161 (by kernel_rfl) rfl #[] (by rfl) rfl rfl lu ?_
   with_reducible refine (rational_one.calls  al _ bS.out).mono ?_
   rintro e b3 ⟨aU, rfl, ay, hb⟩
   refine ⟨_, rfl, ?_⟩
   replace ay := R_V_base rfl ay
   replace ae := kv ae hb
   replace af := kv af hb
   replace ad := kv ad hb
   replace ac := kv ac hb
   have aj := ar0 w.heap.size (ok' := fun k_ => ((P0_1_ k_ ∨ P0_2_ k_) ∨ w.heap.size ≤ k_) ∧ k_ ≠ aa) ay (fa (fz1 HB ai) (fb ab))
   replace ab := kb ab hb
   replace HB := be1 HB ai hb
   (try clear hb)
   (try clear hb2)
   (try clear hk)
   (try clear hi)
   (try clear ay)
   obtain ⟨bM, bN, aV⟩ := Kd.V_slice aj.out
   (first | subst aV | (injection aV with f1_ f2_ f3_; have f4_ := f1_.symm; have f5_ := f3_.symm; clear f1_ f2_ f3_; subst f4_; subst f5_))
   refine hK.out _ _ ⟨bc ab 0, bc ab 1, bc ab 2⟩ (fun hHeld => ?_)
   clear hK K
   refine nq 11 ?_
   refine one_ (i := 6) (N := some 12) #[true, true, true, true, true, true, true, false, false] rfl rfl (one_of HT_.out (by kernel_rfl)) (by decide) (fun K hK => ?_)
   refine goes_ Try.func146 (by kernel_rfl) rfl #[.slice ap ag.length aq, .slice bM al.length bN] (by rfl) rfl rfl lu ?_
   with_reducible refine (nat_Cmp.calls k _ _ ag _ _ al ak _ ?side1 ?side2 ?side3 ?side4 bT.out).mono ?_
   (case side1 => exact cu (Kd.V_reads' ac.out).2.2)
   (case side2 => exact (Kd.V_reads' ac.out).2.1)
   (case side3 => exact cu (Kd.V_reads' aj.out).2.2)
   (case side4 => exact (Kd.V_reads' aj.out).2.1)
   rintro e b4 ⟨rfl, hb⟩
   refine ⟨_, rfl, ?_⟩
   replace ae := kv ae hb
   replace af := kv af hb
   replace ad := kv ad hb
   replace ac := kv ac hb
   replace aj := kv aj hb
   replace ab := kb ab hb
   replace HB := be1 HB ai hb
   (try clear hb)
   (try clear hb2)
   (try clear hk)
   (try clear hi)
   refine hK.out _ _ ⟨bc ab 0, bc ab 1, bc ab 2⟩ (fun hHeld => ?_)
   clear hK K
   refine nq 12 ?_
   refine pq 7 (some 13) #[true, true, true, true, true, true, true, true, false] HT_ ?_
   refine pq 8 (some 14) #[true, true, true, true, true, true, true, true, true] HT_ ?_
   refine done_ (done_of HT_.out (by kernel_rfl)) ?_
   obtain ⟨a9, ba, bb, bd, bf, bg⟩ := bz ab
   try go_wp2
   go_ret2
   exact ⟨_, by first | rfl | (simp [errW_none, errW_some] <;> rfl) | (simp [*, errW_none, errW_some] <;> rfl), by exact vz ad.out, by repeat (first | (with_reducible first | exact HB.out | apply below_alloc | apply pw_below_drewN | apply below_drew1 | refine below_set ?_ ai.out) | exact HB.out)⟩
  ·
   rw [if_neg aO] at H
   have aS : (ak == 0) = false := beq_eq_false_iff_ne.mpr aO
   have aT : (ak != 0) = true := bne_iff_ne.mpr aO
   simp only [Option.some.injEq, Prod.mk.injEq] at H
   obtain ⟨rfl, rfl⟩ := H
   go_enter Try.func107, Try.ntmps107
   try go_wp2_with (first | ((with_reducible refine gate_dst (N := 1) rfl ?_); refine box_event ?hg (N := 1) ?hd (cs := #[.bool a0_0, .slice A0_1 l0_1.length c0_1, .slice A0_2 l0_2.length c0_2]) (t := 67) ?hr ?_; (case hd => rfl); (case hg => rfl); (case hr => first | (go_simp; done) | (go_simp; rfl)); intro aa hg b5 hbox hb; replace ae := ke ae hg hb; replace af := ke af hg hb; have ab := am (hbox); have aA := ng hg (bu HB.out); have ai := ng hg (bu HB.out); replace HB := be HB hb; clear hb hbox hg; obtain ⟨bh, bi, bj, bk, bl, bm⟩ := bz ab) | ((with_reducible refine gate_callee (f := 87) rfl ?_); refine goesL_ (some 5) rfl rfl Try.func87 (by kernel_rfl) rfl #[.agg #[.bool a0_0, .slice A0_1 l0_1.length c0_1, .slice A0_2 l0_2.length c0_2]] rfl lu ?_; (with_reducible refine (rational_Trim.calls k a0_0 (fun k_ => (((P0_1_ k_ ∨ P0_2_ k_) ∨ w.heap.size ≤ k_) ∧ k_ ≠ aa)) _ _ l0_1 (fun k_ => (((P0_1_ k_ ∨ P0_2_ k_) ∨ w.heap.size ≤ k_) ∧ k_ ≠ aa)) _ _ l0_2 false ah ag _ ?side1 ?side2 A2.out).mono ?_); (case side1 => exact vz ae.out); (case side2 => exact vz af.out); rintro e aQ ⟨aL, aM, rfl, ay, aN, hb⟩; refine ⟨_, rfl, ?_⟩; replace ae := kv ae hb; replace af := kv af hb; have ad := ar w.heap.size (ok' := fun k_ => ((P0_1_ k_ ∨ P0_2_ k_) ∨ w.heap.size ≤ k_) ∧ k_ ≠ aa) ay (fa (fz1 HB ai) (fb ab)); have ac := ar w.heap.size (ok' := fun k_ => ((P0_1_ k_ ∨ P0_2_ k_) ∨ w.heap.size ≤ k_) ∧ k_ ≠ aa) aN (fa (fz1 HB ai) (fb ab)); replace ab := kb ab hb; replace HB := be1 HB ai hb; (try clear hb); (try clear ay); (try clear aN); obtain ⟨bn, bo, bp, bq, br, bv⟩ := bz ab; obtain ⟨au, av, bO⟩ := Kd.V_slice ad.out; subst bO; obtain ⟨aw, ax, bP⟩ := Kd.V_slice ac.out; subst bP))
   have aD : Aside0 (Kd.V (Kd.int .u32) 48 (((aQ.setCell ⟨aa, 0, none⟩ (.bool false)).setCell ⟨aa, 1, none⟩ (.slice au ah.length av)).setCell ⟨aa, 2, none⟩ (.slice aw ag.length ax)) w.heap.size (fun k_ => ((P0_1_ k_ ∨ P0_2_ k_) ∨ w.heap.size ≤ k_) ∧ k_ ≠ aa) (.slice A0_1 l0_1.length c0_1) l0_1) := ⟨by exact vf ae.out⟩
   have aE : Aside0 (Kd.V (Kd.int .u32) 48 (((aQ.setCell ⟨aa, 0, none⟩ (.bool false)).setCell ⟨aa, 1, none⟩ (.slice au ah.length av)).setCell ⟨aa, 2, none⟩ (.slice aw ag.length ax)) w.heap.size (fun k_ => ((P0_1_ k_ ∨ P0_2_ k_) ∨ w.heap.size ≤ k_) ∧ k_ ≠ aa) (.slice A0_2 l0_2.length c0_2) l0_2) := ⟨by exact vf af.out⟩
   have aF : Aside0 (Kd.V (Kd.int .u32) 48 (((aQ.setCell ⟨aa, 0, none⟩ (.bool false)).setCell ⟨aa, 1, none⟩ (.slice au ah.length av)).setCell ⟨aa, 2, none⟩ (.slice aw ag.length ax)) w.heap.size (fun k_ => ((P0_1_ k_ ∨ P0_2_ k_) ∨ w.heap.size ≤ k_) ∧ k_ ≠ aa) (.slice au ah.length av) ah) := ⟨by exact vf ad.out⟩
   have aG : Aside0 (Kd.V (Kd.int .u32) 48 (((aQ.setCell ⟨aa, 0, none⟩ (.bool false)).setCell ⟨aa, 1, none⟩ (.slice au ah.length av)).setCell ⟨aa, 2, none⟩ (.slice aw ag.length ax)) w.heap.size (fun k_ => ((P0_1_ k_ ∨ P0_2_ k_) ∨ w.heap.size ≤ k_) ∧ k_ ≠ aa) (.slice aw ag.length ax) ag) := ⟨by exact vf ac.out⟩
   have aH : Aside0 ((((aQ.setCell ⟨aa, 0, none⟩ (.bool false)).setCell ⟨aa, 1, none⟩ (.slice au ah.length av)).setCell ⟨aa, 2, none⟩ (.slice aw ag.length ax)).heap[aa]? = some (.cells #[.bool false, .slice au ah.length av, .slice aw ag.length ax] 67 (0, 0))) := ⟨by (with_reducible repeat (first | refine blk_drewN ?_ _ | refine blk_drew ?_ | refine blk_alloc ?_ _)); refine blk_put (cs := #[.bool false, .slice au ah.length av, .slice A0_2 l0_2.length c0_2]) ?_ 2 _ rfl; (with_reducible repeat (first | refine blk_drewN ?_ _ | refine blk_drew ?_ | refine blk_alloc ?_ _)); refine blk_put (cs := #[.bool false, .slice A0_1 l0_1.length c0_1, .slice A0_2 l0_2.length c0_2]) ?_ 1 _ rfl; (with_reducible repeat (first | refine blk_drewN ?_ _ | refine blk_drew ?_ | refine blk_alloc ?_ _)); refine blk_put (cs := #[.bool a0_0, .slice A0_1 l0_1.length c0_1, .slice A0_2 l0_2.length c0_2]) ?_ 0 _ rfl; (with_reducible repeat (first | refine blk_drewN ?_ _ | refine blk_drew ?_ | refine blk_alloc ?_ _)); exact ab.out⟩
   have aI : Aside0 (Below w.heap.size w (((aQ.setCell ⟨aa, 0, none⟩ (.bool false)).setCell ⟨aa, 1, none⟩ (.slice au ah.length av)).setCell ⟨aa, 2, none⟩ (.slice aw ag.length ax))) := ⟨by repeat (first | (with_reducible first | exact HB.out | apply below_alloc | apply pw_below_drewN | apply below_drew1 | refine below_set ?_ ai.out) | exact HB.out)⟩
   (try clear ae)
   (try clear af)
   (try clear ad)
   (try clear ac)
   (try clear ab)
   (try clear HB)
   generalize (((aQ.setCell ⟨aa, 0, none⟩ (.bool false)).setCell ⟨aa, 1, none⟩ (.slice au ah.length av)).setCell ⟨aa, 2, none⟩ (.slice aw ag.length ax)) = bZ at aD aE aF aG aH aI ⊢
   have ae := aD
   have af := aE
   have ad := aF
   have ac := aG
   have ab := aH
   have HB := aI
   clear aD aE aF aG aH aI
   replace ae := am (Kd.V_drew ae.out)
   replace af := am (Kd.V_drew af.out)
   replace ad := am (Kd.V_drew ad.out)
   replace ac := am (Kd.V_drew ac.out)
   replace ab := am (blk_drew ab.out)
   replace HB := am (below_drew1 HB.out)
   refine start_ (n := 9) (S := fun w' => w'.cell? ⟨aa, 0, none⟩ = some (.bool false) ∧ w'.cell? ⟨aa, 1, none⟩ = some (.slice au ah.length av) ∧ w'.cell? ⟨aa, 2, none⟩ = some (.slice aw ag.length ax)) (ds := []) #[false, false, false, false, false, false, false, false, false] (by kernel_rfl) rfl rfl ⟨bc ab 0, bc ab 1, bc ab 2⟩ (fun hHeld => ?_); refine with_tabW rational_Whole.tab2 rational_Whole.bits2 (fun HT_ HW_ => ?_)
   generalize bZ.drew = b6 at ae af ad ac ab HB hHeld ⊢
   refine pq 0 (some 6) #[true, false, false, false, false, false, false, false, false] HT_ ?_
   refine tq 1 (some 7) #[true, true, false, false, false, false, false, false, false] HT_ HW_ hHeld ?_
   refine pq 2 (some 8) #[true, true, true, false, false, false, false, false, false] HT_ ?_
   refine pq 3 (some 9) #[true, true, true, true, false, false, false, false, false] HT_ ?_
   refine tq 4 (some 10) #[true, true, true, true, true, false, false, false, false] HT_ HW_ hHeld ?_
   refine one_ (i := 5) (N := some 11) #[true, true, true, true, true, true, false, false, false] rfl rfl (one_of HT_.out (by kernel_rfl)) (by decide) (fun K hK => ?_)
   refine goes_ Try.func161 (by kernel_rfl) rfl #[] (by rfl) rfl rfl lu ?_
   with_reducible refine (rational_one.calls  al _ bS.out).mono ?_
   rintro e b7 ⟨aU, rfl, ay, hb⟩
   refine ⟨_, rfl, ?_⟩
   replace ay := R_V_base rfl ay
   replace ae := kv ae hb
   replace af := kv af hb
   replace ad := kv ad hb
   replace ac := kv ac hb
   have aj := ar0 w.heap.size (ok' := fun k_ => ((P0_1_ k_ ∨ P0_2_ k_) ∨ w.heap.size ≤ k_) ∧ k_ ≠ aa) ay (fa (fz1 HB ai) (fb ab))
   replace ab := kb ab hb
   replace HB := be1 HB ai hb
   (try clear hb)
   (try clear hb2)
   (try clear hk)
   (try clear hi)
   (try clear ay)
   obtain ⟨bQ, bR, aW⟩ := Kd.V_slice aj.out
   (first | subst aW | (injection aW with f1_ f2_ f3_; have f4_ := f1_.symm; have f5_ := f3_.symm; clear f1_ f2_ f3_; subst f4_; subst f5_))
   refine hK.out _ _ ⟨bc ab 0, bc ab 1, bc ab 2⟩ (fun hHeld => ?_)
   clear hK K
   refine nq 11 ?_
   refine one_ (i := 6) (N := some 12) #[true, true, true, true, true, true, true, false, false] rfl rfl (one_of HT_.out (by kernel_rfl)) (by decide) (fun K hK => ?_)
   refine goes_ Try.func146 (by kernel_rfl) rfl #[.slice aw ag.length ax, .slice bQ al.length bR] (by rfl) rfl rfl lu ?_
   with_reducible refine (nat_Cmp.calls k _ _ ag _ _ al ak _ ?side1 ?side2 ?side3 ?side4 bT.out).mono ?_
   (case side1 => exact cu (Kd.V_reads' ac.out).2.2)
   (case side2 => exact (Kd.V_reads' ac.out).2.1)
   (case side3 => exact cu (Kd.V_reads' aj.out).2.2)
   (case side4 => exact (Kd.V_reads' aj.out).2.1)
   rintro e b8 ⟨rfl, hb⟩
   refine ⟨_, rfl, ?_⟩
   replace ae := kv ae hb
   replace af := kv af hb
   replace ad := kv ad hb
   replace ac := kv ac hb
   replace aj := kv aj hb
   replace ab := kb ab hb
   replace HB := be1 HB ai hb
   (try clear hb)
   (try clear hb2)
   (try clear hk)
   (try clear hi)
   refine hK.out _ _ ⟨bc ab 0, bc ab 1, bc ab 2⟩ (fun hHeld => ?_)
   clear hK K
   refine nq 12 ?_
   refine pq 7 (some 13) #[true, true, true, true, true, true, true, true, false] HT_ ?_
   refine pq 8 (some 14) #[true, true, true, true, true, true, true, true, true] HT_ ?_
   refine done_ (done_of HT_.out (by kernel_rfl)) ?_
   try go_wp2
   go_ret2
   exact ⟨_, by first | rfl | (simp [errW_none, errW_some] <;> rfl) | (simp [*, errW_none, errW_some] <;> rfl), Kd.V_nil _ _ _ _ _, by repeat (first | (with_reducible first | exact HB.out | apply below_alloc | apply pw_below_drewN | apply below_drew1 | refine below_set ?_ ai.out) | exact HB.out)⟩
end Go.Proofs.Ytecfdemglbfnoaa.PT
end
