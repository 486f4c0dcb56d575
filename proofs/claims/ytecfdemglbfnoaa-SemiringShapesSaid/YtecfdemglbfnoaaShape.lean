/- What the two Shape functions of a layered graph come to: one plain function of the widths and the edges. -/
import Derived.Test.YtecfdemglbfnoaaPT26
import Derived.Test.YtecfdemglbfnoaaPT27
import Derived.Test.YtecfdemglbfnoaaOpen
namespace Go.Proofs.Ytecfdemglbfnoaa.Pure
open Go.RowKit Go.Proofs.Ytecfdemglbfnoaa.PT Go.Proofs.YtecfdemglbfnoaaW.PrintWords Go.Proofs.YtecfdemglbfnoaaW.PrintLast Go.Proofs.YtecfdemglbfnoaaW.PrintMore

def Q64 (x : Int) : Prop := IntKind.i64.min ≤ x ∧ x ≤ IntKind.i64.max
theorem q64 {x : Int} (h : Q64 x) : -9223372036854775808 ≤ x ∧ x ≤ 9223372036854775807 := h
theorem up_nat {i n : Nat} (h : i < n) (hn : n ≤ 9223372036854775807) : wrap64 ((i : Int) + 1) = ((i + 1 : Nat) : Int) := by
  unfold wrap64; omega
theorem rd_at (l : List Int) (i : Nat) (h : i < l.length) : l.drop i = rd l (i : Int) :: l.drop (i + 1) := by
  rw [List.drop_eq_getElem_cons h]; simp [rd, h]
theorem rdT_at (l : List S124) (i : Nat) (h : i < l.length) : l.drop i = rd_T124 l (i : Int) :: l.drop (i + 1) := by
  rw [List.drop_eq_getElem_cons h]; simp [rd_T124, h]
theorem rdL_at (l : List (List S124)) (i : Nat) (h : i < l.length) : l.drop i = rd_L2 l (i : Int) :: l.drop (i + 1) := by
  rw [List.drop_eq_getElem_cons h]; simp [rd_L2, h]
theorem rd_mem (l : List Int) (i : Nat) (h : i < l.length) : rd l (i : Int) ∈ l := by simp [rd, h]
theorem rdL_mem (l : List (List S124)) (i : Nat) (h : i < l.length) : rd_L2 l (i : Int) ∈ l := by simp [rd_L2, h]

def edgeOk (a b : Int) (e : S124) : Bool := decide (0 ≤ e.f0) && (decide (e.f0 < a) && (decide (0 ≤ e.f2) && decide (e.f2 < b)))
def rowsOk (W : List Int) (i : Nat) : List (List S124) → Bool
  | [] => true
  | r :: rs => r.all (edgeOk (rd W (i : Int)) (rd W ((i + 1 : Nat) : Int))) && rowsOk W (i + 1) rs
def nodesBig (acc : Int) : List Int → Bool
  | [] => false
  | w :: ws => decide (65536 - acc < w) || nodesBig (acc + w) ws
def edgesBig (acc : Int) : List (List S124) → Bool
  | [] => false
  | r :: rs => decide (262144 < acc + (r.length : Int)) || edgesBig (acc + (r.length : Int)) rs
def shapeAt (W : List Int) (E : List (List S124)) : Int :=
  if 64 < E.length then 3 else if W.length ≠ E.length + 1 then 3 else if W.all (fun w => decide (1 ≤ w)) = false then 6 else if nodesBig 0 W = true then 8 else if edgesBig 0 E = true then 8 else if rowsOk W 0 E = true then 0 else 6

section
theorem s_l4 (W : List Int) (E : List (List S124)) (hW : W.length = E.length + 1) (hE : E.length ≤ 64) (i : Nat) (hi : i < E.length) (row : List S124) (hr : row.length ≤ 9223372036854775807) (R : Int) (hR : Ev (fun k => semiring_Shape.l3 k E (E.length : Int) ((i + 1 : Nat) : Int) W E) R) (d : Nat) : ∀ j : Nat, j + d = row.length →
    Ev (fun k => semiring_Shape.l4 k (i : Int) E (E.length : Int) (i : Int) row (row.length : Int) (j : Int) W E) (if (row.drop j).all (edgeOk (rd W (i : Int)) (rd W ((i + 1 : Nat) : Int))) = true then R else 6) := by
  induction d with
  | zero =>
    intro j hj
    rw [List.drop_of_length_le (by omega)]
    refine Ev.step (f := fun k => semiring_Shape.l3 k E (E.length : Int) ((i + 1 : Nat) : Int) W E) (fun k => ?_) hR
    simp only [semiring_Shape.l4]; rw [if_neg (by omega), up_nat hi (by omega)]
  | succ d ih =>
    intro j hj
    rw [rdT_at row j (by omega), List.all_cons]
    generalize hx : rd_T124 row (j : Int) = x
    by_cases h1 : x.f0 < 0
    · have e : edgeOk (rd W (i : Int)) (rd W ((i + 1 : Nat) : Int)) x = false := by simp [edgeOk]; omega
      rw [e]
      refine Ev.step (fun k => ?_) (Ev.now 6)
      simp only [semiring_Shape.l4]; rw [if_pos (by omega), if_pos (by omega), if_pos (by omega), hx, if_pos h1]
    by_cases h2 : x.f0 ≥ rd W (i : Int)
    · have e : edgeOk (rd W (i : Int)) (rd W ((i + 1 : Nat) : Int)) x = false := by simp [edgeOk]; omega
      rw [e]
      refine Ev.step (fun k => ?_) (Ev.now 6)
      simp only [semiring_Shape.l4]; rw [if_pos (by omega), if_pos (by omega), if_pos (by omega), hx, if_neg h1, if_pos (by omega), if_pos (by omega), if_pos h2]
    by_cases h3 : x.f2 < 0
    · have e : edgeOk (rd W (i : Int)) (rd W ((i + 1 : Nat) : Int)) x = false := by simp [edgeOk]; omega
      rw [e]
      refine Ev.step (fun k => ?_) (Ev.now 6)
      simp only [semiring_Shape.l4]; rw [if_pos (by omega), if_pos (by omega), if_pos (by omega), hx, if_neg h1, if_pos (by omega), if_pos (by omega), if_neg h2, if_pos h3]
    by_cases h4 : x.f2 ≥ rd W ((i + 1 : Nat) : Int)
    · have e : edgeOk (rd W (i : Int)) (rd W ((i + 1 : Nat) : Int)) x = false := by unfold edgeOk; rw [decide_eq_false (show ¬ x.f2 < rd W ((i + 1 : Nat) : Int) by omega)]; simp
      rw [e]
      refine Ev.step (fun k => ?_) (Ev.now 6)
      simp only [semiring_Shape.l4]; rw [if_pos (by omega), if_pos (by omega), if_pos (by omega), hx, if_neg h1, if_pos (by omega), if_pos (by omega), if_neg h2, if_neg h3, up_nat hi (by omega), if_pos (by omega), if_pos (by omega), if_pos h4]
    · have e : edgeOk (rd W (i : Int)) (rd W ((i + 1 : Nat) : Int)) x = true := by unfold edgeOk; rw [decide_eq_true (show x.f2 < rd W ((i + 1 : Nat) : Int) by omega), decide_eq_true (show 0 ≤ x.f0 by omega), decide_eq_true (show x.f0 < rd W (i : Int) by omega), decide_eq_true (show 0 ≤ x.f2 by omega)]; rfl
      rw [e, Bool.true_and]
      refine Ev.step (fun k => ?_) (ih (j + 1) (by omega))
      simp only [semiring_Shape.l4]; rw [if_pos (by omega), if_pos (by omega), if_pos (by omega), hx, if_neg h1, if_pos (by omega), if_pos (by omega), if_neg h2, if_neg h3, up_nat hi (by omega), if_pos (by omega), if_pos (by omega), if_neg h4, up_nat (show j < row.length by omega) hr]
theorem s_l3 (W : List Int) (E : List (List S124)) (hW : W.length = E.length + 1) (hE : E.length ≤ 64) (hb : ∀ r ∈ E, r.length ≤ 9223372036854775807) (d : Nat) : ∀ i : Nat, i + d = E.length →
    Ev (fun k => semiring_Shape.l3 k E (E.length : Int) (i : Int) W E) (if rowsOk W i (E.drop i) = true then 0 else 6) := by
  induction d with
  | zero =>
    intro i hi
    rw [List.drop_of_length_le (by omega)]
    refine Ev.step (fun k => ?_) (Ev.now 0)
    simp only [semiring_Shape.l3]; rw [if_neg (by omega)]
  | succ d ih =>
    intro i hi
    have h4 := s_l4 W E hW hE i (by omega) (rd_L2 E (i : Int)) (hb _ (rdL_mem E i (by omega))) _ (ih (i + 1) (by omega)) (rd_L2 E (i : Int)).length 0 (by omega)
    rw [rdL_at E i (by omega), rowsOk]
    have e : (if ((rd_L2 E (i : Int)).all (edgeOk (rd W (i : Int)) (rd W ((i + 1 : Nat) : Int))) && rowsOk W (i + 1) (E.drop (i + 1))) = true then (0 : Int) else 6) = (if ((rd_L2 E (i : Int)).drop 0).all (edgeOk (rd W (i : Int)) (rd W ((i + 1 : Nat) : Int))) = true then (if rowsOk W (i + 1) (E.drop (i + 1)) = true then 0 else 6) else 6) := by
      rw [List.drop_zero]
      cases (rd_L2 E (i : Int)).all (edgeOk (rd W (i : Int)) (rd W ((i + 1 : Nat) : Int))) <;> simp
    rw [e]
    refine Ev.step (fun k => ?_) h4
    simp only [semiring_Shape.l3]; rw [if_pos (by omega), if_pos (by omega), if_pos (by omega)]; rfl
theorem s_l2 (W : List Int) (E : List (List S124)) (hW : W.length = E.length + 1) (hE : E.length ≤ 64) (hb : ∀ r ∈ E, r.length ≤ 140737488351232) (R : Int) (hR : Ev (fun k => semiring_Shape.l3 k E (E.length : Int) 0 W E) R) (d : Nat) : ∀ (i : Nat) (acc : Int), i + d = E.length → 0 ≤ acc → acc ≤ 262144 →
    Ev (fun k => semiring_Shape.l2 k acc E (E.length : Int) (i : Int) W E) (if edgesBig acc (E.drop i) = true then 8 else R) := by
  have _ := hW
  induction d with
  | zero =>
    intro i acc hi _ _
    rw [List.drop_of_length_le (by omega)]
    refine Ev.step (fun k => ?_) hR
    simp only [semiring_Shape.l2]; rw [if_neg (by omega)]
  | succ d ih =>
    intro i acc hi h0 h1
    have hl := hb _ (rdL_mem E i (by omega))
    rw [rdL_at E i (by omega), edgesBig]
    have hw : wrap64 (acc + ((rd_L2 E (i : Int)).length : Int)) = acc + ((rd_L2 E (i : Int)).length : Int) := by unfold wrap64; omega
    by_cases h : 262144 < acc + ((rd_L2 E (i : Int)).length : Int)
    · rw [decide_eq_true h, Bool.true_or]
      refine Ev.step (fun k => ?_) (Ev.now 8)
      simp only [semiring_Shape.l2]; rw [if_pos (by omega), if_pos (by omega), if_pos (by omega), hw, if_pos (by omega)]
    · rw [decide_eq_false h, Bool.false_or]
      refine Ev.step (fun k => ?_) (ih (i + 1) _ (by omega) (by omega) (by omega))
      simp only [semiring_Shape.l2]; rw [if_pos (by omega), if_pos (by omega), if_pos (by omega), hw, if_neg (by omega), up_nat (show i < E.length by omega) (by omega)]
theorem s_l1 (W : List Int) (E : List (List S124)) (hW : W.length = E.length + 1) (hE : E.length ≤ 64) (hq : ∀ w ∈ W, 1 ≤ w ∧ w ≤ 9223372036854775807) (R : Int) (hR : Ev (fun k => semiring_Shape.l2 k 0 E (E.length : Int) 0 W E) R) (d : Nat) : ∀ (i : Nat) (acc : Int), i + d = W.length → 0 ≤ acc → acc ≤ 65536 →
    Ev (fun k => semiring_Shape.l1 k acc 0 W (W.length : Int) (i : Int) W E) (if nodesBig acc (W.drop i) = true then 8 else R) := by
  induction d with
  | zero =>
    intro i acc hi _ _
    rw [List.drop_of_length_le (by omega)]
    refine Ev.step (fun k => ?_) hR
    simp only [semiring_Shape.l1]; rw [if_neg (by omega)]
  | succ d ih =>
    intro i acc hi h0 h1
    have hl := hq _ (rd_mem W i (by omega))
    rw [rd_at W i (by omega), nodesBig]
    have hw : wrap64 (65536 - acc) = 65536 - acc := by unfold wrap64; omega
    by_cases h : 65536 - acc < rd W (i : Int)
    · rw [decide_eq_true h, Bool.true_or]
      refine Ev.step (fun k => ?_) (Ev.now 8)
      simp only [semiring_Shape.l1]; rw [if_pos (by omega), if_pos (by omega), if_pos (by omega), hw, if_pos (by omega)]
    · rw [decide_eq_false h, Bool.false_or]
      have hw2 : wrap64 (acc + rd W (i : Int)) = acc + rd W (i : Int) := by unfold wrap64; omega
      refine Ev.step (fun k => ?_) (ih (i + 1) _ (by omega) (by omega) (by omega))
      simp only [semiring_Shape.l1]; rw [if_pos (by omega), if_pos (by omega), if_pos (by omega), hw, if_neg (by omega), hw2, up_nat (show i < W.length by omega) (by omega)]
theorem s_l0 (W : List Int) (E : List (List S124)) (hW : W.length = E.length + 1) (hE : E.length ≤ 64) (R : Int) (hR : W.all (fun w => decide (1 ≤ w)) = true → Ev (fun k => semiring_Shape.l1 k 0 0 W (W.length : Int) 0 W E) R) (d : Nat) : ∀ i : Nat, i + d = W.length → (W.take i).all (fun w => decide (1 ≤ w)) = true →
    Ev (fun k => semiring_Shape.l0 k W (W.length : Int) (i : Int) W E) (if (W.drop i).all (fun w => decide (1 ≤ w)) = false then 6 else R) := by
  induction d with
  | zero =>
    intro i hi ht
    rw [List.take_of_length_le (by omega)] at ht
    rw [List.drop_of_length_le (by omega)]
    refine Ev.step (fun k => ?_) (hR ht)
    simp only [semiring_Shape.l0]; rw [if_neg (by omega)]
  | succ d ih =>
    intro i hi ht
    rw [rd_at W i (by omega), List.all_cons]
    by_cases h : rd W (i : Int) < 1
    · rw [decide_eq_false (show ¬ 1 ≤ rd W (i : Int) by omega), Bool.false_and]
      refine Ev.step (fun k => ?_) (Ev.now 6)
      simp only [semiring_Shape.l0]; rw [if_pos (by omega), if_pos (by omega), if_pos (by omega), if_pos h]
    · rw [decide_eq_true (show 1 ≤ rd W (i : Int) by omega), Bool.true_and]
      have ht' : (W.take (i + 1)).all (fun w => decide (1 ≤ w)) = true := by
        have e : W.take (i + 1) = W.take i ++ [rd W (i : Int)] := by
          rw [List.take_succ_eq_append_getElem (show i < W.length by omega)]; simp [rd, show i < W.length by omega]
        rw [e, List.all_append, ht]; simp; omega
      refine Ev.step (fun k => ?_) (ih (i + 1) (by omega) ht')
      simp only [semiring_Shape.l0]; rw [if_pos (by omega), if_pos (by omega), if_pos (by omega), if_neg h, up_nat (show i < W.length by omega) (by omega)]

theorem r_l4 (W : List Int) (E : List (List S124)) (hW : W.length = E.length + 1) (hE : E.length ≤ 64) (i : Nat) (hi : i < E.length) (hr : (rd_L2 E (i : Int)).length ≤ 9223372036854775807) (R : Int) (hR : Ev (fun k => codewrightref46_Shape.l3 k ((i + 1 : Nat) : Int) W E) R) (d : Nat) : ∀ j : Nat, j + d = (rd_L2 E (i : Int)).length →
    Ev (fun k => codewrightref46_Shape.l4 k (i : Int) (j : Int) W E) (if ((rd_L2 E (i : Int)).drop j).all (edgeOk (rd W (i : Int)) (rd W ((i + 1 : Nat) : Int))) = true then R else 6) := by
  induction d with
  | zero =>
    intro j hj
    rw [List.drop_of_length_le (by omega)]
    refine Ev.step (f := fun k => codewrightref46_Shape.l3 k ((i + 1 : Nat) : Int) W E) (fun k => ?_) hR
    simp only [codewrightref46_Shape.l4]; rw [if_pos (by omega), if_pos (by omega), if_neg (by omega), up_nat hi (by omega)]
  | succ d ih =>
    intro j hj
    rw [rdT_at (rd_L2 E (i : Int)) j (by omega), List.all_cons]
    generalize hx : rd_T124 (rd_L2 E (i : Int)) (j : Int) = x
    by_cases h1 : x.f0 < 0
    · have e : edgeOk (rd W (i : Int)) (rd W ((i + 1 : Nat) : Int)) x = false := by simp [edgeOk]; omega
      rw [e]
      refine Ev.step (fun k => ?_) (Ev.now 6)
      simp only [codewrightref46_Shape.l4]; rw [if_pos (by omega), if_pos (by omega), if_pos (by omega), if_pos (by omega), hx, if_pos h1]
    by_cases h2 : x.f0 ≥ rd W (i : Int)
    · have e : edgeOk (rd W (i : Int)) (rd W ((i + 1 : Nat) : Int)) x = false := by simp [edgeOk]; omega
      rw [e]
      refine Ev.step (fun k => ?_) (Ev.now 6)
      simp only [codewrightref46_Shape.l4]; rw [if_pos (by omega), if_pos (by omega), if_pos (by omega), if_pos (by omega), hx, if_neg h1, if_pos (by omega), if_pos h2]
    by_cases h3 : x.f2 < 0
    · have e : edgeOk (rd W (i : Int)) (rd W ((i + 1 : Nat) : Int)) x = false := by simp [edgeOk]; omega
      rw [e]
      refine Ev.step (fun k => ?_) (Ev.now 6)
      simp only [codewrightref46_Shape.l4]; rw [if_pos (by omega), if_pos (by omega), if_pos (by omega), if_pos (by omega), hx, if_neg h1, if_pos (by omega), if_neg h2, if_pos h3]
    by_cases h4 : x.f2 ≥ rd W ((i + 1 : Nat) : Int)
    · have e : edgeOk (rd W (i : Int)) (rd W ((i + 1 : Nat) : Int)) x = false := by unfold edgeOk; rw [decide_eq_false (show ¬ x.f2 < rd W ((i + 1 : Nat) : Int) by omega)]; simp
      rw [e]
      refine Ev.step (fun k => ?_) (Ev.now 6)
      simp only [codewrightref46_Shape.l4]; rw [if_pos (by omega), if_pos (by omega), if_pos (by omega), if_pos (by omega), hx, if_neg h1, if_pos (by omega), if_neg h2, if_neg h3, up_nat hi (by omega), if_pos (by omega), if_pos (by omega), if_pos h4]
    · have e : edgeOk (rd W (i : Int)) (rd W ((i + 1 : Nat) : Int)) x = true := by unfold edgeOk; rw [decide_eq_true (show x.f2 < rd W ((i + 1 : Nat) : Int) by omega), decide_eq_true (show 0 ≤ x.f0 by omega), decide_eq_true (show x.f0 < rd W (i : Int) by omega), decide_eq_true (show 0 ≤ x.f2 by omega)]; rfl
      rw [e, Bool.true_and]
      refine Ev.step (fun k => ?_) (ih (j + 1) (by omega))
      simp only [codewrightref46_Shape.l4]; rw [if_pos (by omega), if_pos (by omega), if_pos (by omega), if_pos (by omega), hx, if_neg h1, if_pos (by omega), if_neg h2, if_neg h3, up_nat hi (by omega), if_pos (by omega), if_pos (by omega), if_neg h4, up_nat (show j < (rd_L2 E (i : Int)).length by omega) hr]
theorem r_l3 (W : List Int) (E : List (List S124)) (hW : W.length = E.length + 1) (hE : E.length ≤ 64) (hb : ∀ r ∈ E, r.length ≤ 9223372036854775807) (d : Nat) : ∀ i : Nat, i + d = E.length →
    Ev (fun k => codewrightref46_Shape.l3 k (i : Int) W E) (if rowsOk W i (E.drop i) = true then 0 else 6) := by
  induction d with
  | zero =>
    intro i hi
    rw [List.drop_of_length_le (by omega)]
    refine Ev.step (fun k => ?_) (Ev.now 0)
    simp only [codewrightref46_Shape.l3]; rw [if_neg (by omega)]
  | succ d ih =>
    intro i hi
    have h4 := r_l4 W E hW hE i (by omega) (hb _ (rdL_mem E i (by omega))) _ (ih (i + 1) (by omega)) (rd_L2 E (i : Int)).length 0 (by omega)
    rw [rdL_at E i (by omega), rowsOk]
    have e : (if ((rd_L2 E (i : Int)).all (edgeOk (rd W (i : Int)) (rd W ((i + 1 : Nat) : Int))) && rowsOk W (i + 1) (E.drop (i + 1))) = true then (0 : Int) else 6) = (if ((rd_L2 E (i : Int)).drop 0).all (edgeOk (rd W (i : Int)) (rd W ((i + 1 : Nat) : Int))) = true then (if rowsOk W (i + 1) (E.drop (i + 1)) = true then 0 else 6) else 6) := by
      rw [List.drop_zero]
      cases (rd_L2 E (i : Int)).all (edgeOk (rd W (i : Int)) (rd W ((i + 1 : Nat) : Int))) <;> simp
    rw [e]
    refine Ev.step (fun k => ?_) h4
    simp only [codewrightref46_Shape.l3]; rw [if_pos (by omega)]; rfl
theorem r_l2 (W : List Int) (E : List (List S124)) (hW : W.length = E.length + 1) (hE : E.length ≤ 64) (hb : ∀ r ∈ E, r.length ≤ 140737488351232) (R : Int) (hR : Ev (fun k => codewrightref46_Shape.l3 k 0 W E) R) (d : Nat) : ∀ (i : Nat) (acc : Int), i + d = E.length → 0 ≤ acc → acc ≤ 262144 →
    Ev (fun k => codewrightref46_Shape.l2 k acc (i : Int) W E) (if edgesBig acc (E.drop i) = true then 8 else R) := by
  have _ := hW
  induction d with
  | zero =>
    intro i acc hi _ _
    rw [List.drop_of_length_le (by omega)]
    refine Ev.step (fun k => ?_) hR
    simp only [codewrightref46_Shape.l2]; rw [if_neg (by omega)]
  | succ d ih =>
    intro i acc hi h0 h1
    have hl := hb _ (rdL_mem E i (by omega))
    rw [rdL_at E i (by omega), edgesBig]
    have hw : wrap64 (262144 - acc) = 262144 - acc := by unfold wrap64; omega
    by_cases h : 262144 < acc + ((rd_L2 E (i : Int)).length : Int)
    · rw [decide_eq_true h, Bool.true_or]
      refine Ev.step (fun k => ?_) (Ev.now 8)
      simp only [codewrightref46_Shape.l2]; rw [if_pos (by omega), if_pos (by omega), hw, if_pos (by omega)]
    · rw [decide_eq_false h, Bool.false_or]
      have hw2 : wrap64 (acc + ((rd_L2 E (i : Int)).length : Int)) = acc + ((rd_L2 E (i : Int)).length : Int) := by unfold wrap64; omega
      refine Ev.step (fun k => ?_) (ih (i + 1) _ (by omega) (by omega) (by omega))
      simp only [codewrightref46_Shape.l2]; rw [if_pos (by omega), if_pos (by omega), hw, if_neg (by omega), hw2, up_nat (show i < E.length by omega) (by omega)]
theorem r_l1 (W : List Int) (E : List (List S124)) (hW : W.length = E.length + 1) (hE : E.length ≤ 64) (hq : ∀ w ∈ W, 1 ≤ w ∧ w ≤ 9223372036854775807) (R : Int) (hR : Ev (fun k => codewrightref46_Shape.l2 k 0 0 W E) R) (d : Nat) : ∀ (i : Nat) (acc : Int), i + d = W.length → 0 ≤ acc → acc ≤ 65536 →
    Ev (fun k => codewrightref46_Shape.l1 k acc (i : Int) W E) (if nodesBig acc (W.drop i) = true then 8 else R) := by
  induction d with
  | zero =>
    intro i acc hi _ _
    rw [List.drop_of_length_le (by omega)]
    refine Ev.step (fun k => ?_) hR
    simp only [codewrightref46_Shape.l1]; rw [if_neg (by omega)]
  | succ d ih =>
    intro i acc hi h0 h1
    have hl := hq _ (rd_mem W i (by omega))
    rw [rd_at W i (by omega), nodesBig]
    have hw : wrap64 (65536 - acc) = 65536 - acc := by unfold wrap64; omega
    by_cases h : 65536 - acc < rd W (i : Int)
    · rw [decide_eq_true h, Bool.true_or]
      refine Ev.step (fun k => ?_) (Ev.now 8)
      simp only [codewrightref46_Shape.l1]; rw [if_pos (by omega), if_pos (by omega), hw, if_pos (by omega)]
    · rw [decide_eq_false h, Bool.false_or]
      have hw2 : wrap64 (acc + rd W (i : Int)) = acc + rd W (i : Int) := by unfold wrap64; omega
      refine Ev.step (fun k => ?_) (ih (i + 1) _ (by omega) (by omega) (by omega))
      simp only [codewrightref46_Shape.l1]; rw [if_pos (by omega), if_pos (by omega), hw, if_neg (by omega), hw2, up_nat (show i < W.length by omega) (by omega)]
theorem r_l0 (W : List Int) (E : List (List S124)) (hW : W.length = E.length + 1) (hE : E.length ≤ 64) (R : Int) (hR : W.all (fun w => decide (1 ≤ w)) = true → Ev (fun k => codewrightref46_Shape.l1 k 0 0 W E) R) (d : Nat) : ∀ i : Nat, i + d = W.length → (W.take i).all (fun w => decide (1 ≤ w)) = true →
    Ev (fun k => codewrightref46_Shape.l0 k 0 (i : Int) W E) (if (W.drop i).all (fun w => decide (1 ≤ w)) = false then 6 else R) := by
  induction d with
  | zero =>
    intro i hi ht
    rw [List.take_of_length_le (by omega)] at ht
    rw [List.drop_of_length_le (by omega)]
    refine Ev.step (fun k => ?_) (hR ht)
    simp only [codewrightref46_Shape.l0]; rw [if_neg (by omega)]
  | succ d ih =>
    intro i hi ht
    rw [rd_at W i (by omega), List.all_cons]
    by_cases h : rd W (i : Int) < 1
    · rw [decide_eq_false (show ¬ 1 ≤ rd W (i : Int) by omega), Bool.false_and]
      refine Ev.step (fun k => ?_) (Ev.now 6)
      simp only [codewrightref46_Shape.l0]; rw [if_pos (by omega), if_pos (by omega), if_pos h]
    · rw [decide_eq_true (show 1 ≤ rd W (i : Int) by omega), Bool.true_and]
      have ht' : (W.take (i + 1)).all (fun w => decide (1 ≤ w)) = true := by
        have e : W.take (i + 1) = W.take i ++ [rd W (i : Int)] := by
          rw [List.take_succ_eq_append_getElem (show i < W.length by omega)]; simp [rd, show i < W.length by omega]
        rw [e, List.all_append, ht]; simp; omega
      refine Ev.step (fun k => ?_) (ih (i + 1) (by omega) ht')
      simp only [codewrightref46_Shape.l0]; rw [if_pos (by omega), if_pos (by omega), if_neg h, up_nat (show i < W.length by omega) (by omega)]
end

section
theorem shape_f (W : List Int) (E : List (List S124)) (hq : ∀ w ∈ W, w ≤ 9223372036854775807) (hb : ∀ r ∈ E, r.length ≤ 140737488351232) (hEl : E.length ≤ 140737488351232) : Ev (fun k => semiring_Shape.f k W E) (shapeAt W E) := by
  unfold shapeAt
  by_cases h1 : 64 < E.length
  · rw [if_pos h1]
    refine Ev.congr (f := fun k => semiring_Shape.j0 k true W E) (fun k => by unfold semiring_Shape.f; rw [if_pos (by omega)]) (Ev.step (fun k => ?_) (Ev.now 3))
    simp only [semiring_Shape.j0]; rw [if_pos trivial]
  · rw [if_neg h1]
    have hw : wrap64 ((E.length : Int) + 1) = ((E.length + 1 : Nat) : Int) := by unfold wrap64; omega
    refine Ev.congr (f := fun k => semiring_Shape.j0 k ((W.length : Int) != ((E.length + 1 : Nat) : Int)) W E) (fun k => by unfold semiring_Shape.f; rw [if_neg (by omega), hw]) ?_
    by_cases h2 : W.length = E.length + 1
    · rw [if_neg (by omega)]
      have e : ((W.length : Int) != ((E.length + 1 : Nat) : Int)) = false := by rw [h2, bne_self_eq_false]
      rw [e]
      refine Ev.step (f := fun k => semiring_Shape.l0 k W (W.length : Int) 0 W E) (fun k => by simp only [semiring_Shape.j0]; rw [if_neg (by decide)]) ?_
      have h3 := s_l3 W E h2 (by omega) (fun r hr => Nat.le_trans (hb r hr) (by decide)) E.length 0 (by omega)
      have h4 := s_l2 W E h2 (by omega) hb _ h3 E.length 0 0 (by omega) (by omega) (by omega)
      refine s_l0 W E h2 (by omega) _ (fun ha => ?_) W.length 0 (by omega) rfl
      rw [List.all_eq_true] at ha
      exact s_l1 W E h2 (by omega) (fun w hw => ⟨by simpa using ha w hw, hq w hw⟩) _ h4 W.length 0 0 (by omega) (by omega) (by omega)
    · rw [if_pos h2]
      have e : ((W.length : Int) != ((E.length + 1 : Nat) : Int)) = true := by rw [bne_iff_ne]; omega
      rw [e]
      refine Ev.step (fun k => ?_) (Ev.now 3)
      simp only [semiring_Shape.j0]; rw [if_pos trivial]
theorem rshape_f (W : List Int) (E : List (List S124)) (hq : ∀ w ∈ W, w ≤ 9223372036854775807) (hb : ∀ r ∈ E, r.length ≤ 140737488351232) (hEl : E.length ≤ 140737488351232) : Ev (fun k => codewrightref46_Shape.f k W E) (shapeAt W E) := by
  unfold shapeAt
  by_cases h1 : 64 < E.length
  · rw [if_pos h1]
    refine Ev.congr (f := fun k => codewrightref46_Shape.j0 k true W E) (fun k => by unfold codewrightref46_Shape.f; rw [if_pos (by omega)]) (Ev.step (fun k => ?_) (Ev.now 3))
    simp only [codewrightref46_Shape.j0]; rw [if_pos trivial]
  · rw [if_neg h1]
    have hw : wrap64 ((E.length : Int) + 1) = ((E.length + 1 : Nat) : Int) := by unfold wrap64; omega
    refine Ev.congr (f := fun k => codewrightref46_Shape.j0 k ((W.length : Int) != ((E.length + 1 : Nat) : Int)) W E) (fun k => by unfold codewrightref46_Shape.f; rw [if_neg (by omega), hw]) ?_
    by_cases h2 : W.length = E.length + 1
    · rw [if_neg (by omega)]
      have e : ((W.length : Int) != ((E.length + 1 : Nat) : Int)) = false := by rw [h2, bne_self_eq_false]
      rw [e]
      refine Ev.step (f := fun k => codewrightref46_Shape.l0 k 0 0 W E) (fun k => by simp only [codewrightref46_Shape.j0]; rw [if_neg (by decide)]) ?_
      have h3 := r_l3 W E h2 (by omega) (fun r hr => Nat.le_trans (hb r hr) (by decide)) E.length 0 (by omega)
      have h4 := r_l2 W E h2 (by omega) hb _ h3 E.length 0 0 (by omega) (by omega) (by omega)
      refine r_l0 W E h2 (by omega) _ (fun ha => ?_) W.length 0 (by omega) rfl
      rw [List.all_eq_true] at ha
      exact r_l1 W E h2 (by omega) (fun w hw => ⟨by simpa using ha w hw, hq w hw⟩) _ h4 W.length 0 0 (by omega) (by omega) (by omega)
    · rw [if_pos h2]
      have e : ((W.length : Int) != ((E.length + 1 : Nat) : Int)) = true := by rw [bne_iff_ne]; omega
      rw [e]
      refine Ev.step (fun k => ?_) (Ev.now 3)
      simp only [codewrightref46_Shape.j0]; rw [if_pos trivial]
end
end Go.Proofs.Ytecfdemglbfnoaa.Pure
