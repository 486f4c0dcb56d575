/- Walks and plain facts for the law RationalDivides, several texts in one: each theorem says what it shows; no condition beyond those that it names. -/
import Derived.Deep.Slices
import Derived.Deep.Fields
import Derived.SizedLaws
import Derived.Test.YtecfdemglbfnoaaMRationalDividesK
section
namespace Go.Proofs.Ytecfdemglbfnoaa.PT
open Go.RowKit Go.Proofs.YtecfdemglbfnoaaW.PrintWords Go.Proofs.YtecfdemglbfnoaaW.PrintLast Go.Proofs.YtecfdemglbfnoaaW.PrintMore
attribute [local go_sem] max2_int min2_int max_two min_two max_three min_three max_four min_four   -- for this text's walks alone
set_option linter.unusedVariables false
set_option linter.unusedSimpArgs false
end Go.Proofs.Ytecfdemglbfnoaa.PT
end
section
namespace Go.Proofs.Ytecfdemglbfnoaa.PT
open Go.RowKit Go.Proofs.YtecfdemglbfnoaaW.PrintWords Go.Proofs.YtecfdemglbfnoaaW.PrintLast Go.Proofs.YtecfdemglbfnoaaW.PrintMore
attribute [local go_sem] max2_int min2_int max_two min_two max_three min_three max_four min_four   -- for this text's walks alone
set_option linter.unusedVariables false
set_option linter.unusedSimpArgs false
end Go.Proofs.Ytecfdemglbfnoaa.PT
end
section
namespace Go.Proofs.Ytecfdemglbfnoaa.PT
open Go.RowKit Go.Proofs.YtecfdemglbfnoaaW.PrintWords Go.Proofs.YtecfdemglbfnoaaW.PrintLast Go.Proofs.YtecfdemglbfnoaaW.PrintMore
attribute [local go_sem] max2_int min2_int max_two min_two max_three min_three max_four min_four   -- for this text's walks alone
set_option linter.unusedVariables false
set_option linter.unusedSimpArgs false
end Go.Proofs.Ytecfdemglbfnoaa.PT
end
section
namespace Go.Proofs.Ytecfdemglbfnoaa.PT
open Go.RowKit Go.Proofs.YtecfdemglbfnoaaW.PrintWords Go.Proofs.YtecfdemglbfnoaaW.PrintLast Go.Proofs.YtecfdemglbfnoaaW.PrintMore
attribute [local go_sem] max2_int min2_int max_two min_two max_three min_three max_four min_four   -- for this text's walks alone
set_option linter.unusedVariables false
set_option linter.unusedSimpArgs false
end Go.Proofs.Ytecfdemglbfnoaa.PT
end
section
namespace Go.Proofs.Ytecfdemglbfnoaa.PT
open Go.RowKit Go.Proofs.YtecfdemglbfnoaaW.PrintWords Go.Proofs.YtecfdemglbfnoaaW.PrintLast Go.Proofs.YtecfdemglbfnoaaW.PrintMore
attribute [local go_sem] max2_int min2_int max_two min_two max_three min_three max_four min_four   -- for this text's walks alone
set_option linter.unusedVariables false
set_option linter.unusedSimpArgs false
end Go.Proofs.Ytecfdemglbfnoaa.PT
end
section
namespace Go.Proofs.Ytecfdemglbfnoaa.PT
open Go.RowKit Go.Proofs.YtecfdemglbfnoaaW.PrintWords Go.Proofs.YtecfdemglbfnoaaW.PrintLast Go.Proofs.YtecfdemglbfnoaaW.PrintMore
attribute [local go_sem] max2_int min2_int max_two min_two max_three min_three max_four min_four   -- for this text's walks alone
set_option linter.unusedVariables false
set_option linter.unusedSimpArgs false
end Go.Proofs.Ytecfdemglbfnoaa.PT
end
section
namespace Go.Proofs.Ytecfdemglbfnoaa.PT
open Go.RowKit Go.Proofs.YtecfdemglbfnoaaW.PrintWords Go.Proofs.YtecfdemglbfnoaaW.PrintLast Go.Proofs.YtecfdemglbfnoaaW.PrintMore
attribute [local go_sem] max2_int min2_int max_two min_two max_three min_three max_four min_four   -- for this text's walks alone
set_option linter.unusedVariables false
set_option linter.unusedSimpArgs false
end Go.Proofs.Ytecfdemglbfnoaa.PT
end
section
namespace Go.Proofs.Ytecfdemglbfnoaa.Num
open Go.RowKit Go.Proofs.Ytecfdemglbfnoaa.PT Go.Proofs.YtecfdemglbfnoaaW.PrintWords Go.Proofs.YtecfdemglbfnoaaW.PrintLast Go.Proofs.YtecfdemglbfnoaaW.PrintMore
/-- The sign of a fraction as a number. -/
def sgq (q : Rat) : Int := if q.num = 0 then 0 else if q.num < 0 then -1 else 1
theorem sgq_zero {q : Rat} : sgq q = 0 ↔ q = 0 := by
  unfold sgq
  rw [← Rat.num_eq_zero]
  by_cases h : q.num = 0
  · simp [h]
  · rw [if_neg h]; constructor
    · intro h1; split at h1 <;> omega
    · intro h1; exact absurd h1 h
theorem same02_f {x y : Bool} {a b c d : List Int} (la : a.length ≤ 100000000) (lc : b.length ≤ 100000000) : Ev (fun k => codewrightlaw02_same.f k x a b y c d) (decide ((x, a, b) = (y, c, d))) := by
  have h1 := Same_f (a := a) (b := c) (by omega)
  have h2 := Same_f (a := b) (b := d) (by omega)
  refine Ev.bind (a := decide ((x, a, b) = (y, c, d))) ?_ (Ev.now _)
  by_cases c1 : x = y
  · by_cases c2 : a = c
    · refine Ev_pos (by rw [c1]; simp) (Ev.bind h1 (Ev_pos (decide_eq_true c2) (Ev.bind h2 (Ev_as (Ev.now _) ?_))))
      rw [c1, c2]; simp
    · refine Ev_pos (by rw [c1]; simp) (Ev.bind h1 (Ev_neg (by rw [decide_eq_false c2]; decide) (Ev_as (Ev.now _) ?_)))
      rw [decide_eq_false]; intro h; injection h with _ h; injection h with h _; exact c2 h
  · refine Ev_neg (by simp [c1]) (Ev_as (Ev.now _) ?_)
    rw [decide_eq_false]; intro h; injection h with h _; exact c1 h
theorem rep_len {q : Rat} {m : Nat} (h : Sz m q) : (rep q).2.1.length ≤ m ∧ (rep q).2.2.length ≤ m := ⟨lb_len_le h.1, lb_len_le h.2⟩
/-- Two fractions' data are the same. -/
theorem same_rep {p q : Rat} {m : Nat} (h : Sz m p) (hm : m ≤ 100000000) : Ev (fun k => codewrightlaw02_same.f k (rep p).1 (rep p).2.1 (rep p).2.2 (rep q).1 (rep q).2.1 (rep q).2.2) (decide (p = q)) := by
  have hl := rep_len h
  refine Ev_as (same02_f (by omega) (by omega)) ?_
  have : ((rep p).1, (rep p).2.1, (rep p).2.2) = ((rep q).1, (rep q).2.1, (rep q).2.2) ↔ p = q := ⟨fun h => rep_inj h, fun h => by rw [h]⟩
  exact decide_eq_decide.mpr this
theorem same_self {q : Rat} {m : Nat} (h : Sz m q) (hm : m ≤ 100000000) : Ev (fun k => codewrightlaw02_same.f k (rep q).1 (rep q).2.1 (rep q).2.2 (rep q).1 (rep q).2.1 (rep q).2.2) true :=
  Ev_as (same_rep h hm) (decide_eq_true rfl)
end Go.Proofs.Ytecfdemglbfnoaa.Num
end
section
namespace Go.Proofs.Ytecfdemglbfnoaa.PT
open Go.RowKit Go.Proofs.YtecfdemglbfnoaaW.PrintWords Go.Proofs.YtecfdemglbfnoaaW.PrintLast Go.Proofs.YtecfdemglbfnoaaW.PrintMore
attribute [local go_sem] max2_int min2_int max_two min_two max_three min_three max_four min_four   -- for this text's walks alone
set_option linter.unusedVariables false
set_option linter.unusedSimpArgs false
end Go.Proofs.Ytecfdemglbfnoaa.PT
end
section
namespace Go.Proofs.Ytecfdemglbfnoaa.PT
open Go.RowKit Go.Proofs.YtecfdemglbfnoaaW.PrintWords Go.Proofs.YtecfdemglbfnoaaW.PrintLast Go.Proofs.YtecfdemglbfnoaaW.PrintMore
attribute [local go_sem] max2_int min2_int max_two min_two max_three min_three max_four min_four   -- for this text's walks alone
set_option linter.unusedVariables false
set_option linter.unusedSimpArgs false
end Go.Proofs.Ytecfdemglbfnoaa.PT
end
section
namespace Go.Proofs.Ytecfdemglbfnoaa.PT
open Go.RowKit Go.Proofs.YtecfdemglbfnoaaW.PrintWords Go.Proofs.YtecfdemglbfnoaaW.PrintLast Go.Proofs.YtecfdemglbfnoaaW.PrintMore
attribute [local go_sem] max2_int min2_int max_two min_two max_three min_three max_four min_four   -- for this text's walks alone
set_option linter.unusedVariables false
set_option linter.unusedSimpArgs false
end Go.Proofs.Ytecfdemglbfnoaa.PT
end
section
namespace Go.Proofs.Ytecfdemglbfnoaa.Num
open Go.RowKit Go.Proofs.Ytecfdemglbfnoaa.PT Go.Proofs.YtecfdemglbfnoaaW.PrintWords Go.Proofs.YtecfdemglbfnoaaW.PrintLast Go.Proofs.YtecfdemglbfnoaaW.PrintMore
theorem Trim02_f {neg : Bool} {n d : List Int} (un : U n) (ud : U d) (ln : n.length ≤ 1000000) (ld : d.length ≤ 1000000) :
    Ev (fun k => rational_Trim.f k neg n d) (rep (rv neg n d)) := Ev.bind (canonical_f un ud ln ld) (Ev.now _)
theorem U_eq {a b : List Int} (ua : U a) (ub : U b) (hl : a.length = b.length) (hv : valn a = valn b) : a = b := by
  rw [← padn_valn ua, ← padn_valn ub, hl, hv]
theorem equal_f {a b : List Int} (ua : U a) (ub : U b) (la : a.length ≤ 1000000) : Ev (fun k => rational_equal.f k a b) (decide (a = b)) := by
  by_cases c : a.length = b.length
  · refine Ev_pos (by omega) (Ev.bind (Cmp_f ua ub (by omega) (by omega)) (Ev_as (Ev.now _) ?_))
    by_cases h : valn a = valn b
    · rw [decide_eq_true (U_eq ua ub c h), h, cmpn_self]; rfl
    · rw [decide_eq_false (fun e => h (by rw [e]))]
      exact beq_eq_false_iff_ne.mpr (fun e => h (cmpn_zero.mp e))
  · refine Ev_neg (by omega) (Ev_as (Ev.now _) ?_)
    rw [decide_eq_false]; intro e; rw [e] at c; exact c rfl
theorem trip_eq {x y : Bool} {a b c d : List Int} : ((x, a, b) = (y, c, d)) ↔ x = y ∧ a = c ∧ b = d := by
  constructor
  · intro h; injection h with h1 h; injection h with h2 h3; exact ⟨h1, h2, h3⟩
  · rintro ⟨rfl, rfl, rfl⟩; rfl
theorem Is_f {neg : Bool} {n d : List Int} (un : U n) (ud : U d) (ln : n.length ≤ 1000000) (ld : d.length ≤ 1000000) :
    Ev (fun k => rational_Is.f k neg n d) (decide ((neg, n, d) = ((rep (rv neg n d)).1, (rep (rv neg n d)).2.1, (rep (rv neg n d)).2.2))) := by
  have hs : Sz 1000000 (rv neg n d) := Sz_rv un ud ln ld (by omega)
  have ht := Trim02_f (neg := neg) un ud ln ld
  have hl := rep_len hs
  refine Ev.bind ht ?_
  have h1 := equal_f un (b := (rep (rv neg n d)).2.1) (U_lb _) ln
  have h2 := equal_f ud (b := (rep (rv neg n d)).2.2) (U_lb _) ld
  generalize rep (rv neg n d) = t at *
  by_cases c1 : neg = t.1
  · by_cases c2 : n = t.2.1
    · refine Ev_pos (by rw [c1]; simp) (Ev.bind h1 (Ev_pos (decide_eq_true c2) (Ev.bind h2 (Ev_as (Ev.now _) ?_))))
      exact decide_eq_decide.mpr ⟨fun h => trip_eq.mpr ⟨c1, c2, h⟩, fun h => (trip_eq.mp h).2.2⟩
    · refine Ev_pos (by rw [c1]; simp) (Ev.bind h1 (Ev_neg (by rw [decide_eq_false c2]; decide) (Ev_as (Ev.now _) ?_)))
      rw [decide_eq_false]; exact fun h => c2 (trip_eq.mp h).2.1
  · refine Ev_neg (by simp [c1]) (Ev_as (Ev.now _) ?_)
    rw [decide_eq_false]; exact fun h => c1 (trip_eq.mp h).1
theorem sgq_rv0 {neg : Bool} {n d : List Int} (h : valn n = 0 ∨ valn d = 0) : sgq (rv neg n d) = 0 := by
  rcases h with h | h
  · rw [rv_zero_num neg h]; rfl
  · rw [rv_zero_den neg h]; rfl
theorem sgq_rep {q : Rat} (h : q ≠ 0) : sgq q = if (rep q).1 = true then -1 else 1 := by
  have h0 : q.num ≠ 0 := fun e => h (Rat.num_eq_zero.mp e)
  unfold sgq
  rw [if_neg h0]
  simp only [rep, decide_eq_true_iff]
theorem rv_ne {neg : Bool} {n d : List Int} (hn : valn n ≠ 0) (hd : valn d ≠ 0) : rv neg n d ≠ 0 := by
  unfold rv
  rw [Rat.mkRat_ne_zero hd]
  exact sg_ne hn
theorem Sign_j {neg : Bool} {n d : List Int} (b : Bool) (hb : b = true ↔ valn n = 0 ∨ valn d = 0) : Ev (fun k => rational_Sign.j0 k b neg n d) (sgq (rv neg n d)) := by
  refine Ev_succ ?_
  simp only [rational_Sign.j0]
  cases b with
  | true => rw [sgq_rv0 (hb.mp rfl)]; exact Ev_pos rfl (Ev.now _)
  | false =>
    have hn : valn n ≠ 0 := fun h => absurd (hb.mpr (.inl h)) (by decide)
    have hd : valn d ≠ 0 := fun h => absurd (hb.mpr (.inr h)) (by decide)
    rw [sgq_rep (rv_ne hn hd), rep_rv hn hd]
    refine Ev_neg (by decide) ?_
    cases neg
    · exact Ev_neg (by decide) (Ev.now _)
    · exact Ev_pos rfl (Ev.now _)
theorem Sign_f {neg : Bool} {n d : List Int} (un : U n) (ud : U d) (ln : n.length ≤ 1000000) (ld : d.length ≤ 1000000) :
    Ev (fun k => rational_Sign.f k neg n d) (sgq (rv neg n d)) := by
  have b1 := Bits_f un (by omega)
  have b2 := Bits_f ud (by omega)
  refine Ev.bind b1 ?_
  by_cases h1 : valn n = 0
  · exact Ev_pos (by rw [h1]; rfl) (Sign_j true ⟨fun _ => .inl h1, fun _ => rfl⟩)
  · have hz : ((sz (valn n) : Nat) : Int) ≠ 0 := fun h => h1 (sz_eq_zero.mp (Int.ofNat_eq_zero.mp h))
    refine Ev_neg hz (Ev.bind b2 (Sign_j _ ?_))
    constructor
    · intro h
      exact .inr (sz_eq_zero.mp (Int.ofNat_eq_zero.mp (beq_iff_eq.mp h)))
    · intro h
      rcases h with h | h
      · exact absurd h h1
      · rw [h]; rfl
/-- The guard: has a fraction of the list more limbs than m? -/
theorem long02_l0 (m : Nat) (l : List S67) (hl : l.length < 4611686018427387904) (hs : ∀ x ∈ l, x.f1.length < 2305843009213693952 ∧ x.f2.length < 2305843009213693952) (n : Nat) : ∀ i : Nat, i + n = l.length →
    Ev (fun k => codewrightlaw02_long.l0 k (m : Int) l (i : Int)) ((l.drop i).any fun x => decide (m < x.f1.length + x.f2.length)) := by
  induction n with
  | zero =>
    intro i hi
    rw [List.drop_eq_nil_of_le (by omega)]
    refine Ev_succ ?_
    simp only [codewrightlaw02_long.l0]
    exact Ev_neg (by omega) (Ev.now _)
  | succ n ih =>
    intro i hi
    have e : rd_T67 l (i : Int) = l[i]'(by omega) := by simp [rd_T67, show i < l.length from by omega]
    have hm : l[i]'(by omega) ∈ l := List.getElem_mem _
    have hx := hs _ hm
    have hd : l.drop i = l[i]'(by omega) :: l.drop (i + 1) := by rw [List.drop_eq_getElem_cons]
    rw [hd, List.any_cons]
    generalize l[i]'(by omega) = x at *
    have c : (i : Int) < (l.length : Int) ∧ (0 : Int) ≤ (i : Int) := by omega
    have step := ih (i + 1) (by omega)
    have wi : wrap64 ((i : Int) + 1) = ((i + 1 : Nat) : Int) := up i (by omega)
    have ws : wrap64 ((x.f1.length : Int) + (x.f2.length : Int)) = ((x.f1.length + x.f2.length : Nat) : Int) := by rw [w64 (by omega) (by omega)]; rfl
    refine Ev_succ ?_
    simp only [codewrightlaw02_long.l0]
    refine Ev_pos c.1 (Ev_pos c.2 ?_)
    rw [e, ws, wi]
    clear ws wi
    by_cases h : m < x.f1.length + x.f2.length
    · rw [decide_eq_true h]
      exact Ev_pos (by omega) (Ev.now _)
    · rw [decide_eq_false h, Bool.false_or]
      exact Ev_neg (by omega) step
theorem long02_f (m : Nat) (l : List S67) (hl : l.length < 4611686018427387904) (hs : ∀ x ∈ l, x.f1.length < 2305843009213693952 ∧ x.f2.length < 2305843009213693952) :
    Ev (fun k => codewrightlaw02_long.f k (m : Int) l) (l.any fun x => decide (m < x.f1.length + x.f2.length)) := long02_l0 m l hl hs l.length 0 (by omega)
end Go.Proofs.Ytecfdemglbfnoaa.Num
end
section
namespace Go.Proofs.Ytecfdemglbfnoaa.Num
open Go.RowKit Go.Proofs.Ytecfdemglbfnoaa.PT Go.Proofs.YtecfdemglbfnoaaW.PrintWords Go.Proofs.YtecfdemglbfnoaaW.PrintLast Go.Proofs.YtecfdemglbfnoaaW.PrintMore
/-- The value of a fraction's data. -/
def v67 (x : S67) : Rat := rv x.f0 x.f1 x.f2
/-- Data of fractions with at most m limbs in each part. -/
def Ok67 (m : Nat) (l : List S67) : Prop := ∀ x ∈ l, U x.f1 ∧ U x.f2 ∧ x.f1.length ≤ m ∧ x.f2.length ≤ m
/-- The product of a list of fractions. -/
def prodq : List S67 → Rat
  | [] => 1
  | x :: l => v67 x * prodq l
theorem rep_one : rep 1 = (false, [1], [1]) := by
  have e : rep 1 = (false, lb 1, lb 1) := rfl
  rw [e, lb_one]
theorem mul_rv (p q : Rat) : rv ((rep p).1 != (rep q).1) (lb (p.num.natAbs * q.num.natAbs)) (lb (p.den * q.den)) = p * q := by
  rw [rv, valn_lb, valn_lb]; exact (mul_parts p q).symm
theorem inv_rv (neg : Bool) (n d : List Int) : rv neg d n = (rv neg n d)⁻¹ := by
  unfold rv
  rw [← Rat.divInt_ofNat, ← Rat.divInt_ofNat, Rat.inv_divInt]
  cases neg
  · rfl
  · show Rat.divInt (-(valn d : Int)) ((valn n : Nat) : Int) = Rat.divInt ((valn d : Nat) : Int) (-(valn n : Int))
    rw [Rat.divInt_neg']
theorem lb_sz {m : Nat} {q : Rat} (h : Sz m q) : (lb q.num.natAbs).length ≤ m ∧ (lb q.den).length ≤ m := ⟨lb_len_le h.1, lb_len_le h.2⟩
theorem rd67 {l : List S67} {i : Nat} (h : i < l.length) : rd_T67 l (i : Int) = l[i] := by simp [rd_T67, h]
theorem Mul02_l0 {m : Nat} {l : List S67} (hl : Ok67 m l) (hm : 1 ≤ m) (hn : l.length < 4611686018427387904) (n : Nat) : ∀ (i s : Nat) (p : Rat), i + n = l.length → Sz s p → 1 ≤ s → s + m * n ≤ 1000000 →
    Ev (fun k => rational_Mul.l0 k (rep p).1 (rep p).2.1 (rep p).2.2 l (l.length : Int) (i : Int)) (rep (p * prodq (l.drop i))) := by
  induction n with
  | zero =>
    intro i s p hi hp h1 hs
    rw [List.drop_eq_nil_of_le (by omega)]
    refine Ev_succ ?_
    simp only [rational_Mul.l0]
    exact Ev_neg (by omega) (Ev_as (Ev.now _) (by rw [prodq, Rat.mul_one]))
  | succ n ih =>
    intro i s p hi hp h1 hs
    have hs' : s + m + m * n ≤ 1000000 := by rw [Nat.mul_succ] at hs; omega
    have hi' : i < l.length := by omega
    have c1 : (i : Int) < (l.length : Int) := by omega
    have c0 : (0 : Int) ≤ (i : Int) := by omega
    obtain ⟨u1, u2, l1, l2⟩ := hl _ (List.getElem_mem hi')
    have hq : Sz m (v67 l[i]) := Sz_rv u1 u2 l1 l2 hm
    have hd : l.drop i = l[i] :: l.drop (i + 1) := by rw [List.drop_eq_getElem_cons]
    have ht : Ev (fun k => rational_Trim.f k l[i].f0 l[i].f1 l[i].f2) (rep (v67 l[i])) := Trim02_f u1 u2 (by omega) (by omega)
    have hrd := rd67 hi'
    have lp := lb_sz hp
    have lq := lb_sz hq
    have m1 : Ev (fun k => nat_Mul.f k [(rep p).2.1, (rep (v67 l[i])).2.1]) (lb (p.num.natAbs * (v67 l[i]).num.natAbs)) := by
      have m1 := Mul_two (U_lb p.num.natAbs) (U_lb (v67 l[i]).num.natAbs) (by omega)
      rw [valn_lb, valn_lb] at m1; exact m1
    have m2 : Ev (fun k => nat_Mul.f k [(rep p).2.2, (rep (v67 l[i])).2.2]) (lb (p.den * (v67 l[i]).den)) := by
      have m2 := Mul_two (U_lb p.den) (U_lb (v67 l[i]).den) (by omega)
      rw [valn_lb, valn_lb] at m2; exact m2
    have hpq : Sz (s + m) (p * v67 l[i]) := Sz_mul hp hq h1
    have b1 : (lb (p.num.natAbs * (v67 l[i]).num.natAbs)).length ≤ 1000000 := Nat.le_trans (lb_len_le (mul_pw' hp.1 hq.1)) (by omega)
    have b2 : (lb (p.den * (v67 l[i]).den)).length ≤ 1000000 := Nat.le_trans (lb_len_le (mul_pw' hp.2 hq.2)) (by omega)
    have hc := canonical_f (neg := (rep p).1 != (rep (v67 l[i])).1) (U_lb (p.num.natAbs * (v67 l[i]).num.natAbs)) (U_lb (p.den * (v67 l[i]).den)) b1 b2
    rw [mul_rv] at hc
    have step := ih (i + 1) (s + m) (p * v67 l[i]) (by omega) hpq (by omega) (by omega)
    rw [hd, prodq, ← Rat.mul_assoc]
    have wi : wrap64 ((i : Int) + 1) = ((i + 1 : Nat) : Int) := up i (by omega)
    refine Ev_succ ?_
    simp only [rational_Mul.l0]
    refine Ev_pos c1 (Ev_pos c0 (Ev_pos c1 ?_))
    rw [hrd, wi]
    clear wi hrd hd hi hs hs' lp lq b1 b2 hpq hp hq ih
    generalize v67 l[i] = q at *
    generalize p * q = pq at *
    exact Ev.bind ht (Ev.bind m1 (Ev.bind m2 (Ev.bind hc step)))
theorem Sz_one : Sz 1 1 := by
  have h1 : 1 < pw 1 := by rw [pw_succ, pw_zero]; decide
  exact ⟨h1, h1⟩
theorem Mul02_f {m : Nat} {l : List S67} (hl : Ok67 m l) (hm : 1 ≤ m) (hs : m * l.length ≤ 999999) : Ev (fun k => rational_Mul.f k l) (rep (prodq l)) := by
  have hn : l.length ≤ m * l.length := Nat.le_mul_of_pos_left _ hm
  have h := Mul02_l0 hl hm (by omega) l.length 0 1 1 (by omega) Sz_one (by omega) (by omega)
  rw [rep_one, Rat.one_mul] at h
  exact Ev.bind (Ev.now _) (Ev.bind (Ev.now _) h)
theorem prodq_two (x y : S67) : prodq [x, y] = v67 x * v67 y := by rw [prodq, prodq, prodq, Rat.mul_one]
theorem Ok67_two {m : Nat} {x y : S67} (hx : U x.f1 ∧ U x.f2 ∧ x.f1.length ≤ m ∧ x.f2.length ≤ m) (hy : U y.f1 ∧ U y.f2 ∧ y.f1.length ≤ m ∧ y.f2.length ≤ m) : Ok67 m [x, y] := by
  intro z hz
  simp only [List.mem_cons, List.not_mem_nil, or_false] at hz
  rcases hz with rfl | rfl
  · exact hx
  · exact hy
theorem Mul02_two {x y : S67} {m : Nat} (hx : U x.f1 ∧ U x.f2 ∧ x.f1.length ≤ m ∧ x.f2.length ≤ m) (hy : U y.f1 ∧ U y.f2 ∧ y.f1.length ≤ m ∧ y.f2.length ≤ m) (hm : 1 ≤ m) (hs : m ≤ 400000) :
    Ev (fun k => rational_Mul.f k [x, y]) (rep (v67 x * v67 y)) := by
  have h := Mul02_f (Ok67_two hx hy) hm (by simp only [List.length_cons, List.length_nil]; omega)
  rw [prodq_two] at h; exact h
/-- The data of a fraction, as an element. -/
theorem ok_rep {m : Nat} {q : Rat} (h : Sz m q) : U (rep q).2.1 ∧ U (rep q).2.2 ∧ (rep q).2.1.length ≤ m ∧ (rep q).2.2.length ≤ m := ⟨U_lb _, U_lb _, (rep_len h).1, (rep_len h).2⟩
theorem v67_rep (q : Rat) : v67 ⟨(rep q).1, (rep q).2.1, (rep q).2.2⟩ = q := rv_rep q
theorem Div02_zero {a b : S67} {m : Nat} (hb : U b.f1 ∧ U b.f2 ∧ b.f1.length ≤ m ∧ b.f2.length ≤ m) (hs : m ≤ 400000) (h0 : v67 b = 0) :
    Ev (fun k => rational_Div.f k a.f0 a.f1 a.f2 b.f0 b.f1 b.f2) (false, [], [], 7) := by
  have h := Sign_f (neg := b.f0) hb.1 hb.2.1 (by omega) (by omega)
  rw [show rv b.f0 b.f1 b.f2 = 0 from h0, sgq_zero.mpr rfl] at h
  exact Ev.bind h (Ev_pos rfl (Ev.now _))
theorem Div02_f {a b : S67} {m : Nat} (ha : U a.f1 ∧ U a.f2 ∧ a.f1.length ≤ m ∧ a.f2.length ≤ m) (hb : U b.f1 ∧ U b.f2 ∧ b.f1.length ≤ m ∧ b.f2.length ≤ m) (hm : 1 ≤ m) (hs : m ≤ 400000) (h0 : v67 b ≠ 0) :
    Ev (fun k => rational_Div.f k a.f0 a.f1 a.f2 b.f0 b.f1 b.f2) ((rep (v67 a * (v67 b)⁻¹)).1, (rep (v67 a * (v67 b)⁻¹)).2.1, (rep (v67 a * (v67 b)⁻¹)).2.2, 0) := by
  have h := Sign_f (neg := b.f0) hb.1 hb.2.1 (by omega) (by omega)
  have h2 := Mul02_two (x := ⟨a.f0, a.f1, a.f2⟩) (y := ⟨b.f0, b.f2, b.f1⟩) ha ⟨hb.2.1, hb.1, hb.2.2.2, hb.2.2.1⟩ hm hs
  rw [show v67 ⟨b.f0, b.f2, b.f1⟩ = (v67 b)⁻¹ from inv_rv ..] at h2
  exact Ev.bind h (Ev_neg (fun e => h0 (sgq_zero.mp e)) (Ev.bind h2 (Ev.now _)))
end Go.Proofs.Ytecfdemglbfnoaa.Num
end
section
namespace Go.Proofs.Ytecfdemglbfnoaa.Num
open Go.RowKit Go.Proofs.Ytecfdemglbfnoaa.PT Go.Proofs.YtecfdemglbfnoaaW.PrintWords Go.Proofs.YtecfdemglbfnoaaW.PrintLast Go.Proofs.YtecfdemglbfnoaaW.PrintMore
theorem divides_f {a b : S67} (ua : U a.f1 ∧ U a.f2) (ub : U b.f1 ∧ U b.f2) (la : a.f1.length < 2305843009213693952 ∧ a.f2.length < 2305843009213693952) (lb' : b.f1.length < 2305843009213693952 ∧ b.f2.length < 2305843009213693952) :
    Ev (fun k => codewrightlaw02_RationalDivides.f k a.f0 a.f1 a.f2 b.f0 b.f1 b.f2) true := by
  have hg := long02_f 16 [(⟨a.f0, a.f1, a.f2⟩ : S67), ⟨b.f0, b.f1, b.f2⟩] (by simp) (by
    intro x hx; simp only [List.mem_cons, List.not_mem_nil, or_false] at hx
    rcases hx with rfl | rfl
    · exact la
    · exact lb')
  simp only [List.any_cons, List.any_nil, Bool.or_false] at hg
  refine Ev.bind hg ?_
  by_cases c : (decide (16 < a.f1.length + a.f2.length) || decide (16 < b.f1.length + b.f2.length)) = true
  · exact Ev_pos c (Ev.now _)
  · have l1 : a.f1.length + a.f2.length ≤ 16 ∧ b.f1.length + b.f2.length ≤ 16 := by
      simp only [Bool.or_eq_true, decide_eq_true_eq] at c; omega
    have oa : U a.f1 ∧ U a.f2 ∧ a.f1.length ≤ 16 ∧ a.f2.length ≤ 16 := ⟨ua.1, ua.2, by omega, by omega⟩
    have ob : U b.f1 ∧ U b.f2 ∧ b.f1.length ≤ 16 ∧ b.f2.length ≤ 16 := ⟨ub.1, ub.2, by omega, by omega⟩
    have sa : Sz 16 (v67 a) := Sz_rv oa.1 oa.2.1 oa.2.2.1 oa.2.2.2 (by omega)
    have sb : Sz 16 (v67 b) := Sz_rv ob.1 ob.2.1 ob.2.2.1 ob.2.2.2 (by omega)
    refine Ev_neg c ?_
    have hsg := Sign_f (neg := b.f0) ub.1 ub.2 (by omega) (by omega)
    have ht := Trim02_f (neg := a.f0) ua.1 ua.2 (by omega) (by omega)
    by_cases h0 : v67 b = 0
    · have hd := Div02_zero (a := a) ob (by omega) h0
      rw [show rv b.f0 b.f1 b.f2 = 0 from h0, sgq_zero.mpr rfl] at hsg
      exact Ev.bind hd (Ev.bind hsg (Ev_pos rfl (Ev_pos rfl (Ev.bind (Ev.now _) (Ev.now _)))))
    · have hd := Div02_f oa ob (by omega) (by omega) h0
      have hne : sgq (v67 b) ≠ 0 := fun e => h0 (sgq_zero.mp e)
      have hm := Mul02_two (x := ⟨a.f0, a.f1, a.f2⟩) (y := ⟨b.f0, b.f1, b.f2⟩) oa ob (by omega) (by omega)
      have sq : Sz 32 (v67 a * (v67 b)⁻¹) := Sz_mul sa (Sz_inv sb (by omega)) (by omega)
      have sm : Sz 32 (v67 a * v67 b) := Sz_mul sa sb (by omega)
      have ob' : U b.f1 ∧ U b.f2 ∧ b.f1.length ≤ 32 ∧ b.f2.length ≤ 32 := ⟨ub.1, ub.2, by omega, by omega⟩
      have hd2 := Div02_f (a := ⟨(rep (v67 a * v67 b)).1, (rep (v67 a * v67 b)).2.1, (rep (v67 a * v67 b)).2.2⟩) (ok_rep sm) ob' (by omega) (by omega) h0
      rw [v67_rep, Rat.mul_assoc, Rat.mul_inv_cancel _ h0, Rat.mul_one] at hd2
      have hi := Is_f (neg := (rep (v67 a * (v67 b)⁻¹)).1) (ok_rep sq).1 (ok_rep sq).2.1 (by have := (ok_rep sq).2.2.1; omega) (by have := (ok_rep sq).2.2.2; omega)
      rw [rv_rep] at hi
      have hm2 := Mul02_two (x := ⟨(rep (v67 a * (v67 b)⁻¹)).1, (rep (v67 a * (v67 b)⁻¹)).2.1, (rep (v67 a * (v67 b)⁻¹)).2.2⟩) (y := ⟨b.f0, b.f1, b.f2⟩) (ok_rep sq) ob' (by omega) (by omega)
      rw [v67_rep, show v67 ⟨b.f0, b.f1, b.f2⟩ = v67 b from rfl, Rat.mul_assoc, Rat.inv_mul_cancel _ h0, Rat.mul_one] at hm2
      have hsame := same_self sa (by omega)
      refine Ev.bind hd (Ev.bind hsg (Ev_neg hne (Ev.bind hm (Ev.bind hd2 (Ev_pos rfl (Ev_pos rfl (Ev.bind hi (Ev_pos (decide_eq_true rfl) (Ev.bind hm2 (Ev.bind ht (Ev.bind hsame (Ev_pos rfl (Ev.bind ht (Ev.bind hsame (Ev.now _)))))))))))))))
end Go.Proofs.Ytecfdemglbfnoaa.Num
namespace Go.Proofs.Ytecfdemglbfnoaa.Pure
open Go.RowKit Go.Proofs.Ytecfdemglbfnoaa.PT Go.Proofs.Ytecfdemglbfnoaa.Num
theorem u32_U {l : List Int} (h : ∀ x ∈ l, IntKind.u32.min ≤ x ∧ x ≤ IntKind.u32.max) : U l := by
  intro x hx
  have h1 := h x hx
  have e1 : IntKind.u32.min = 0 := rfl
  have e2 : IntKind.u32.max = 4294967295 := rfl
  omega
/-- What is known of a fraction that came in. -/
abbrev Q67 (l0 l1 : List Int) : Prop := True ∧ (l0.length * 4 ≤ reachBytes ∧ ∀ x ∈ l0, IntKind.u32.min ≤ x ∧ x ≤ IntKind.u32.max) ∧ (l1.length * 4 ≤ reachBytes ∧ ∀ x ∈ l1, IntKind.u32.min ≤ x ∧ x ≤ IntKind.u32.max)
theorem Q67_U {l0 l1 : List Int} (h : Q67 l0 l1) : U l0 ∧ U l1 := ⟨u32_U h.2.1.2, u32_U h.2.2.2⟩
theorem Q67_len {l0 l1 : List Int} (h : Q67 l0 l1) : l0.length < 2305843009213693952 ∧ l1.length < 2305843009213693952 := by
  have hR : reachBytes = 140737488351232 := rfl
  obtain ⟨_, h0, h1⟩ := h
  exact ⟨by have := h0.1; omega, by have := h1.1; omega⟩
theorem RationalDivides (b : Bool) (l0 l1 : List Int) (h : Q67 l0 l1) (b' : Bool) (m0 m1 : List Int) (h' : Q67 m0 m1) : ∃ k, codewrightlaw02_RationalDivides.f k b l0 l1 b' m0 m1 = some true :=
  (divides_f (a := ⟨b, l0, l1⟩) (b := ⟨b', m0, m1⟩) (Q67_U h) (Q67_U h') (Q67_len h) (Q67_len h')).rounds
end Go.Proofs.Ytecfdemglbfnoaa.Pure
end
section
namespace Go.Proofs.Ytecfdemglbfnoaa.Open
open Go.ChangeShapes Go.WideShapes Go.Deep Go.Proofs.YtecfdemglbfnoaaW.PrintWords
section
variable {H : Type} (enc : TypeId × Value → H) (P : Program) (W : World)
/-- What reads as data of type t, within the reach, holds a value of kind d that meets Q. -/
def Op {α : Type} (d : Kd α) (Q : α → Prop) (t : TypeId) : Prop :=
  ∀ (fuel : Nat) (cs : List Value) (x : DataW H × List MemPlace), DataW.trod enc P W 0 (fun _ => true) true fuel t cs = some x → (∀ n ∈ x.1.weights P t, n ≤ reachBytes) → ∃ y, d.K W y cs ∧ Q y
end
section
variable {H : Type} {enc : TypeId × Value → H} {P : Program} {W : World}
theorem op_int {t : TypeId} {k : IntKind} (ht : P.underlying t = some (.int k)) : Op enc P W (Kd.int k) (fun n => k.min ≤ n ∧ n ≤ k.max) t := by
  intro fuel cs x h _
  obtain ⟨n, rfl, _, hw⟩ := DataW.trod_int ht h
  exact ⟨n, rfl, by simpa [Lit.wf] using hw⟩
theorem op_bool {t : TypeId} (ht : P.underlying t = some .bool) : Op enc P W Kd.bool (fun _ => True) t := by
  intro fuel cs x h _
  obtain ⟨n, rfl, _⟩ := DataW.trod_bool ht h
  exact ⟨n, rfl, trivial⟩
theorem mem_weightsAll {e : TypeId} {D : DataW H} : ∀ {l : List (DataW H)}, D ∈ l → ∀ n ∈ D.weights P e, n ∈ DataW.weightsAll P e l
  | d :: r, h, n, hn => by
    simp only [DataW.weightsAll, List.mem_append]
    rcases List.mem_cons.1 h with rfl | h
    · exact .inl hn
    · exact .inr (mem_weightsAll h n hn)
theorem op_slice {α : Type} {d : Kd α} {Q : α → Prop} {t e B : Nat} (ht : P.underlying t = some (.slice e)) (he : Op enc P W d Q e) (hc : P.cellsOf e = d.sz) (hB : P.bytesOf e = B) :
    Op enc P W (Kd.slice e d) (fun l => l.length * B ≤ reachBytes ∧ ∀ x ∈ l, Q x) t := by
  intro fuel cs x h hw
  rcases open_slice ht h with ⟨rfl, _⟩ | ⟨a, len, cap, m, n, D, Pl, rfl, _, hl, hm, hmm, rfl, hi⟩
  · exact ⟨[], ⟨none, 0, rfl, Nat.le_refl _, Kd.C_nil d W⟩, by simp, by simp⟩
  · simp only [if_true] at hmm
    subst hmm
    have hwl : ((DataW.slice ((List.range len).map D) ((List.range (m - len)).map fun j => D (len + j))).weights P t) = ((List.range len).map D).length.add ((List.range (m - len)).map fun j => D (len + j)).length * P.bytesOf e :: (DataW.weightsAll P e ((List.range len).map D) ++ DataW.weightsAll P e ((List.range (m - len)).map fun j => D (len + j))) := by
      simp only [DataW.weights, ht]; rfl
    rw [hwl] at hw
    have each : ∀ i, i < len → ∃ y : α, (∃ cs', W.cells? 0 (a.add (i * P.cellsOf e)) (P.cellsOf e) = some cs' ∧ d.K W y cs') ∧ Q y := by
      intro i hlt
      obtain ⟨cs', h1, h2⟩ := hi i (by omega)
      obtain ⟨y, hK, hq⟩ := he _ _ _ h2 (fun n hn => hw n (List.mem_cons_of_mem _ (List.mem_append.2 (.inl (mem_weightsAll (List.mem_map.2 ⟨i, List.mem_range.2 hlt, rfl⟩) n hn)))))
      exact ⟨y, ⟨cs', h1, hK⟩, hq⟩
    have hf : ∃ f : Nat → Option α, ∀ i, i < len → ∃ y, f i = some y ∧ (∃ cs', W.cells? 0 (a.add (i * P.cellsOf e)) (P.cellsOf e) = some cs' ∧ d.K W y cs') ∧ Q y := by
      refine ⟨fun i => if h : i < len then some (Classical.choose (each i h)) else none, fun i hlt => ⟨_, dif_pos hlt, Classical.choose_spec (each i hlt)⟩⟩
    obtain ⟨f, hf⟩ := hf
    have hl1 : ((List.range len).filterMap f).length = len ∧ ∀ i, i < len → ((List.range len).filterMap f)[i]? = f i := by
      clear hw hwl each hi h hl hm
      induction len with
      | zero => simp
      | succ k ih =>
        obtain ⟨h1, h2⟩ := ih (fun i hi => hf i (by omega))
        obtain ⟨y, hy, _⟩ := hf k (by omega)
        rw [List.range_succ, List.filterMap_append]
        have e : List.filterMap f [k] = [y] := by simp [List.filterMap, hy]
        rw [e]
        refine ⟨by simp [h1], fun i hi => ?_⟩
        by_cases hk : i < k
        · rw [List.getElem?_append_left (by omega), h2 i hk]
        · obtain rfl : i = k := by omega
          rw [List.getElem?_append_right (by omega), h1]; simp [hy]
    refine ⟨(List.range len).filterMap f, ⟨some a, m, by rw [hl1.1], by rw [hl1.1]; exact hl, rfl, ?_, fun hp => ⟨a, rfl, fun j p hj => ?_⟩⟩, ?_, fun y hy => ?_⟩
    · rw [hl1.1]; unfold maxLen at hm; omega
    · have hjl : j < len := by have := (List.getElem?_eq_some_iff.1 hj).1; rw [hl1.1] at this; exact this
      obtain ⟨y, hy, ⟨cs', hc1, hK⟩, _⟩ := hf j hjl
      rw [hl1.2 j hjl, hy] at hj
      obtain rfl := Option.some.inj hj
      obtain ⟨_, hcl, hat⟩ := World.cells?_some hc1
      refine ⟨cs', d.K_len hK, hK, fun i u hu => ?_⟩
      have hil : i < P.cellsOf e := by have := (List.getElem?_eq_some_iff.1 hu).1; omega
      rw [← hc, ← Go.Deep.add_add]
      rw [hat i hil, hu]
    · have := hw _ (List.mem_cons_self ..)
      rw [hl1.1]
      have h3 : ((List.range len).map D).length.add ((List.range (m - len)).map fun j => D (len + j)).length = m := by simp; omega
      rw [h3, hB] at this
      exact Nat.le_trans (Nat.mul_le_mul_right _ hl) this
    · obtain ⟨i, hi1, hi2⟩ := List.mem_filterMap.1 hy
      obtain ⟨y', hy', _, hq⟩ := hf i (List.mem_range.1 hi1)
      rw [hy'] at hi2
      obtain rfl := Option.some.inj hi2
      exact hq
theorem take_split {cs : List Value} {a b : Nat} (h : cs.length = a + b) : cs = (cs.drop 0).take a ++ (cs.drop a).take b := by
  rw [List.drop_zero, List.take_of_length_le (l := cs.drop a) (by rw [List.length_drop]; omega), List.take_append_drop]
theorem op_triple {α β γ : Type} {a : Kd α} {b : Kd β} {c : Kd γ} {Qa : α → Prop} {Qb : β → Prop} {Qc : γ → Prop} {t : TypeId} {f0 f1 f2 : Field} (ht : P.underlying t = some (.struct #[f0, f1, f2])) (h0 : Op enc P W a Qa f0.type) (h1 : Op enc P W b Qb f1.type) (h2 : Op enc P W c Qc f2.type)
    (o0 : f0.offset = 0) (s0 : P.cellsOf f0.type = a.sz) (o1 : f1.offset = a.sz) (s1 : P.cellsOf f1.type = b.sz) (o2 : f2.offset = a.sz + b.sz) (s2 : P.cellsOf f2.type = c.sz) (st : P.cellsOf t = a.sz + (b.sz + c.sz)) :
    Op enc P W (Kd.pair a (Kd.pair b c)) (fun y => Qa y.1 ∧ Qb y.2.1 ∧ Qc y.2.2) t := by
  intro fuel cs x hx hw
  obtain ⟨xs, n, _, rfl, hcl, hlen, hf⟩ := DataW.trod_struct ht hx
  have hwl : ((DataW.agg (xs.map (·.1)) : DataW H).weights P t) = DataW.weightsEach P [f0.type, f1.type, f2.type] (xs.map (·.1)) := by
    simp only [DataW.weights, ht]; rfl
  rw [hwl] at hw
  obtain ⟨y0, y1, y2, rfl⟩ : ∃ y0 y1 y2, xs = [y0, y1, y2] := by
    match xs, hlen with
    | [y0, y1, y2], _ => exact ⟨y0, y1, y2, rfl⟩
  · have e0 := hf 0 f0 rfl
    have e1 := hf 1 f1 rfl
    have e2 := hf 2 f2 rfl
    rw [o0, s0] at e0
    rw [o1, s1] at e1
    rw [o2, s2] at e2
    simp only [List.map_cons, List.map_nil, DataW.weightsEach, List.mem_append] at hw
    obtain ⟨z0, k0, q0⟩ := h0 _ _ _ e0 (fun n hn => hw n (.inl hn))
    obtain ⟨z1, k1, q1⟩ := h1 _ _ _ e1 (fun n hn => hw n (.inr (.inl hn)))
    obtain ⟨z2, k2, q2⟩ := h2 _ _ _ e2 (fun n hn => hw n (.inr (.inr (.inl hn))))
    refine ⟨(z0, z1, z2), ⟨_, _, take_split (a := a.sz) (b := b.sz + c.sz) (by rw [hcl, st]), k0, _, _, ?_, k1, k2⟩, q0, q1, q2⟩
    rw [List.take_of_length_le (l := cs.drop a.sz) (by rw [List.length_drop, hcl, st]; omega)]
    have h4 := take_split (cs := cs.drop a.sz) (a := b.sz) (b := c.sz) (by rw [List.length_drop, hcl, st]; omega)
    rw [List.drop_zero, List.drop_drop] at h4
    exact h4
end
end Go.Proofs.Ytecfdemglbfnoaa.Open
end
