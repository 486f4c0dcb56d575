/- Walks and plain facts for the law SemiringLeasts, several texts in one: each theorem says what it shows; no condition beyond those that it names. -/
import Derived.Deep.Slices
import Derived.Deep.Fields
import Derived.SizedLaws
import Derived.Test.YtecfdemglbfnoaaMSemiringLeastsE
section
namespace Go.Proofs.Ytecfdemglbfnoaa.Num
open Go.RowKit Go.Proofs.Ytecfdemglbfnoaa.PT Go.Proofs.YtecfdemglbfnoaaW.PrintWords Go.Proofs.YtecfdemglbfnoaaW.PrintLast Go.Proofs.YtecfdemglbfnoaaW.PrintMore
def lst (w : Int) (v : Nat) : Int × Nat := if v = 0 ∨ 4611686018427387904 ≤ w then (4611686018427387904, 0) else (mx w 0, v)
theorem lst_inf {w : Int} {v : Nat} (h : v = 0 ∨ 4611686018427387904 ≤ w) : lst w v = (4611686018427387904, 0) := if_pos h
theorem lst_fin {w : Int} {v : Nat} (h : ¬ (v = 0 ∨ 4611686018427387904 ≤ w)) : lst w v = (mx w 0, v) := if_neg h
def ladd (x y : Int × Nat) : Int × Nat := if x.1 < y.1 then x else if y.1 < x.1 then y else (x.1, x.2 + y.2)
def lmul (x y : Int × Nat) : Int × Nat := if 4611686018427387904 ≤ x.1 + y.1 then (4611686018427387904, 0) else (x.1 + y.1, x.2 * y.2)
def Can (m : Nat) (x : Int × Nat) : Prop := 0 ≤ x.1 ∧ x.1 ≤ 4611686018427387904 ∧ (x.2 = 0 ↔ x.1 = 4611686018427387904) ∧ x.2 < pw m
theorem lst_can {w : Int} {v m : Nat} (h : v < pw m) : Can m (lst w v) := by
  unfold lst mx
  have := pw_pos m
  split
  · exact ⟨by decide, by decide, ⟨fun _ => rfl, fun _ => rfl⟩, this⟩
  · split
    · exact ⟨by dsimp only; omega, by dsimp only; omega, ⟨fun e => by dsimp only at e; omega, fun e => by dsimp only at e; omega⟩, h⟩
    · exact ⟨by dsimp only; omega, by dsimp only; omega, ⟨fun e => by dsimp only at e; omega, fun e => by dsimp only at e; omega⟩, h⟩
theorem can_lst {m : Nat} {x : Int × Nat} (h : Can m x) : lst x.1 x.2 = x := by
  obtain ⟨w, v⟩ := x
  obtain ⟨h1, h2, h3, _⟩ := h
  dsimp only at *
  unfold lst mx
  split
  · have : v = 0 ∧ w = 4611686018427387904 := by omega
    rw [this.1, this.2]
  · rw [if_neg (by omega)]
theorem can_mono {m n : Nat} {x : Int × Nat} (h : Can m x) (hn : m ≤ n) : Can n x := ⟨h.1, h.2.1, h.2.2.1, Nat.lt_of_lt_of_le h.2.2.2 (pw_mono hn)⟩
theorem ladd_can {m n : Nat} {x y : Int × Nat} (hx : Can m x) (hy : Can n y) : Can (m + n + 1) (ladd x y) := by
  have hx' := can_mono hx (show m ≤ m + n + 1 by omega)
  have hy' := can_mono hy (show n ≤ m + n + 1 by omega)
  unfold ladd
  split
  · exact hx'
  · split
    · exact hy'
    · have h1 := hx.2.2.2
      have h2 := hy.2.2.2
      have h3 := pw_mono (show m ≤ m + n by omega)
      have h4 := pw_mono (show n ≤ m + n by omega)
      have h5 := hx.2.2.1
      have h6 := hy.2.2.1
      refine ⟨hx.1, hx.2.1, ⟨fun e => ?_, fun e => ?_⟩, ?_⟩
      · dsimp only at e ⊢; omega
      · dsimp only at e ⊢; omega
      · dsimp only; rw [pw_succ]; omega
theorem lmul_can {m n : Nat} {x y : Int × Nat} (hx : Can m x) (hy : Can n y) : Can (m + n) (lmul x y) := by
  unfold lmul
  split
  · exact ⟨by decide, by decide, ⟨fun _ => rfl, fun _ => rfl⟩, pw_pos _⟩
  · have h1 := hx.1
    have h2 := hy.1
    have h5 := hx.2.2.1
    have h6 := hy.2.2.1
    refine ⟨by dsimp only; omega, by dsimp only; omega, ⟨fun e => ?_, fun e => ?_⟩, ?_⟩
    · dsimp only at e ⊢
      rcases Nat.mul_eq_zero.mp e with e | e
      · have := h5.mp e; omega
      · have := h6.mp e; omega
    · dsimp only at e; omega
    · dsimp only; exact mul_pw hx.2.2.2 hy.2.2.2
theorem ladd_zero {m : Nat} {x : Int × Nat} (hx : Can m x) : ladd x (4611686018427387904, 0) = x := by
  obtain ⟨w, v⟩ := x
  obtain ⟨h1, h2, h3, _⟩ := hx
  dsimp only at *
  unfold ladd
  dsimp only
  split
  · rfl
  · rw [if_neg (by omega), Nat.add_zero]
theorem lmul_one {m : Nat} {x : Int × Nat} (hx : Can m x) : lmul x (0, 1) = x := by
  obtain ⟨w, v⟩ := x
  obtain ⟨h1, h2, h3, _⟩ := hx
  dsimp only at *
  unfold lmul
  dsimp only
  split
  · have : v = 0 ∧ w = 4611686018427387904 := by omega
    rw [this.1, this.2]
  · rw [Nat.mul_one, Int.add_zero]
theorem ladd_assoc (x y z : Int × Nat) : ladd x (ladd y z) = ladd (ladd x y) z := by
  obtain ⟨a, m⟩ := x
  obtain ⟨b, n⟩ := y
  obtain ⟨c, p⟩ := z
  have key : ∀ q r s t : Int × Nat, (q.1 = r.1 ∧ q.2 = r.2) → q = r := fun q r _ _ h => Prod.ext h.1 h.2
  refine key _ _ (0, 0) (0, 0) ⟨?_, ?_⟩ <;> unfold ladd <;> dsimp only <;> (repeat' split) <;> dsimp only at * <;> omega
theorem lmul_ladd (x y z : Int × Nat) : lmul x (ladd y z) = ladd (lmul x y) (lmul x z) := by
  obtain ⟨a, m⟩ := x
  obtain ⟨b, n⟩ := y
  obtain ⟨c, p⟩ := z
  have e := Nat.mul_add m n p
  generalize hq : m * (n + p) = q at e
  have key : ∀ q r : Int × Nat, (q.1 = r.1 ∧ q.2 = r.2) → q = r := fun q r h => Prod.ext h.1 h.2
  refine key _ _ ⟨?_, ?_⟩ <;> unfold lmul ladd <;> dsimp only <;> (repeat' split) <;> dsimp only at * <;> (try rw [hq]) <;> generalize m * n = r at * <;> generalize m * p = s at * <;> omega
theorem lmul_assoc {x y z : Int × Nat} (hx : 0 ≤ x.1) (hy : 0 ≤ y.1) (hz : 0 ≤ z.1) : lmul x (lmul y z) = lmul (lmul x y) z := by
  obtain ⟨a, m⟩ := x
  obtain ⟨b, n⟩ := y
  obtain ⟨c, p⟩ := z
  dsimp only at hx hy hz
  have e := Nat.mul_assoc m n p
  have key : ∀ q r : Int × Nat, (q.1 = r.1 ∧ q.2 = r.2) → q = r := fun q r h => Prod.ext h.1 h.2
  refine key _ _ ⟨?_, ?_⟩ <;> unfold lmul <;> dsimp only <;> (repeat' split) <;> dsimp only at * <;> first | omega | exact e.symm
def en2 (x : Int × Nat) : Int × List Int := (x.1, lb x.2)
theorem least_f {w : Int} {l : List Int} (ul : U l) (hl : l.length ≤ 1000000000) : Ev (fun k => semiring_least.f k w l) (en2 (lst w (valn l))) := by
  have ht := Trim_f ul (by omega)
  refine Ev.bind ht ?_
  by_cases h0 : valn l = 0
  · rw [lst_inf (.inl h0)]
    have : (lb (valn l)).length = 0 := lb_len_zero.mpr h0
    refine Ev_pos (by omega) (Ev_as (Ev.bind (Ev.now _) (Ev.now _)) ?_)
    rw [en2, lb_zero]
  · have : (lb (valn l)).length ≠ 0 := fun e => h0 (lb_len_zero.mp e)
    refine Ev_neg (by omega) ?_
    by_cases hw : w ≥ 4611686018427387904
    · rw [lst_inf (.inr hw)]
      refine Ev_pos hw (Ev_as (Ev.bind (Ev.now _) (Ev.now _)) ?_)
      rw [en2, lb_zero]
    · rw [lst_fin (by omega)]
      exact Ev_neg hw (Ev.now _)
theorem rLeast_j {w : Int} {l : List Int} (ul : U l) (hl : l.length ≤ 1000000000) (b : Bool) (hb : b = true ↔ valn l = 0 ∨ 4611686018427387904 ≤ w) : Ev (fun k => codewrightref46_Least.j0 k b w l) (en2 (lst w (valn l))) := by
  refine Ev_succ ?_
  simp only [codewrightref46_Least.j0]
  cases b with
  | true =>
    rw [lst_inf (hb.mp rfl)]
    refine Ev_pos rfl (Ev_as (Ev.bind (Ev.now _) (Ev.now _)) ?_)
    rw [en2, lb_zero]
  | false =>
    have h : ¬ (valn l = 0 ∨ 4611686018427387904 ≤ w) := fun h => absurd (hb.mpr h) (by decide)
    rw [lst_fin h]
    refine Ev_neg (by decide) (Ev.bind (rTrim_f ul (by omega)) (Ev_as (Ev.now _) ?_))
    have e : mx 0 w = mx w 0 := by unfold mx; split <;> split <;> omega
    rw [e]; rfl
theorem rLeast_f {w : Int} {l : List Int} (ul : U l) (hl : l.length ≤ 1000000000) : Ev (fun k => codewrightref46_Least.f k w l) (en2 (lst w (valn l))) := by
  by_cases hw : w ≥ 4611686018427387904
  · exact Ev_pos hw (rLeast_j ul hl true ⟨fun _ => .inr hw, fun _ => rfl⟩)
  · refine Ev_neg hw (Ev.bind (rZero_f ul (by omega)) (rLeast_j ul hl _ ?_))
    rw [decide_eq_true_iff]
    constructor
    · exact fun h => .inl h
    · intro h; rcases h with h | h
      · exact h
      · exact absurd h hw
theorem en2_len {m : Nat} {x : Int × Nat} (h : Can m x) : (en2 x).2.length ≤ m := lb_len_le h.2.2.2
theorem LAdd_q {x y : Int × Nat} {m : Nat} (hx : Can m x) (hy : Can m y) (hm : m ≤ 1000000) {w1 w2 : Int} {l1 l2 : List Int} (h1 : Ev (fun k => semiring_least.f k w1 l1) (en2 x)) (h2 : Ev (fun k => semiring_least.f k w2 l2) (en2 y)) :
    Ev (fun k => semiring_Leasts_Add.f k w1 l1 w2 l2) (en2 (ladd x y)) := by
  refine Ev.bind h1 (Ev.bind h2 ?_)
  have l1 := en2_len hx
  have l2 := en2_len hy
  have c1 := hx.2.2.1
  have c2 := hy.2.2.1
  obtain ⟨a, n⟩ := x
  obtain ⟨b, p⟩ := y
  unfold ladd
  dsimp only [en2] at *
  by_cases h1 : a < b
  · rw [if_pos h1]; exact Ev_pos h1 (Ev.now _)
  · rw [if_neg h1]
    refine Ev_neg h1 ?_
    by_cases h2 : a > b
    · rw [if_pos h2]; exact Ev_pos h2 (Ev.now _)
    · rw [if_neg (by omega)]
      refine Ev_neg h2 ?_
      by_cases h3 : a = 4611686018427387904
      · refine Ev_pos h3 (Ev_as (Ev.bind (Ev.now _) (Ev.now _)) ?_)
        have : n = 0 ∧ p = 0 := by omega
        rw [this.1, this.2, h3, Nat.add_zero, lb_zero]
      · have ha := Add_two (U_lb n) (U_lb p) (by omega) (by omega)
        rw [valn_lb, valn_lb] at ha
        exact Ev_neg h3 (Ev.bind ha (Ev.now _))
theorem rLAdd_q {x y : Int × Nat} {m : Nat} (hx : Can m x) (hy : Can m y) (hm : m ≤ 1000000) {w1 w2 : Int} {l1 l2 : List Int} (h1 : Ev (fun k => codewrightref46_Least.f k w1 l1) (en2 x)) (h2 : Ev (fun k => codewrightref46_Least.f k w2 l2) (en2 y)) :
    Ev (fun k => codewrightref46_LeastAdd.f k w1 l1 w2 l2) (en2 (ladd x y)) := by
  refine Ev.bind h1 (Ev.bind h2 ?_)
  have l1 := en2_len hx
  have l2 := en2_len hy
  have c1 := hx.2.2.1
  have c2 := hy.2.2.1
  obtain ⟨a, n⟩ := x
  obtain ⟨b, p⟩ := y
  unfold ladd
  dsimp only [en2] at *
  by_cases h1 : a < b
  · rw [if_pos h1]; exact Ev_pos h1 (Ev.now _)
  · rw [if_neg h1]
    refine Ev_neg h1 ?_
    by_cases h2 : b < a
    · rw [if_pos h2]; exact Ev_pos h2 (Ev.now _)
    · rw [if_neg h2]
      refine Ev_neg h2 ?_
      have hab : a = b := by omega
      by_cases h3 : b = 4611686018427387904
      · refine Ev_pos h3 (Ev_as (Ev.now _) ?_)
        have : n = 0 ∧ p = 0 := by omega
        rw [this.1, this.2, hab]
      · have ha := rAdd_f (U_lb n) (U_lb p) (by omega) (by omega)
        rw [valn_lb, valn_lb] at ha
        exact Ev_neg h3 (Ev.bind ha (Ev.now _))
theorem cap_core {a b : Int} (ha : 0 ≤ a) (ha' : a ≤ 4611686018427387904) (hb : 0 ≤ b) (hb' : b ≤ 4611686018427387904) :
    (if a > wrap64 (4611686018427387904 - b) then some 4611686018427387904 else some (wrap64 (a + b))) = some (if 4611686018427387904 ≤ a + b then 4611686018427387904 else a + b) := by
  have e1 : wrap64 (4611686018427387904 - b) = 4611686018427387904 - b := w64 (by omega) (by omega)
  rw [e1]
  clear e1
  by_cases h : a > 4611686018427387904 - b
  · have h2 : 4611686018427387904 ≤ a + b := by omega
    rw [if_pos h2]; exact if_pos h
  · have e2 : wrap64 (a + b) = a + b := w64 (by omega) (by omega)
    rw [if_neg h, e2]
    clear e2
    by_cases h2 : 4611686018427387904 ≤ a + b
    · rw [if_pos h2, show a + b = 4611686018427387904 by omega]
    · rw [if_neg h2]
theorem cap_eq {a b : Int} (ha : 0 ≤ a) (ha' : a ≤ 4611686018427387904) (hb : 0 ≤ b) (hb' : b ≤ 4611686018427387904) : semiring_capped.f a b = some (if 4611686018427387904 ≤ a + b then 4611686018427387904 else a + b) := cap_core ha ha' hb hb'
theorem mm_eq {a b : Int} (ha : 0 ≤ a) (ha' : a ≤ 4611686018427387904) (hb : 0 ≤ b) (hb' : b ≤ 4611686018427387904) : codewrightref46_MinMul.f a b = some (if 4611686018427387904 ≤ a + b then 4611686018427387904 else a + b) := by
  have m1 : codewrightref46_Min.f a = some a := by unfold codewrightref46_Min.f mx mn; congr 1; split <;> split <;> omega
  have m2 : codewrightref46_Min.f b = some b := by unfold codewrightref46_Min.f mx mn; congr 1; split <;> split <;> omega
  unfold codewrightref46_MinMul.f
  rw [m1, m2]
  simp only [Option.bind_some]
  exact cap_core ha ha' hb hb'
theorem Ev_eq {α β : Type} {o : Option α} {a : α} {g : Nat → α → Option β} {r : β} (h : o = some a) (k : Ev (fun n => g n a) r) : Ev (fun n => o.bind (g n)) r := by subst h; exact k
theorem LMul_q {x y : Int × Nat} {m : Nat} (hx : Can m x) (hy : Can m y) (hm : m ≤ 1000000) {w1 w2 : Int} {l1 l2 : List Int} (h1 : Ev (fun k => semiring_least.f k w1 l1) (en2 x)) (h2 : Ev (fun k => semiring_least.f k w2 l2) (en2 y)) :
    Ev (fun k => semiring_Leasts_Mul.f k w1 l1 w2 l2) (en2 (lmul x y)) := by
  refine Ev.bind h1 (Ev.bind h2 ?_)
  have l1 := en2_len hx
  have l2 := en2_len hy
  obtain ⟨a, n⟩ := x
  obtain ⟨b, p⟩ := y
  have hc := cap_eq hx.1 hx.2.1 hy.1 hy.2.1
  unfold lmul
  dsimp only [en2] at *
  refine Ev_eq hc ?_
  by_cases h : 4611686018427387904 ≤ a + b
  · rw [if_pos h, if_pos h]
    exact Ev_pos rfl (Ev_as (Ev.bind (Ev.now _) (Ev.now _)) (by rw [lb_zero]))
  · rw [if_neg h, if_neg h]
    have ha := Mul_two (U_lb n) (U_lb p) (by omega)
    rw [valn_lb, valn_lb] at ha
    exact Ev_neg (by omega) (Ev.bind ha (Ev.now _))
theorem rLMul_q {x y : Int × Nat} {m : Nat} (hx : Can m x) (hy : Can m y) (hm : m ≤ 1000000) {w1 w2 : Int} {l1 l2 : List Int} (h1 : Ev (fun k => codewrightref46_Least.f k w1 l1) (en2 x)) (h2 : Ev (fun k => codewrightref46_Least.f k w2 l2) (en2 y)) :
    Ev (fun k => codewrightref46_LeastMul.f k w1 l1 w2 l2) (en2 (lmul x y)) := by
  refine Ev.bind h1 (Ev.bind h2 ?_)
  have l1 := en2_len hx
  have l2 := en2_len hy
  obtain ⟨a, n⟩ := x
  obtain ⟨b, p⟩ := y
  have hc := mm_eq hx.1 hx.2.1 hy.1 hy.2.1
  unfold lmul
  dsimp only [en2] at *
  refine Ev_eq hc ?_
  by_cases h : 4611686018427387904 ≤ a + b
  · rw [if_pos h, if_pos h]
    exact Ev_pos rfl (Ev_as (Ev.bind (Ev.now _) (Ev.now _)) (by rw [lb_zero]))
  · rw [if_neg h, if_neg h]
    have ha := rMul_f (U_lb n) (U_lb p) (by omega)
    rw [valn_lb, valn_lb] at ha
    exact Ev_neg (by omega) (Ev.bind ha (Ev.now _))
theorem eqn_l0 {a b : List Int} (he : a.length = b.length) (hs : a.length < 9223372036854775807) (n : Nat) : ∀ i : Nat, i + n = a.length → a.take i = b.take i → Ev (fun k => api_Nat_uint32.l0 k a b (a.length : Int) (i : Int)) (decide (a = b)) := by
  induction n with
  | zero =>
    intro i hi ht
    have c1 : ¬ ((i : Int) < (a.length : Int)) := by omega
    refine Ev_succ ?_
    simp only [api_Nat_uint32.l0]
    refine Ev_neg c1 (Ev_as (Ev.now _) ?_)
    rw [List.take_of_length_le (by omega), List.take_of_length_le (by omega)] at ht
    exact (decide_eq_true ht).symm
  | succ n ih =>
    intro i hi ht
    have c1 : (i : Int) < (a.length : Int) := by omega
    have c2 : (i : Int) < (b.length : Int) := by omega
    have c0 : (0 : Int) ≤ (i : Int) := by omega
    have wi : wrap64 ((i : Int) + 1) = ((i + 1 : Nat) : Int) := up i (by omega)
    refine Ev_succ ?_
    simp only [api_Nat_uint32.l0]
    refine Ev_pos c1 (Ev_pos c0 (Ev_pos c1 (Ev_pos c2 ?_)))
    rw [wi]
    clear wi
    by_cases h : rd a (i : Int) = rd b (i : Int)
    · refine Ev_pos h (ih (i + 1) (by omega) ?_)
      rw [take_rd a i (by omega), take_rd b i (by omega), ht, h]
    · refine Ev_neg h (Ev_as (Ev.now _) ?_)
      exact (decide_eq_false (fun e => h (by rw [e]))).symm
theorem eqn_f {a b : List Int} (hs : a.length < 9223372036854775807) : Ev (fun k => api_Nat_uint32.f k a b) (decide (a = b)) := by
  by_cases h : a.length = b.length
  · exact Ev_pos (by omega) (eqn_l0 h hs a.length 0 (by omega) rfl)
  · exact Ev_neg (by omega) (Ev_as (Ev.now _) (decide_eq_false (fun e => h (by rw [e]))).symm)
theorem LSame_q {x y : Int × Nat} {m : Nat} (hx : Can m x) (hm : m ≤ 1000000) {w1 w2 : Int} {l1 l2 : List Int} (h1 : Ev (fun k => semiring_least.f k w1 l1) (en2 x)) (h2 : Ev (fun k => semiring_least.f k w2 l2) (en2 y)) :
    Ev (fun k => semiring_Leasts_Same.f k w1 l1 w2 l2) (decide (x = y)) := by
  refine Ev.bind h1 (Ev.bind h2 ?_)
  have l1 := en2_len hx
  by_cases h : x.1 = y.1
  · refine Ev_pos h (Ev.bind (eqn_f (by omega)) (Ev_as (Ev.now _) (decide_eq_decide.mpr ⟨fun e => Prod.ext h (lb_inj e), fun e => by rw [e]⟩)))
  · exact Ev_neg h (Ev_as (Ev.now _) (decide_eq_false (fun e => h (by rw [e]))).symm)
theorem SameL_q {x y : Int × Nat} {m : Nat} (hx : Can m x) (hm : m ≤ 1000000) : Ev (fun k => codewrightref46_SameLeast.f k (en2 x).1 (en2 x).2 (en2 y).1 (en2 y).2) (decide (x = y)) := by
  have l1 := en2_len hx
  by_cases h : x.1 = y.1
  · refine Ev_pos h (Ev.bind (Same_f (by omega)) (Ev_as (Ev.now _) (decide_eq_decide.mpr ⟨fun e => Prod.ext h (lb_inj e), fun e => by rw [e]⟩)))
  · exact Ev_neg h (Ev_as (Ev.now _) (decide_eq_false (fun e => h (by rw [e]))).symm)
theorem SameL_self {x : Int × Nat} {m : Nat} (hx : Can m x) (hm : m ≤ 1000000) : Ev (fun k => codewrightref46_SameLeast.f k (en2 x).1 (en2 x).2 (en2 x).1 (en2 x).2) true := Ev_as (SameL_q hx hm) (decide_eq_true rfl)
theorem least_q {x : Int × Nat} {m : Nat} (hx : Can m x) (hm : m ≤ 1000000) : Ev (fun k => semiring_least.f k (en2 x).1 (en2 x).2) (en2 x) := by
  have l1 := en2_len hx
  have h := least_f (w := (en2 x).1) (U_lb x.2) (by have := l1; unfold en2 at this; dsimp only at this; omega)
  rw [valn_lb, show (en2 x).1 = x.1 from rfl, can_lst hx] at h
  exact h
theorem Zero_can : Can 1 ((4611686018427387904, 0) : Int × Nat) := ⟨by decide, by decide, ⟨fun _ => rfl, fun _ => rfl⟩, pw_pos 1⟩
theorem One_can : Can 1 ((0, 1) : Int × Nat) := ⟨by decide, by decide, ⟨fun e => absurd e (by decide), fun e => absurd e (by decide)⟩, by rw [pw_succ, pw_zero]; decide⟩
theorem zero_en : en2 ((4611686018427387904, 0) : Int × Nat) = (4611686018427387904, []) := by rw [en2, lb_zero]
theorem one_en : en2 ((0, 1) : Int × Nat) = (0, [1]) := by rw [en2, lb_one]
theorem LZero_f : semiring_Leasts_Zero.f = some (en2 (4611686018427387904, 0)) := by rw [zero_en]; rfl
theorem LNone_f : codewrightref46_None.f = some (en2 (4611686018427387904, 0)) := by rw [zero_en]; rfl
theorem LOne_f : Ev (fun k => semiring_Leasts_One.f k) (en2 (0, 1)) := by
  have h := Of_f 1 (by omega)
  exact Ev.bind h (Ev.now _)
section
variable {wa wb wc : Int} {la lb' lc : List Int} {x y z : Int × Nat} (hx : Can 120 x) (hy : Can 120 y) (hz : Can 120 z)
  (pa : Ev (fun k => semiring_least.f k wa la) (en2 x)) (pb : Ev (fun k => semiring_least.f k wb lb') (en2 y)) (pc : Ev (fun k => semiring_least.f k wc lc) (en2 z))
  (ra : Ev (fun k => codewrightref46_Least.f k wa la) (en2 x)) (rb : Ev (fun k => codewrightref46_Least.f k wb lb') (en2 y))
include hx hy hz pa pb pc
theorem le_j2 : Ev (fun k => codewrightlaw46_SemiringLeasts.j2 k false wa la wb lb' wc lc) true := by
  have h1000 : ∀ {n : Nat} {q : Int × Nat}, Can n q → n ≤ 1000 → Can 1000 q := fun h hn => can_mono h hn
  have cyz := ladd_can hy hz
  have cxy := ladd_can hx hy
  have myz := lmul_can hy hz
  have mxy := lmul_can hx hy
  have mxz := lmul_can hx hz
  have a1 := LAdd_q hy hz (by omega) pb pc
  have m1 := LMul_q (h1000 hx (by omega)) (h1000 cyz (by omega)) (by omega) pa (least_q cyz (by omega))
  have m2 := LMul_q hx hy (by omega) pa pb
  have m3 := LMul_q hx hz (by omega) pa pc
  have a2 := LAdd_q (h1000 mxy (by omega)) (h1000 mxz (by omega)) (by omega) (least_q mxy (by omega)) (least_q mxz (by omega))
  rw [← lmul_ladd] at a2
  have e1 := SameL_self (lmul_can hx cyz) (by omega)
  have a3 := LAdd_q (h1000 hx (by omega)) (h1000 cyz (by omega)) (by omega) pa (least_q cyz (by omega))
  have a4 := LAdd_q hx hy (by omega) pa pb
  have a5 := LAdd_q (h1000 cxy (by omega)) (h1000 hz (by omega)) (by omega) (least_q cxy (by omega)) pc
  rw [← ladd_assoc] at a5
  have e2 := SameL_self (ladd_can hx cyz) (by omega)
  have m4 := LMul_q hy hz (by omega) pb pc
  have m5 := LMul_q (h1000 hx (by omega)) (h1000 myz (by omega)) (by omega) pa (least_q myz (by omega))
  have m6 := LMul_q (h1000 mxy (by omega)) (h1000 hz (by omega)) (by omega) (least_q mxy (by omega)) pc
  rw [← lmul_assoc hx.1 hy.1 hz.1] at m6
  have e3 := SameL_self (lmul_can hx myz) (by omega)
  refine Ev_succ ?_
  simp only [codewrightlaw46_SemiringLeasts.j2]
  exact Ev_neg (by decide) (Ev.bind a1 (Ev.bind m1 (Ev.bind m2 (Ev.bind m3 (Ev.bind a2 (Ev.bind e1 (Ev_pos rfl (Ev.bind a1 (Ev.bind a3 (Ev.bind a4 (Ev.bind a5 (Ev.bind e2 (Ev_pos rfl
    (Ev.bind m4 (Ev.bind m5 (Ev.bind m2 (Ev.bind m6 (Ev.bind e3 (Ev.now _)))))))))))))))))))
include ra rb
theorem le_j1 : Ev (fun k => codewrightlaw46_SemiringLeasts.j1 k false wa la wb lb' wc lc) true := by
  have s1 := LSame_q hx (by omega) pa pb
  have s2 := SameL_q (y := y) hx (by omega)
  have z1 := can_mono Zero_can (show 1 ≤ 120 by omega)
  have o1 := can_mono One_can (show 1 ≤ 120 by omega)
  have a1 := LAdd_q hx z1 (by omega) pa (least_q z1 (by omega))
  rw [ladd_zero hx] at a1
  have m1 := LMul_q hx o1 (by omega) pa (least_q o1 (by omega))
  rw [lmul_one hx] at m1
  have q1 := LSame_q hx (by omega) (least_q hx (by omega)) pa
  rw [decide_eq_true rfl] at q1
  have hj := le_j2 hx hy hz pa pb pc
  refine Ev_succ ?_
  simp only [codewrightlaw46_SemiringLeasts.j1]
  refine Ev_neg (by decide) (Ev.bind s1 (Ev.bind ra (Ev.bind rb (Ev.bind s2 (Ev_neg (by simp) (Ev_eq LZero_f ?_))))))
  exact Ev.bind a1 (Ev.bind q1 (Ev_pos rfl (Ev.bind LOne_f (Ev.bind m1 (Ev.bind q1 hj)))))
theorem le_j0 : Ev (fun k => codewrightlaw46_SemiringLeasts.j0 k false wa la wb lb' wc lc) true := by
  have a1 := LAdd_q hx hy (by omega) pa pb
  have a2 := rLAdd_q hx hy (by omega) ra rb
  have m1 := LMul_q hx hy (by omega) pa pb
  have m2 := rLMul_q hx hy (by omega) ra rb
  have e1 := SameL_self (ladd_can hx hy) (by omega)
  have e2 := SameL_self (lmul_can hx hy) (by omega)
  have hj := le_j1 hx hy hz pa pb pc ra rb
  refine Ev_succ ?_
  simp only [codewrightlaw46_SemiringLeasts.j0]
  exact Ev_neg (by decide) (Ev.bind a1 (Ev.bind a2 (Ev.bind e1 (Ev_pos rfl (Ev.bind m1 (Ev.bind m2 (Ev.bind e2 hj)))))))
end
theorem leasts_f {wa wb wc : Int} {a b c : List Int} (ua : U a) (ub : U b) (uc : U c) (la : a.length < 2305843009213693952) (lb' : b.length < 2305843009213693952) (lc : c.length < 2305843009213693952) :
    Ev (fun k => codewrightlaw46_SemiringLeasts.f k wa a wb b wc c) true := by
  obtain ⟨g, hg, hg'⟩ := short_one (r := [a, b, c]) (by simp) (by
    intro l hl; simp only [List.mem_cons, List.not_mem_nil, or_false] at hl
    rcases hl with rfl | rfl | rfl <;> omega)
  refine Ev.bind hg ?_
  cases g with
  | false => exact Ev_neg (by decide) (Ev.congr (fun _ => by rw [alive_f]; rfl) (Ev.now _))
  | true =>
    have hl := Nat.le_trans (Nat.le_add_left _ _) (hg' rfl)
    have m := fun l hm => Nat.le_trans (lensum_mem (r := [a, b, c]) (l := l) hm) hl
    have ma := m a (by simp)
    have mb := m b (by simp)
    have mc := m c (by simp)
    have hx : Can 120 (lst wa (valn a)) := lst_can (Nat.lt_of_lt_of_le (valn_lt ua) (pw_mono ma))
    have hy : Can 120 (lst wb (valn b)) := lst_can (Nat.lt_of_lt_of_le (valn_lt ub) (pw_mono mb))
    have hz : Can 120 (lst wc (valn c)) := lst_can (Nat.lt_of_lt_of_le (valn_lt uc) (pw_mono mc))
    have e1 := SameL_self Zero_can (by omega)
    have e2 := SameL_self One_can (by omega)
    rw [one_en] at e2
    have o := LOne_f
    rw [one_en] at o
    have hj := le_j0 hx hy hz (least_f ua (by omega)) (least_f ub (by omega)) (least_f uc (by omega)) (rLeast_f ua (by omega)) (rLeast_f ub (by omega))
    exact Ev_pos rfl (Ev_eq LZero_f (Ev_eq LNone_f (Ev.bind e1 (Ev_pos rfl (Ev.bind o (Ev.bind e2 hj))))))
end Go.Proofs.Ytecfdemglbfnoaa.Num
namespace Go.Proofs.Ytecfdemglbfnoaa.Pure
open Go.RowKit Go.Proofs.Ytecfdemglbfnoaa.PT Go.Proofs.Ytecfdemglbfnoaa.Num
theorem u32_U {l : List Int} (h : ∀ x ∈ l, IntKind.u32.min ≤ x ∧ x ≤ IntKind.u32.max) : U l := by
  intro x hx
  have h1 := h x hx
  have e1 : IntKind.u32.min = 0 := rfl
  have e2 : IntKind.u32.max = 4294967295 := rfl
  omega
abbrev QLst (w : Int) (l : List Int) : Prop := (IntKind.i64.min ≤ w ∧ w ≤ IntKind.i64.max) ∧ (l.length * 4 ≤ reachBytes ∧ ∀ x ∈ l, IntKind.u32.min ≤ x ∧ x ≤ IntKind.u32.max)
theorem SemiringLeasts (w0 : Int) (l0 : List Int) (h0 : QLst w0 l0) (w1 : Int) (l1 : List Int) (h1 : QLst w1 l1) (w2 : Int) (l2 : List Int) (h2 : QLst w2 l2) : ∃ k, codewrightlaw46_SemiringLeasts.f k w0 l0 w1 l1 w2 l2 = some true := by
  have hR : reachBytes = 140737488351232 := rfl
  exact (leasts_f (u32_U h0.2.2) (u32_U h1.2.2) (u32_U h2.2.2) (by have := h0.2.1; omega) (by have := h1.2.1; omega) (by have := h2.2.1; omega)).rounds
end Go.Proofs.Ytecfdemglbfnoaa.Pure
end
section
namespace Go.Proofs.Ytecfdemglbfnoaa.Open
open Go.ChangeShapes Go.WideShapes Go.Deep Go.Proofs.YtecfdemglbfnoaaW.PrintWords
section
variable {H : Type} (enc : TypeId × Value → H) (P : Program) (W : World)
def Op {α : Type} (d : Kd α) (Q : α → Prop) (t : TypeId) : Prop :=
  ∀ (fuel : Nat) (cs : List Value) (x : DataW H × List MemPlace), DataW.trod enc P W 0 (fun _ => true) true fuel t cs = some x → (∀ n ∈ x.1.weights P t, n ≤ reachBytes) → ∃ y, d.K W y cs ∧ Q y
end
section
variable {H : Type} {enc : TypeId × Value → H} {P : Program} {W : World}
theorem op_int {t : TypeId} {k : IntKind} (ht : P.underlying t = some (.int k)) : Op enc P W (Kd.int k) (fun n => k.min ≤ n ∧ n ≤ k.max) t := by
  intro fuel cs x h _
  obtain ⟨n, rfl, _, hw⟩ := DataW.trod_int ht h
  exact ⟨n, rfl, by simpa [Lit.wf] using hw⟩
theorem mem_weightsAll {e : TypeId} {D : DataW H} : ∀ {l : List (DataW H)}, D ∈ l → ∀ n ∈ D.weights P e, n ∈ DataW.weightsAll P e l
  | d :: r, h, n, hn => by
    simp only [DataW.weightsAll, List.mem_append]
    rcases List.mem_cons.1 h with rfl | h
    · exact .inl hn
    · exact .inr (mem_weightsAll h n hn)
theorem op_slice {α : Type} {d : Kd α} {Q : α → Prop} {t e B : Nat} (ht : P.underlying t = some (.slice e)) (he : Op enc P W d Q e) (hc : P.cellsOf e = d.sz) (hB : P.bytesOf e = B) :
    Op enc P W (Kd.slice e d) (fun l => l.length * B ≤ reachBytes ∧ ∀ x ∈ l, Q x) t := by
  intro fuel cs x h hw
  rcases open_slice ht h with ⟨rfl, _⟩ | ⟨a, len, cap, m, n, D, Pl, rfl, _, hl, hm, hmm, rfl, hi⟩
  · exact ⟨[], ⟨none, 0, rfl, Nat.le_refl _, Kd.C_nil d W⟩, by simp, by simp⟩
  · simp only [if_true] at hmm
    subst hmm
    have hwl : ((DataW.slice ((List.range len).map D) ((List.range (m - len)).map fun j => D (len + j))).weights P t) = ((List.range len).map D).length.add ((List.range (m - len)).map fun j => D (len + j)).length * P.bytesOf e :: (DataW.weightsAll P e ((List.range len).map D) ++ DataW.weightsAll P e ((List.range (m - len)).map fun j => D (len + j))) := by
      simp only [DataW.weights, ht]; rfl
    rw [hwl] at hw
    have each : ∀ i, i < len → ∃ y : α, (∃ cs', W.cells? 0 (a.add (i * P.cellsOf e)) (P.cellsOf e) = some cs' ∧ d.K W y cs') ∧ Q y := by
      intro i hlt
      obtain ⟨cs', h1, h2⟩ := hi i (by omega)
      obtain ⟨y, hK, hq⟩ := he _ _ _ h2 (fun n hn => hw n (List.mem_cons_of_mem _ (List.mem_append.2 (.inl (mem_weightsAll (List.mem_map.2 ⟨i, List.mem_range.2 hlt, rfl⟩) n hn)))))
      exact ⟨y, ⟨cs', h1, hK⟩, hq⟩
    have hf : ∃ f : Nat → Option α, ∀ i, i < len → ∃ y, f i = some y ∧ (∃ cs', W.cells? 0 (a.add (i * P.cellsOf e)) (P.cellsOf e) = some cs' ∧ d.K W y cs') ∧ Q y := by
      refine ⟨fun i => if h : i < len then some (Classical.choose (each i h)) else none, fun i hlt => ⟨_, dif_pos hlt, Classical.choose_spec (each i hlt)⟩⟩
    obtain ⟨f, hf⟩ := hf
    have hl1 : ((List.range len).filterMap f).length = len ∧ ∀ i, i < len → ((List.range len).filterMap f)[i]? = f i := by
      clear hw hwl each hi h hl hm
      induction len with
      | zero => simp
      | succ k ih =>
        obtain ⟨h1, h2⟩ := ih (fun i hi => hf i (by omega))
        obtain ⟨y, hy, _⟩ := hf k (by omega)
        rw [List.range_succ, List.filterMap_append]
        have e : List.filterMap f [k] = [y] := by simp [List.filterMap, hy]
        rw [e]
        refine ⟨by simp [h1], fun i hi => ?_⟩
        by_cases hk : i < k
        · rw [List.getElem?_append_left (by omega), h2 i hk]
        · obtain rfl : i = k := by omega
          rw [List.getElem?_append_right (by omega), h1]; simp [hy]
    refine ⟨(List.range len).filterMap f, ⟨some a, m, by rw [hl1.1], by rw [hl1.1]; exact hl, rfl, ?_, fun hp => ⟨a, rfl, fun j p hj => ?_⟩⟩, ?_, fun y hy => ?_⟩
    · rw [hl1.1]; unfold maxLen at hm; omega
    · have hjl : j < len := by have := (List.getElem?_eq_some_iff.1 hj).1; rw [hl1.1] at this; exact this
      obtain ⟨y, hy, ⟨cs', hc1, hK⟩, _⟩ := hf j hjl
      rw [hl1.2 j hjl, hy] at hj
      obtain rfl := Option.some.inj hj
      obtain ⟨_, hcl, hat⟩ := World.cells?_some hc1
      refine ⟨cs', d.K_len hK, hK, fun i u hu => ?_⟩
      have hil : i < P.cellsOf e := by have := (List.getElem?_eq_some_iff.1 hu).1; omega
      rw [← hc, ← Go.Deep.add_add]
      rw [hat i hil, hu]
    · have := hw _ (List.mem_cons_self ..)
      rw [hl1.1]
      have h3 : ((List.range len).map D).length.add ((List.range (m - len)).map fun j => D (len + j)).length = m := by simp; omega
      rw [h3, hB] at this
      exact Nat.le_trans (Nat.mul_le_mul_right _ hl) this
    · obtain ⟨i, hi1, hi2⟩ := List.mem_filterMap.1 hy
      obtain ⟨y', hy', _, hq⟩ := hf i (List.mem_range.1 hi1)
      rw [hy'] at hi2
      obtain rfl := Option.some.inj hi2
      exact hq
theorem take_split {cs : List Value} {a b : Nat} (h : cs.length = a + b) : cs = (cs.drop 0).take a ++ (cs.drop a).take b := by
  rw [List.drop_zero, List.take_of_length_le (l := cs.drop a) (by rw [List.length_drop]; omega), List.take_append_drop]
theorem op_pair {α β : Type} {a : Kd α} {b : Kd β} {Qa : α → Prop} {Qb : β → Prop} {t : TypeId} {f0 f1 : Field} (ht : P.underlying t = some (.struct #[f0, f1])) (h0 : Op enc P W a Qa f0.type) (h1 : Op enc P W b Qb f1.type)
    (o0 : f0.offset = 0) (s0 : P.cellsOf f0.type = a.sz) (o1 : f1.offset = a.sz) (s1 : P.cellsOf f1.type = b.sz) (st : P.cellsOf t = a.sz + b.sz) : Op enc P W (Kd.pair a b) (fun y => Qa y.1 ∧ Qb y.2) t := by
  intro fuel cs x hx hw
  obtain ⟨xs, n, _, rfl, hcl, hlen, hf⟩ := DataW.trod_struct ht hx
  have hwl : ((DataW.agg (xs.map (·.1)) : DataW H).weights P t) = DataW.weightsEach P [f0.type, f1.type] (xs.map (·.1)) := by
    simp only [DataW.weights, ht]; rfl
  rw [hwl] at hw
  obtain ⟨y0, y1, rfl⟩ : ∃ y0 y1, xs = [y0, y1] := by
    match xs, hlen with
    | [y0, y1], _ => exact ⟨y0, y1, rfl⟩
  · have e0 := hf 0 f0 rfl
    have e1 := hf 1 f1 rfl
    rw [o0, s0] at e0
    rw [o1, s1] at e1
    simp only [List.map_cons, List.map_nil, DataW.weightsEach, List.mem_append] at hw
    obtain ⟨z0, k0, q0⟩ := h0 _ _ _ e0 (fun n hn => hw n (.inl hn))
    obtain ⟨z1, k1, q1⟩ := h1 _ _ _ e1 (fun n hn => hw n (.inr (.inl hn)))
    exact ⟨(z0, z1), ⟨_, _, take_split (by rw [hcl, st]), k0, k1⟩, q0, q1⟩
end
end Go.Proofs.Ytecfdemglbfnoaa.Open
end
