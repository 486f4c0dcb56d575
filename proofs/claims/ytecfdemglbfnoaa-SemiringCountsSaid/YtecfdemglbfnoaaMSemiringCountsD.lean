/- Walks and plain facts for the law SemiringCounts, several texts in one: each says above its theorems what it shows; no condition beyond those that each theorem names. -/
import Derived.Test.YtecfdemglbfnoaaMSemiringCountsC
import Derived.Test.YtecfdemglbfnoaaWMore
import Derived.Deep.Slices
import Derived.Deep.Fields
import Derived.SizedLaws
namespace Go.Proofs.Ytecfdemglbfnoaa.PT
def valn : List Int → Nat
  | [] => 0
  | x :: xs => x.toNat + 4294967296 * valn xs
def padn : Nat → Nat → List Int
  | 0, _ => []
  | n + 1, m => (m % 4294967296 : Nat) :: padn n (m / 4294967296)
end Go.Proofs.Ytecfdemglbfnoaa.PT
namespace Go.Proofs.Ytecfdemglbfnoaa.Num
open Go.RowKit Go.Proofs.Ytecfdemglbfnoaa.PT Go.Proofs.YtecfdemglbfnoaaW.PrintWords

/-- The powers of the base. -/
def pw (n : Nat) : Nat := if h : n = 0 then 1 else pw (n - 1) * 4294967296
termination_by n
decreasing_by omega
theorem pw_zero : pw 0 = 1 := by rw [pw]; simp
theorem pw_succ (n : Nat) : pw (n + 1) = pw n * 4294967296 := by rw [pw]; simp
theorem pw_eq (n : Nat) : pw n = 4294967296 ^ n := by
  induction n with
  | zero => exact pw_zero
  | succ n ih => rw [pw_succ, ih, Nat.pow_succ]
theorem pw_pos (n : Nat) : 0 < pw n := by rw [pw_eq]; exact Nat.pow_pos (by decide)
theorem pw_mono {m n : Nat} (h : m ≤ n) : pw m ≤ pw n := by rw [pw_eq, pw_eq]; exact Nat.pow_le_pow_right (by decide) h
theorem pw_add (m n : Nat) : pw (m + n) = pw m * pw n := by rw [pw_eq, pw_eq, pw_eq]; exact Nat.pow_add ..
/-- Every entry is a limb. -/
def U (l : List Int) : Prop := ∀ x ∈ l, 0 ≤ x ∧ x < 4294967296
/-- The canonical limbs of a number. -/
def lb (n : Nat) : List Int := if h : n = 0 then [] else ((n % 4294967296 : Nat) : Int) :: lb (n / 4294967296)
termination_by n
decreasing_by omega

theorem lb_zero : lb 0 = [] := by rw [lb]; simp
theorem lb_pos {n : Nat} (h : n ≠ 0) : lb n = ((n % 4294967296 : Nat) : Int) :: lb (n / 4294967296) := by rw [lb]; simp [h]
theorem U_nil : U [] := by intro x hx; cases hx
theorem U_cons {x : Int} {l : List Int} (h : 0 ≤ x ∧ x < 4294967296) (hl : U l) : U (x :: l) := by
  intro y hy
  rcases List.mem_cons.1 hy with rfl | hy
  · exact h
  · exact hl y hy
theorem U_tail {x : Int} {l : List Int} (h : U (x :: l)) : U l := fun y hy => h y (List.mem_cons_of_mem _ hy)
theorem U_head {x : Int} {l : List Int} (h : U (x :: l)) : 0 ≤ x ∧ x < 4294967296 := h x (List.mem_cons_self ..)
theorem U_take {l : List Int} (h : U l) (n : Nat) : U (l.take n) := fun x hx => h x (List.mem_of_mem_take hx)
theorem U_drop {l : List Int} (h : U l) (n : Nat) : U (l.drop n) := fun x hx => h x (List.mem_of_mem_drop hx)
theorem U_append {a b : List Int} (ha : U a) (hb : U b) : U (a ++ b) := by
  intro x hx
  rcases List.mem_append.1 hx with h | h
  · exact ha x h
  · exact hb x h
theorem U_set {l : List Int} (h : U l) {d : Int} (hd : 0 ≤ d ∧ d < 4294967296) (i : Nat) : U (l.set i d) := by
  intro x hx
  rcases List.mem_or_eq_of_mem_set hx with h' | rfl
  · exact h x h'
  · exact hd
theorem U_replicate (n : Nat) : U (List.replicate n 0) := by
  intro x hx
  rw [List.eq_of_mem_replicate hx]; omega
theorem U_rd {l : List Int} (h : U l) (i : Int) : 0 ≤ rd l i ∧ rd l i < 4294967296 := by
  unfold rd
  by_cases hi : i.toNat < l.length
  · rw [List.getD_eq_getElem?_getD, List.getElem?_eq_getElem hi]; exact h _ (List.getElem_mem hi)
  · rw [List.getD_eq_getElem?_getD, List.getElem?_eq_none (by omega)]; simp
theorem U_lb (n : Nat) : U (lb n) := by
  induction n using Nat.strongRecOn with
  | ind n ih =>
    by_cases h : n = 0
    · subst h; rw [lb_zero]; exact U_nil
    · rw [lb_pos h]; exact U_cons (by omega) (ih _ (by omega))

theorem valn_nil : valn [] = 0 := rfl
theorem valn_cons (x : Int) (l : List Int) : valn (x :: l) = x.toNat + 4294967296 * valn l := rfl
theorem valn_lb (n : Nat) : valn (lb n) = n := by
  induction n using Nat.strongRecOn with
  | ind n ih =>
    by_cases h : n = 0
    · subst h; rw [lb_zero]; rfl
    · rw [lb_pos h, valn_cons, ih _ (by omega)]; omega
theorem lb_inj {m n : Nat} (h : lb m = lb n) : m = n := by rw [← valn_lb m, h, valn_lb]
theorem lb_eq_nil {n : Nat} : lb n = [] ↔ n = 0 := by
  constructor
  · intro h; have := valn_lb n; rw [h] at this; exact this.symm
  · rintro rfl; exact lb_zero
theorem valn_append (a b : List Int) : valn (a ++ b) = valn a + pw a.length * valn b := by
  induction a with
  | nil => simp [valn_nil, pw_zero]
  | cons x a ih => rw [List.cons_append, valn_cons, ih, valn_cons, List.length_cons, pw_succ, Nat.mul_add, Nat.add_assoc, Nat.mul_comm (pw a.length) 4294967296, Nat.mul_assoc]
theorem valn_lt {l : List Int} (h : U l) : valn l < pw l.length := by
  induction l with
  | nil => simp [valn_nil, pw_zero]
  | cons x l ih =>
    have hx := U_head h
    have := ih (U_tail h)
    rw [valn_cons, List.length_cons, pw_succ]
    omega
theorem valn_replicate (n : Nat) : valn (List.replicate n 0) = 0 := by
  induction n with
  | zero => rfl
  | succ n ih => rw [List.replicate_succ, valn_cons, ih]; rfl
theorem valn_take_drop (l : List Int) (n : Nat) (h : n ≤ l.length) : valn l = valn (l.take n) + pw n * valn (l.drop n) := by
  conv => lhs; rw [← List.take_append_drop n l]
  rw [valn_append, List.length_take, Nat.min_eq_left h]
theorem rd_eq (l : List Int) (i : Nat) (h : i < l.length) : rd l (i : Int) = l[i] := by simp [rd, h]
theorem rd_ge (l : List Int) (i : Nat) (h : l.length ≤ i) : rd l (i : Int) = 0 := by simp [rd, h]
theorem take_rd (l : List Int) (i : Nat) (h : i < l.length) : l.take (i + 1) = l.take i ++ [rd l (i : Int)] := by
  rw [rd_eq l i h, List.take_add_one, List.getElem?_eq_getElem h]; rfl
theorem drop_rd (l : List Int) (i : Nat) (h : i < l.length) : l.drop i = rd l (i : Int) :: l.drop (i + 1) := by
  rw [rd_eq l i h]; exact List.drop_eq_getElem_cons h
theorem valn_take_succ (l : List Int) (i : Nat) : valn (l.take (i + 1)) = valn (l.take i) + pw i * (rd l (i : Int)).toNat := by
  by_cases h : i < l.length
  · rw [take_rd l i h, valn_append, List.length_take, Nat.min_eq_left (by omega), valn_cons, valn_nil]; simp
  · rw [rd_ge l i (by omega), List.take_of_length_le (by omega), List.take_of_length_le (by omega)]; simp
theorem valn_set_take (z : List Int) (i : Nat) (d : Int) (h : i < z.length) : valn ((z.set i d).take (i + 1)) = valn (z.take i) + pw i * d.toNat := by
  rw [valn_take_succ, List.take_set_of_le (Nat.le_refl _), rd_eq _ _ (by simpa using h), List.getElem_set_self]
theorem valn_drop_rd (l : List Int) (i : Nat) : valn (l.drop i) = (rd l (i : Int)).toNat + 4294967296 * valn (l.drop (i + 1)) := by
  by_cases h : i < l.length
  · rw [drop_rd l i h, valn_cons]
  · rw [rd_ge l i (by omega), List.drop_eq_nil_of_le (by omega), List.drop_eq_nil_of_le (by omega)]; rfl
theorem valn_set (z : List Int) (i : Nat) (d : Int) (h : i < z.length) : valn (z.set i d) + pw i * (rd z (i : Int)).toNat = valn z + pw i * d.toNat := by
  have h1 := valn_take_drop z (i + 1) (by omega)
  have h2 := valn_take_drop (z.set i d) (i + 1) (by rw [List.length_set]; omega)
  rw [valn_set_take z i d h, List.drop_set_of_lt (by omega)] at h2
  rw [valn_take_succ] at h1
  omega
theorem rd_set_ne (z : List Int) (i j : Nat) (d : Int) (h : i ≠ j) : rd (z.set i d) (j : Int) = rd z (j : Int) := by
  unfold rd; rw [List.getD_eq_getElem?_getD, List.getD_eq_getElem?_getD, Int.toNat_natCast, List.getElem?_set_ne h]
theorem rd_set_eq (z : List Int) (i : Nat) (d : Int) (h : i < z.length) : rd (z.set i d) (i : Int) = d := by
  rw [rd_eq _ _ (by simpa using h), List.getElem_set_self]
/-- Canonical limbs are those of their value. -/
theorem lb_valn {l : List Int} (h : U l) (hl : l = [] ∨ l.getLast? ≠ some 0) : lb (valn l) = l := by
  induction l with
  | nil => exact lb_zero
  | cons x l ih =>
    have hx := U_head h
    have key : l = [] ∨ l.getLast? ≠ some 0 := by
      by_cases e : l = []
      · exact .inl e
      · right
        rcases hl with h' | h'
        · exact absurd h' (by simp)
        · rw [List.getLast?_cons] at h'
          cases hl2 : l.getLast? with
          | none => simp
          | some y => rw [hl2] at h'; simpa using h'
    have ih := ih (U_tail h) key
    have hne : valn (x :: l) ≠ 0 := by
      rw [valn_cons]
      by_cases e : l = []
      · subst e
        have : x ≠ 0 := by
          rintro rfl
          rcases hl with h' | h'
          · cases h'
          · exact h' rfl
        omega
      · have : valn l ≠ 0 := by
          intro h0
          rw [h0, lb_zero] at ih
          exact e ih.symm
        omega
    rw [lb_pos hne, valn_cons]
    have e1 : (x.toNat + 4294967296 * valn l) / 4294967296 = valn l := by omega
    have e2 : (((x.toNat + 4294967296 * valn l) % 4294967296 : Nat) : Int) = x := by omega
    rw [e1, e2, ih]
theorem lb_last (n : Nat) : lb n = [] ∨ (lb n).getLast? ≠ some 0 := by
  induction n using Nat.strongRecOn with
  | ind n ih =>
    by_cases h : n = 0
    · exact .inl (by rw [h, lb_zero])
    · right
      rw [lb_pos h, List.getLast?_cons]
      rcases ih (n / 4294967296) (by omega) with h' | h'
      · rw [h']
        have := lb_eq_nil.1 h'
        simp; omega
      · cases hl2 : (lb (n / 4294967296)).getLast? with
        | none =>
          have : lb (n / 4294967296) = [] := by simpa using hl2
          have := lb_eq_nil.1 this
          simp; omega
        | some y => rw [hl2] at h'; simpa using h'
/-- Zeros above leave the value. -/
theorem valn_take_of_zero (l : List Int) (n : Nat) (h : n ≤ l.length) (hz : valn (l.drop n) = 0) : valn (l.take n) = valn l := by
  rw [valn_take_drop l n h, hz]; simp
theorem lb_len_le {n : Nat} : ∀ {m : Nat}, n < pw m → (lb n).length ≤ m := by
  induction n using Nat.strongRecOn with
  | ind n ih =>
    intro m hm
    by_cases h : n = 0
    · rw [h, lb_zero]; simp
    · rw [lb_pos h, List.length_cons]
      cases m with
      | zero => rw [pw_zero] at hm; omega
      | succ m =>
        have : n / 4294967296 < pw m := by
          rw [pw_succ] at hm
          exact (Nat.div_lt_iff_lt_mul (by omega)).2 hm
        have := ih _ (by omega) this
        omega
theorem lb_len {l : List Int} (h : U l) : (lb (valn l)).length ≤ l.length := lb_len_le (valn_lt h)
theorem lt_pow_len (n : Nat) : n < pw (lb n).length := by
  have := valn_lt (U_lb n); rwa [valn_lb] at this
theorem pow_len_le {n : Nat} (h : n ≠ 0) : pw ((lb n).length - 1) ≤ n := by
  induction n using Nat.strongRecOn with
  | ind n ih =>
    rw [lb_pos h, List.length_cons, Nat.add_sub_cancel]
    by_cases h2 : n / 4294967296 = 0
    · rw [h2, lb_zero, List.length_nil, pw_zero]; omega
    · have := ih (n / 4294967296) (by omega) h2
      cases hL : (lb (n / 4294967296)).length with
      | zero => rw [pw_zero]; omega
      | succ m =>
        rw [hL, Nat.add_sub_cancel] at this
        rw [pw_succ]; omega
theorem len_lt_of_lt {m n : Nat} (h : (lb m).length < (lb n).length) : m < n := by
  by_cases h0 : n = 0
  · rw [h0, lb_zero] at h; simp at h
  have h1 := lt_pow_len m
  have h2 := pow_len_le h0
  have h3 : pw (lb m).length ≤ pw ((lb n).length - 1) := pw_mono (by omega)
  omega
theorem rd_lb_last {n : Nat} (h : n ≠ 0) : rd (lb n) (((lb n).length - 1 : Nat) : Int) ≠ 0 := by
  have hne : lb n ≠ [] := fun e => h (lb_eq_nil.1 e)
  have hlen : 0 < (lb n).length := List.length_pos_iff.2 hne
  rcases lb_last n with h' | h'
  · exact absurd h' hne
  · rw [rd_eq _ _ (by omega)]
    rw [List.getLast?_eq_getElem?, List.getElem?_eq_getElem (by omega)] at h'
    intro e; exact h' (by rw [e])
theorem padn_len (n m : Nat) : (padn n m).length = n := by
  induction n generalizing m with
  | zero => rfl
  | succ n ih => simp [padn, ih]
theorem U_padn (n m : Nat) : U (padn n m) := by
  induction n generalizing m with
  | zero => exact U_nil
  | succ n ih => exact U_cons (by omega) (ih _)
theorem valn_padn (n m : Nat) : valn (padn n m) = m % pw n := by
  induction n generalizing m with
  | zero => simp [padn, valn_nil, pw_zero, Nat.mod_one]
  | succ n ih =>
    rw [padn, valn_cons, ih, pw_succ, Nat.mul_comm (pw n), Nat.mod_mul]
    omega
theorem valn_padn_lt {n m : Nat} (h : m < pw n) : valn (padn n m) = m := by rw [valn_padn, Nat.mod_eq_of_lt h]
/-- The limbs of a number, in a row of given length, are the only ones. -/
theorem padn_valn {l : List Int} (h : U l) : padn l.length (valn l) = l := by
  induction l with
  | nil => rfl
  | cons x l ih =>
    have hx := U_head h
    rw [List.length_cons, padn, valn_cons]
    have e1 : (x.toNat + 4294967296 * valn l) / 4294967296 = valn l := by omega
    have e2 : (((x.toNat + 4294967296 * valn l) % 4294967296 : Nat) : Int) = x := by omega
    rw [e1, e2, ih (U_tail h)]
end Go.Proofs.Ytecfdemglbfnoaa.Num
namespace Go.Proofs.Ytecfdemglbfnoaa.Num
open Go.RowKit Go.Proofs.Ytecfdemglbfnoaa.PT Go.Proofs.YtecfdemglbfnoaaW.PrintWords Go.Proofs.YtecfdemglbfnoaaW.PrintLast Go.Proofs.YtecfdemglbfnoaaW.PrintMore

theorem w64 {x : Int} (h : -9223372036854775808 ≤ x) (h' : x ≤ 9223372036854775807) : wrap64 x = x := by unfold wrap64; omega
theorem u64 {x : Int} (h : 0 ≤ x) (h' : x < 18446744073709551616) : IntKind.u64.wrap x = x := by
  have e : IntKind.u64.wrap x = x % 18446744073709551616 := by simp [IntKind.wrap, IntKind.bits, IntKind.signed]
  rw [e]; omega

theorem up (i : Nat) (h : i < 9223372036854775807) : wrap64 ((i : Int) + 1) = ((i + 1 : Nat) : Int) := by rw [w64 (by omega) (by omega)]; rfl
theorem dn (n : Nat) (h : n < 9223372036854775807) : wrap64 (((n + 1 : Nat) : Int) - 1) = (n : Int) := by rw [w64 (by omega) (by omega)]; omega
/-- A cut of l behind which only zeros lie, and whose last limb is none: the canonical limbs. -/
theorem cut_lb {l : List Int} (h : U l) (n : Nat) (hn : n ≤ l.length) (hz : valn (l.drop n) = 0) (hl : n = 0 ∨ rd l ((n - 1 : Nat) : Int) ≠ 0) : l.take n = lb (valn l) := by
  rw [← valn_take_of_zero l n hn hz]
  refine (lb_valn (U_take h n) ?_).symm
  rcases hl with rfl | hl
  · left; simp
  · by_cases h0 : n = 0
    · left; subst h0; simp
    · right
      have e : n - 1 + 1 = n := by omega
      rw [← e, take_rd l (n - 1) (by omega), List.getLast?_append]
      simpa using hl
theorem short_l0 {l : List Int} (h : U l) (hs : l.length ≤ 9223372036854775807) : ∀ n : Nat, n ≤ l.length → valn (l.drop n) = 0 → Ev (fun k => nat_short.l0 k l (n : Int)) (lb (valn l)) := by
  intro n
  induction n with
  | zero =>
    intro hn hz
    rw [← cut_lb h 0 hn hz (.inl rfl)]
    refine Ev.step (f := fun _ => some (l.take 0)) (fun k => ?_) (Ev.now _)
    simp only [nat_short.l0]
    rw [if_neg (by omega), if_pos (by omega), if_pos (by omega)]; rfl
  | succ n ih =>
    intro hn hz
    by_cases e : rd l (n : Int) = 0
    · refine Ev.step (f := fun k => nat_short.l0 k l (n : Int)) (fun k => ?_) (ih (by omega) (by rw [valn_drop_rd, e, hz]; rfl))
      simp only [nat_short.l0]
      rw [if_pos (by omega), dn n (by omega), if_pos (by omega), if_pos (by omega), if_pos e]
    · rw [← cut_lb h (n + 1) hn hz (.inr (by simpa using e))]
      refine Ev.step (f := fun _ => some (l.take (n + 1))) (fun k => ?_) (Ev.now _)
      simp only [nat_short.l0]
      rw [if_pos (by omega), dn n (by omega), if_pos (by omega), if_pos (by omega), if_neg e, if_pos (by omega), if_pos (by omega)]; rfl
theorem short_f {l : List Int} (h : U l) (hs : l.length ≤ 9223372036854775807) : Ev (fun k => nat_short.f k l) (lb (valn l)) :=
  short_l0 h hs l.length (Nat.le_refl _) (by simp [valn_nil])
theorem Trim_f {l : List Int} (h : U l) (hs : l.length < 35184372088832) : Ev (fun k => nat_Trim.f k l) (lb (valn l)) := by
  unfold nat_Trim.f
  refine Ev.bind (short_f h (by omega)) ?_
  have := lb_len h
  refine Ev.congr (f := fun _ => some (lb (valn l))) (fun k => ?_) (Ev.now _)
  rw [if_pos (by simpa using Nat.lt_of_le_of_lt this hs)]; rfl
theorem rTrim_l0 {l : List Int} (h : U l) (hs : l.length < 35184372088832) : ∀ n : Nat, n ≤ l.length → valn (l.drop n) = 0 → Ev (fun k => codewrightref01_Trim.l0 k l (n : Int)) (lb (valn l)) := by
  intro n
  induction n with
  | zero =>
    intro hn hz
    rw [← cut_lb h 0 hn hz (.inl rfl)]
    refine Ev.step (f := fun _ => some (l.take 0)) (fun k => ?_) (Ev.now _)
    simp only [codewrightref01_Trim.l0]
    rw [if_neg (by omega), Option.bind_some, if_pos (by omega), if_pos (by omega), if_pos (by simp)]; rfl
  | succ n ih =>
    intro hn hz
    by_cases e : rd l (n : Int) = 0
    · refine Ev.step (f := fun k => codewrightref01_Trim.l0 k l (n : Int)) (fun k => ?_) (ih (by omega) (by rw [valn_drop_rd, e, hz]; rfl))
      simp only [codewrightref01_Trim.l0]
      rw [if_pos (by omega), dn n (by omega), if_pos (by omega), if_pos (by omega), if_pos e]
    · rw [← cut_lb h (n + 1) hn hz (.inr (by simpa using e))]
      refine Ev.step (f := fun _ => some (l.take (n + 1))) (fun k => ?_) (Ev.now _)
      simp only [codewrightref01_Trim.l0]
      have et : (((n + 1 : Nat) : Int)).toNat = n + 1 := rfl
      rw [if_pos (by omega), dn n (by omega), if_pos (by omega), if_pos (by omega), if_neg e, Option.bind_some, if_pos (by omega), if_pos (by omega), et, if_pos (by rw [List.length_take]; simp; omega)]; rfl
theorem rTrim_f {l : List Int} (h : U l) (hs : l.length < 35184372088832) : Ev (fun k => codewrightref01_Trim.f k l) (lb (valn l)) :=
  rTrim_l0 h hs l.length (Nat.le_refl _) (by simp [valn_nil])
theorem valn_two (n : Nat) (h : n < 18446744073709551616) : valn [((n : Int)) % 4294967296, ((n : Int) / 4294967296) % 4294967296] = n := by
  simp only [valn_cons, valn_nil]; omega
theorem Of_f (n : Nat) (h : n < 18446744073709551616) : Ev (fun k => nat_Of.f k (n : Int)) (lb n) := by
  unfold nat_Of.f
  have := Trim_f (l := [((n : Int)) % 4294967296, ((n : Int) / 4294967296) % 4294967296]) (U_cons (by omega) (U_cons (by omega) U_nil)) (by simp)
  rw [valn_two n h] at this
  exact Ev.bind this (Ev.now _)

/-! The sum -/

theorem step_val {p T S1 S2 a b c d c' : Nat} (h : T + p * c = S1 + S2) (e : a + b + c = d + 4294967296 * c') : (T + p * d) + p * 4294967296 * c' = (S1 + p * a) + (S2 + p * b) := by
  have h1 : p * (a + b + c) = p * (d + 4294967296 * c') := by rw [e]
  simp only [Nat.mul_add] at h1
  have h2 : p * (4294967296 * c') = p * 4294967296 * c' := by rw [Nat.mul_assoc]
  omega
theorem plus_l0 {a b : List Int} (ha : U a) (hb : U b) (hl : b.length ≤ a.length) (hs : a.length < 35184372088832) (d : Nat) : ∀ (i : Nat) (z : List Int) (c : Nat), i + d = a.length → z.length = a.length + 1 → U z → c ≤ 1 →
    valn (z.take i) + pw i * c = valn (a.take i) + valn (b.take i) →
    Ev (fun k => nat_plus.l0 k a b z (c : Int) (a.length : Int) (i : Int)) (lb (valn a + valn b)) := by
  induction d with
  | zero =>
    intro i z c hi hz uz hc hv
    obtain rfl : i = a.length := by omega
    have u1 : U (z.set a.length (c : Int)) := U_set uz (by omega) _
    have key : valn (z.set a.length (c : Int)) = valn a + valn b := by
      have h1 := valn_set_take z a.length (c : Int) (by omega)
      rw [List.take_of_length_le (by rw [List.length_set]; omega), Int.toNat_natCast, hv, List.take_of_length_le (Nat.le_refl _), List.take_of_length_le hl] at h1
      exact h1
    have h2 := short_f u1 (by rw [List.length_set]; omega)
    rw [key] at h2
    refine Ev.step (f := fun k => (nat_short.f k (z.set a.length (c : Int))).bind some) (fun k => ?_) (Ev.bind h2 (Ev.now _))
    simp only [nat_plus.l0]
    have e : ((c : Int)) % 4294967296 = c := by omega
    rw [if_neg (by omega), if_pos (by omega), if_pos (by omega), e]; rfl
  | succ d ih =>
    intro i z c hi hz uz hc hv
    have h0 := U_rd ha (i : Int)
    have h1 := U_rd hb (i : Int)
    obtain ⟨s, hs1⟩ : ∃ s : Nat, rd a (i : Int) + (c : Int) + rd b (i : Int) = (s : Int) := ⟨(rd a (i : Int) + (c : Int) + rd b (i : Int)).toNat, by omega⟩
    have em : ((s : Nat) : Int) % 4294967296 = ((s % 4294967296 : Nat) : Int) := by omega
    have ed : ((s : Nat) : Int) / 4294967296 = ((s / 4294967296 : Nat) : Int) := by omega
    have step := ih (i + 1) (z.set i ((s % 4294967296 : Nat) : Int)) (s / 4294967296) (by omega) (by rw [List.length_set]; exact hz) (U_set uz (by omega) _) (by omega) (by
      rw [valn_set_take z i _ (by omega), valn_take_succ a, valn_take_succ b, pw_succ, Int.toNat_natCast]
      exact step_val hv (by omega))
    refine Ev.step (f := fun k => nat_plus.l0 k a b (z.set i ((s % 4294967296 : Nat) : Int)) ((s / 4294967296 : Nat) : Int) (a.length : Int) ((i + 1 : Nat) : Int)) (fun k => ?_) step
    simp only [nat_plus.l0]
    rw [if_pos (by omega), if_pos (by omega), if_pos (by omega)]
    by_cases hib : i < b.length
    · rw [if_pos (by omega), if_pos (by omega), u64 (x := rd a (i : Int)) (by omega) (by omega), u64 (x := rd a (i : Int) + (c : Int)) (by omega) (by omega), u64 (x := rd b (i : Int)) (by omega) (by omega), u64 (x := rd a (i : Int) + (c : Int) + rd b (i : Int)) (by omega) (by omega), hs1, up i (by omega), em, ed, Int.toNat_natCast]
    · have hb0 : rd b (i : Int) = 0 := rd_ge b i (by omega)
      rw [if_neg (by omega), if_pos (by omega), u64 (x := rd a (i : Int)) (by omega) (by omega), u64 (x := rd a (i : Int) + (c : Int)) (by omega) (by omega), up i (by omega)]
      have hs2 : rd a (i : Int) + (c : Int) = (s : Int) := by omega
      rw [hs2, em, ed, Int.toNat_natCast]
theorem plus_f {a b : List Int} (ha : U a) (hb : U b) (hsa : a.length < 35184372088832) (hsb : b.length < 35184372088832) : Ev (fun k => nat_plus.f k a b) (lb (valn a + valn b)) := by
  have go : ∀ {a b : List Int}, U a → U b → b.length ≤ a.length → a.length < 35184372088832 → Ev (fun k => nat_plus.j0 k a b) (lb (valn a + valn b)) := by
    intro a b ha hb hl hs
    have h := plus_l0 ha hb hl hs a.length 0 (List.replicate (a.length + 1) 0) 0 (by omega) (by simp) (U_replicate _) (by omega) (by simp [valn_nil])
    refine Ev.step (fun k => ?_) h
    simp only [nat_plus.j0]
    rw [up a.length (by omega), if_pos (by omega), Int.toNat_natCast, if_pos (by omega)]; rfl
  unfold nat_plus.f
  by_cases h : a.length < b.length
  · have := go hb ha (by omega) hsb
    rw [Nat.add_comm] at this
    exact Ev.congr (fun k => if_pos (by omega)) this
  · exact Ev.congr (fun k => if_neg (by omega)) (go ha hb (by omega) hsa)
/-- The sum of the values of a list of numbers. -/
def sumv (ls : List (List Int)) : Nat := (ls.map valn).sum
theorem rdL4_at (ls : List (List Int)) (i : Nat) (h : i < ls.length) : ls.drop i = rd_L4 ls (i : Int) :: ls.drop (i + 1) := by
  simp [rd_L4, h]
theorem rdL4_mem (ls : List (List Int)) (i : Nat) (h : i < ls.length) : rd_L4 ls (i : Int) ∈ ls := by simp [rd_L4, h]
theorem Add_l0 {ls : List (List Int)} (hU : ∀ l ∈ ls, U l) (m : Nat) (hm : ∀ l ∈ ls, l.length ≤ m) (hs : m + ls.length < 35184372088832) (d : Nat) : ∀ (i : Nat) (s : Nat), i + d = ls.length → s < pw (m + i) →
    Ev (fun k => nat_Add.l0 k (lb s) ls (ls.length : Int) (i : Int)) (lb (s + sumv (ls.drop i))) := by
  induction d with
  | zero =>
    intro i s hi hlt
    obtain rfl : i = ls.length := by omega
    have hlen := lb_len_le hlt
    have h := Trim_f (U_lb s) (by omega)
    rw [valn_lb] at h
    have e : s + sumv (ls.drop ls.length) = s := by simp [sumv]
    rw [e]
    refine Ev.step (f := fun k => (nat_Trim.f k (lb s)).bind some) (fun k => ?_) (Ev.bind h (Ev.now _))
    simp only [nat_Add.l0]
    rw [if_neg (by omega)]
  | succ d ih =>
    intro i s hi hlt
    have hmem := rdL4_mem ls i (by omega)
    have hlen := lb_len_le hlt
    have hlx := hm _ hmem
    have h1 := short_f (hU _ hmem) (by omega)
    have h2 := plus_f (U_lb s) (U_lb (valn (rd_L4 ls (i : Int)))) (by omega) (by have := lb_len (hU _ hmem); omega)
    rw [valn_lb, valn_lb] at h2
    have hlt2 : s + valn (rd_L4 ls (i : Int)) < pw (m + (i + 1)) := by
      have a1 := valn_lt (hU _ hmem)
      have a2 : pw (rd_L4 ls (i : Int)).length ≤ pw (m + i) := pw_mono (by omega)
      rw [← Nat.add_assoc, pw_succ]; omega
    have h3 := ih (i + 1) _ (by omega) hlt2
    have e : s + sumv (ls.drop i) = s + valn (rd_L4 ls (i : Int)) + sumv (ls.drop (i + 1)) := by
      rw [rdL4_at ls i (by omega)]; simp only [sumv, List.map_cons, List.sum_cons]; omega
    rw [e]
    refine Ev.step (f := fun k => (nat_short.f k (rd_L4 ls (i : Int))).bind fun t => (nat_plus.f k (lb s) t).bind fun t' => nat_Add.l0 k t' ls (ls.length : Int) ((i + 1 : Nat) : Int)) (fun k => ?_) (Ev.bind h1 (Ev.bind h2 h3))
    simp only [nat_Add.l0]
    rw [if_pos (by omega), if_pos (by omega), if_pos (by omega), up i (by omega)]
theorem Add_f {ls : List (List Int)} (hU : ∀ l ∈ ls, U l) (m : Nat) (hm : ∀ l ∈ ls, l.length ≤ m) (hs : m + ls.length < 35184372088832) : Ev (fun k => nat_Add.f k ls) (lb (sumv ls)) := by
  have h := Add_l0 hU m hm hs ls.length 0 0 (by omega) (pw_pos _)
  rw [lb_zero] at h
  simpa [nat_Add.f] using h
theorem Add_two {a b : List Int} (ha : U a) (hb : U b) (hsa : a.length < 30000000000000) (hsb : b.length < 30000000000000) : Ev (fun k => nat_Add.f k [a, b]) (lb (valn a + valn b)) := by
  have h := Add_f (ls := [a, b]) (by intro l hl; simp at hl; rcases hl with rfl | rfl <;> assumption) 30000000000000 (by intro l hl; simp at hl; rcases hl with rfl | rfl <;> omega) (by simp)
  simpa [sumv] using h
end Go.Proofs.Ytecfdemglbfnoaa.Num
namespace Go.Proofs.Ytecfdemglbfnoaa.Num
open Go.RowKit Go.Proofs.Ytecfdemglbfnoaa.PT Go.Proofs.YtecfdemglbfnoaaW.PrintWords Go.Proofs.YtecfdemglbfnoaaW.PrintLast Go.Proofs.YtecfdemglbfnoaaW.PrintMore

theorem mul_lt_lt {a b m n : Nat} (ha : a ≤ m) (hb : b ≤ n) : a * b ≤ m * n := Nat.mul_le_mul ha hb
theorem mul_step {V V' Z0 p P q d bj zij c tm c' S : Nat} (h : V + p * c = Z0 + P * d * S) (hs : V' + p * zij = V + p * tm) (e : d * bj + zij + c = tm + 4294967296 * c') (hp : p = P * q) :
    V' + p * 4294967296 * c' = Z0 + P * d * (S + q * bj) := by
  have h1 : p * (d * bj + zij + c) = p * (tm + 4294967296 * c') := by rw [e]
  simp only [Nat.mul_add] at h1 ⊢
  have h2 : P * d * (q * bj) = p * (d * bj) := by rw [hp]; ac_rfl
  have h3 : p * 4294967296 * c' = p * (4294967296 * c') := by rw [Nat.mul_assoc]
  omega
/-- The value of one step's sum. -/
def tv (d bj zij c : Nat) : Nat := d * bj + zij + c
theorem tv_lt {d bj zij c : Nat} (hd : d < 4294967296) (hb : bj < 4294967296) (hz : zij < 4294967296) (hc : c < 4294967296) : tv d bj zij c < 18446744073709551616 := by
  have := Nat.mul_le_mul (Nat.le_sub_one_of_lt hd) (Nat.le_sub_one_of_lt hb)
  unfold tv; omega
theorem inner {α : Type} {b : List Int} (hb : U b) (L i d : Nat) (hd : d < 4294967296) (hL : i + b.length < L) (F : Nat → List Int → Nat → Nat → Option α) (R : α) (v0 : Nat)
    (hstep : ∀ k z c j, j < b.length → z.length = L → U z → c < 4294967296 →
      F (k + 1) z c j = F k (z.set (i + j) ((tv d (rd b (j : Int)).toNat (rd z ((i + j : Nat) : Int)).toNat c % 4294967296 : Nat) : Int)) (tv d (rd b (j : Int)).toNat (rd z ((i + j : Nat) : Int)).toNat c / 4294967296) (j + 1))
    (hend : ∀ z c, z.length = L → U z → c < 4294967296 → valn z + pw (i + b.length) * c = v0 + pw i * d * valn b → valn (z.drop (i + b.length)) = 0 → Ev (fun k => F k z c b.length) R) (n : Nat) :
    ∀ (j : Nat) (z : List Int) (c : Nat), j + n = b.length → z.length = L → U z → c < 4294967296 → valn z + pw (i + j) * c = v0 + pw i * d * valn (b.take j) → valn (z.drop (i + b.length)) = 0 → Ev (fun k => F k z c j) R := by
  induction n with
  | zero =>
    intro j z c hj hz uz hc hv h0
    obtain rfl : j = b.length := by omega
    rw [List.take_of_length_le (Nat.le_refl _)] at hv
    exact hend z c hz uz hc hv h0
  | succ n ih =>
    intro j z c hj hz uz hc hv h0
    have b1 := U_rd hb (j : Int)
    have b2 := U_rd uz ((i + j : Nat) : Int)
    have ht := tv_lt (d := d) (bj := (rd b (j : Int)).toNat) (zij := (rd z ((i + j : Nat) : Int)).toNat) (c := c) hd (by omega) (by omega) hc
    refine Ev.step (fun k => hstep k z c j (by omega) hz uz hc) (ih (j + 1) _ _ (by omega) (by rw [List.length_set]; exact hz) (U_set uz (by omega) _) (by omega) ?_ ?_)
    · rw [valn_take_succ, ← Nat.add_assoc, pw_succ]
      have hs := valn_set z (i + j) ((tv d (rd b (j : Int)).toNat (rd z ((i + j : Nat) : Int)).toNat c % 4294967296 : Nat) : Int) (by omega)
      rw [Int.toNat_natCast] at hs
      exact mul_step hv hs (by have e : d * (rd b (j : Int)).toNat + (rd z ((i + j : Nat) : Int)).toNat + c = tv d (rd b (j : Int)).toNat (rd z ((i + j : Nat) : Int)).toNat c := rfl
                               rw [e]; omega) (pw_add i j)
    · rw [List.drop_set_of_lt (by omega)]; exact h0
theorem mulLoop {α : Type} {a b : List Int} (ha : U a) (hb : U b) (G : Nat → List Int → Nat → Option α) (F : Nat → Nat → List Int → Nat → Nat → Option α) (R : α)
    (h1 : ∀ k z i, i < a.length → z.length = a.length + b.length → G (k + 1) z i = F k i z 0 0)
    (h2 : ∀ k i z c j, i < a.length → j < b.length → z.length = a.length + b.length → U z → c < 4294967296 →
      F (k + 1) i z c j = F k i (z.set (i + j) ((tv (rd a (i : Int)).toNat (rd b (j : Int)).toNat (rd z ((i + j : Nat) : Int)).toNat c % 4294967296 : Nat) : Int)) (tv (rd a (i : Int)).toNat (rd b (j : Int)).toNat (rd z ((i + j : Nat) : Int)).toNat c / 4294967296) (j + 1))
    (h3 : ∀ k i z (c : Nat), i < a.length → z.length = a.length + b.length → c < 4294967296 → F (k + 1) i z c b.length = G k (z.set (i + b.length) (c : Int)) (i + 1))
    (h4 : ∀ z, U z → z.length = a.length + b.length → valn z = valn a * valn b → Ev (fun k => G k z a.length) R) : Ev (fun k => G k (List.replicate (a.length + b.length) 0) 0) R := by
  have go : ∀ (n i : Nat) (z : List Int), i + n = a.length → z.length = a.length + b.length → U z → valn z = valn (a.take i) * valn b → valn (z.drop (i + b.length)) = 0 → Ev (fun k => G k z i) R := by
    intro n
    induction n with
    | zero =>
      intro i z hi hz uz hv h0
      obtain rfl : i = a.length := by omega
      rw [List.take_of_length_le (Nat.le_refl _)] at hv
      exact h4 z uz hz hv
    | succ n ih =>
      intro i z hi hz uz hv h0
      have a1 := U_rd ha (i : Int)
      refine Ev.step (fun k => h1 k z i (by omega) hz) ?_
      refine inner hb (a.length + b.length) i (rd a (i : Int)).toNat (by omega) (by omega) (fun k z c j => F k i z c j) R (valn z) (fun k z c j hj hz uz hc => h2 k i z c j (by omega) hj hz uz hc) ?_ b.length 0 z 0 (by omega) hz uz (by omega) (by simp [valn_nil]) h0
      intro z' c hz' uz' hc hv' h0'
      refine Ev.step (fun k => h3 k i z' c (by omega) hz' hc) (ih (i + 1) _ (by omega) (by rw [List.length_set]; exact hz') (U_set uz' (by omega) _) ?_ ?_)
      · have hs := valn_set z' (i + b.length) (c : Int) (by omega)
        rw [Int.toNat_natCast] at hs
        have hr : (rd z' ((i + b.length : Nat) : Int)).toNat = 0 := by
          have := valn_drop_rd z' (i + b.length)
          omega
        rw [hr, Nat.mul_zero, Nat.add_zero] at hs
        rw [hs, hv', hv, valn_take_succ, Nat.add_mul]
      · rw [List.drop_set_of_lt (by omega)]
        have := valn_drop_rd z' (i + b.length)
        have e : i + 1 + b.length = i + b.length + 1 := by omega
        rw [e]; omega
  exact go a.length 0 _ (by omega) (by simp) (U_replicate _) (by simp [valn_replicate, valn_nil]) (by rw [List.drop_replicate]; exact valn_replicate _)
theorem times_f {a b : List Int} (ha : U a) (hb : U b) (hs : a.length + b.length < 35184372088832) : Ev (fun k => nat_times.f k a b) (lb (valn a * valn b)) := by
  have go := mulLoop ha hb (fun k z i => nat_times.l0 k b z a (a.length : Int) (i : Int)) (fun k i z c j => nat_times.l1 k b z (i : Int) (rd a (i : Int)) (c : Int) a (a.length : Int) (i : Int) b (b.length : Int) (j : Int)) (lb (valn a * valn b)) ?_ ?_ ?_ ?_
  · refine Ev.congr (fun k => ?_) go
    unfold nat_times.f
    have e : wrap64 ((a.length : Int) + (b.length : Int)) = ((a.length + b.length : Nat) : Int) := by rw [w64 (by omega) (by omega)]; rfl
    rw [e, if_pos (by omega), Int.toNat_natCast, if_pos (by omega)]; rfl
  · intro k z i hi hz
    simp only [nat_times.l0]
    rw [if_pos (by omega), if_pos (by omega), if_pos (by omega)]; rfl
  · intro k i z c j hi hj hz uz hc
    have a1 := U_rd ha (i : Int)
    have b1 := U_rd hb (j : Int)
    have b2 := U_rd uz ((i + j : Nat) : Int)
    have ht := tv_lt (d := (rd a (i : Int)).toNat) (bj := (rd b (j : Int)).toNat) (zij := (rd z ((i + j : Nat) : Int)).toNat) (c := c) (by omega) (by omega) (by omega) hc
    obtain ⟨A, hA⟩ : ∃ A : Nat, rd a (i : Int) = (A : Int) := ⟨(rd a (i : Int)).toNat, by omega⟩
    obtain ⟨B, hB⟩ : ∃ B : Nat, rd b (j : Int) = (B : Int) := ⟨(rd b (j : Int)).toNat, by omega⟩
    obtain ⟨Z, hZ⟩ : ∃ Z : Nat, rd z ((i + j : Nat) : Int) = (Z : Int) := ⟨(rd z ((i + j : Nat) : Int)).toNat, by omega⟩
    have eij : wrap64 ((i : Int) + (j : Int)) = ((i + j : Nat) : Int) := by rw [w64 (by omega) (by omega)]; rfl
    simp only [nat_times.l1]
    rw [if_pos (by omega), if_pos (by omega), if_pos (by omega), eij]
    clear eij
    rw [hA, hB, hZ] at ht ⊢
    simp only [Int.toNat_natCast] at ht ⊢
    have hp : A * B ≤ tv A B Z c := by unfold tv; omega
    have ht2 : A * B + Z + c < 18446744073709551616 := ht
    have e1 : IntKind.u64.wrap (A : Int) = (A : Int) := u64 (by omega) (by omega)
    have e2 : IntKind.u64.wrap (B : Int) = (B : Int) := u64 (by omega) (by omega)
    have e3 : IntKind.u64.wrap (Z : Int) = (Z : Int) := u64 (by omega) (by omega)
    have e4 : IntKind.u64.wrap ((A : Int) * (B : Int)) = ((A * B : Nat) : Int) := by rw [← Int.natCast_mul]; exact u64 (Int.natCast_nonneg _) (by omega)
    have e5 : IntKind.u64.wrap (((A * B : Nat) : Int) + (Z : Int)) = ((A * B + Z : Nat) : Int) := by
      rw [← Int.natCast_add]; exact u64 (Int.natCast_nonneg _) (by
        have : A * B + Z ≤ tv A B Z c := by unfold tv; omega
        omega)
    have e6 : IntKind.u64.wrap (((A * B + Z : Nat) : Int) + (c : Int)) = ((tv A B Z c : Nat) : Int) := by
      rw [← Int.natCast_add]; exact u64 (Int.natCast_nonneg _) (by omega)
    rw [e1, e2, e3, e4, e5, e6]
    clear e1 e2 e3 e4 e5 e6
    generalize tv A B Z c = t at ht ⊢
    have em : ((t : Nat) : Int) % 4294967296 = ((t % 4294967296 : Nat) : Int) := by omega
    have ed : ((t : Nat) : Int) / 4294967296 = ((t / 4294967296 : Nat) : Int) := by omega
    rw [if_pos (by omega), if_pos (by omega), em, ed, up j (by omega)]
  · intro k i z c hi hz hc
    have eij : wrap64 ((i : Int) + (b.length : Int)) = ((i + b.length : Nat) : Int) := by rw [w64 (by omega) (by omega)]; rfl
    have ec : ((c : Nat) : Int) % 4294967296 = (c : Int) := by omega
    simp only [nat_times.l1]
    rw [if_neg (by omega), eij, ec]
    clear eij ec
    rw [if_pos (by omega), if_pos (by omega), up i (by omega), Int.toNat_natCast]
  · intro z uz hz hv
    have h := short_f uz (by omega)
    rw [hv] at h
    refine Ev.step (f := fun k => (nat_short.f k z).bind some) (fun k => ?_) (Ev.bind h (Ev.now _))
    simp only [nat_times.l0]
    rw [if_neg (by omega)]
/-- The product of the values of a list of numbers. -/
def prodv (ls : List (List Int)) : Nat := (ls.map valn).foldr (· * ·) 1
def lensum (ls : List (List Int)) : Nat := (ls.map List.length).sum
theorem Mul_l0 {ls : List (List Int)} (hU : ∀ l ∈ ls, U l) (hL : ls.length ≤ 9223372036854775807) (n0 : Nat) (n : Nat) : ∀ (i : Nat) (s m : Nat), i + n = ls.length → s < pw m → m + lensum (ls.drop i) ≤ n0 → n0 < 35184372088832 →
    Ev (fun k => nat_Mul.l0 k (lb s) ls (ls.length : Int) (i : Int)) (lb (s * prodv (ls.drop i))) := by
  induction n with
  | zero =>
    intro i s m hi hlt hm hn
    obtain rfl : i = ls.length := by omega
    have hlen := lb_len_le hlt
    have h := Trim_f (U_lb s) (by omega)
    rw [valn_lb] at h
    have e : s * prodv (ls.drop ls.length) = s := by simp [prodv]
    rw [e]
    refine Ev.step (f := fun k => (nat_Trim.f k (lb s)).bind some) (fun k => ?_) (Ev.bind h (Ev.now _))
    simp only [nat_Mul.l0]
    rw [if_neg (by omega)]
  | succ n ih =>
    intro i s m hi hlt hm hn
    have hmem := rdL4_mem ls i (by omega)
    have hd := rdL4_at ls i (by omega)
    rw [hd] at hm ⊢
    have hm' : m + ((rd_L4 ls (i : Int)).length + lensum (ls.drop (i + 1))) ≤ n0 := by simpa [lensum] using hm
    have hlen := lb_len_le hlt
    have hlen2 := lb_len (hU _ hmem)
    have h1 := short_f (hU _ hmem) (by omega)
    have h2 := times_f (U_lb s) (U_lb (valn (rd_L4 ls (i : Int)))) (by omega)
    rw [valn_lb, valn_lb] at h2
    have hlt2 : s * valn (rd_L4 ls (i : Int)) < pw (m + (rd_L4 ls (i : Int)).length) := by
      rw [pw_add]
      exact Nat.mul_lt_mul'' hlt (valn_lt (hU _ hmem))
    have h3 := ih (i + 1) _ _ (by omega) hlt2 (by omega) hn
    have e : s * prodv (rd_L4 ls (i : Int) :: ls.drop (i + 1)) = s * valn (rd_L4 ls (i : Int)) * prodv (ls.drop (i + 1)) := by
      simp only [prodv, List.map_cons, List.foldr_cons, Nat.mul_assoc]
    rw [e]
    refine Ev.step (f := fun k => (nat_short.f k (rd_L4 ls (i : Int))).bind fun t => (nat_times.f k (lb s) t).bind fun t' => nat_Mul.l0 k t' ls (ls.length : Int) ((i + 1 : Nat) : Int)) (fun k => ?_) (Ev.bind h1 (Ev.bind h2 h3))
    simp only [nat_Mul.l0]
    rw [if_pos (by omega), if_pos (by omega), if_pos (by omega), up i (by omega)]
theorem lb_one : lb 1 = [1] := by rw [lb_pos (by omega)]; simp [lb_zero]
theorem Mul_f {ls : List (List Int)} (hU : ∀ l ∈ ls, U l) (hs : lensum ls < 35184372088831) (hn : ls.length ≤ 9223372036854775807) : Ev (fun k => nat_Mul.f k ls) (lb (prodv ls)) := by
  have h := Mul_l0 hU hn (1 + lensum ls) ls.length 0 1 1 (by omega) (by rw [pw_succ, pw_zero]; omega) (by simp) (by omega)
  rw [lb_one] at h
  simpa [nat_Mul.f] using h
theorem Mul_two {a b : List Int} (ha : U a) (hb : U b) (hs : a.length + b.length < 30000000000000) : Ev (fun k => nat_Mul.f k [a, b]) (lb (valn a * valn b)) := by
  have h := Mul_f (ls := [a, b]) (by intro l hl; simp at hl; rcases hl with rfl | rfl <;> assumption) (by simp [lensum]; omega) (by simp)
  simpa [prodv] using h
end Go.Proofs.Ytecfdemglbfnoaa.Num
namespace Go.Proofs.Ytecfdemglbfnoaa.Num
open Go.RowKit Go.Proofs.Ytecfdemglbfnoaa.PT Go.Proofs.YtecfdemglbfnoaaW.PrintWords Go.Proofs.YtecfdemglbfnoaaW.PrintLast Go.Proofs.YtecfdemglbfnoaaW.PrintMore

theorem addij (i j : Nat) (h : i + j < 9223372036854775807) : wrap64 ((i : Int) + (j : Int)) = ((i + j : Nat) : Int) := by rw [w64 (by omega) (by omega)]; rfl
theorem limb_f {l : List Int} (h : U l) (i : Nat) : codewrightref01_limb.f l (i : Int) = some (rd l (i : Int)) := by
  unfold codewrightref01_limb.f
  by_cases hi : i < l.length
  · have := U_rd h (i : Int)
    rw [if_pos (by omega), if_pos (by omega), u64 (by omega) (by omega)]
  · rw [if_neg (by omega), rd_ge l i (by omega)]
theorem tmod_nat (s : Nat) : Int.tmod (s : Int) 4294967296 = ((s % 4294967296 : Nat) : Int) := rfl
theorem tdiv_nat (s : Nat) : Int.tdiv (s : Int) 4294967296 = ((s / 4294967296 : Nat) : Int) := rfl
theorem radd_l0 {a b : List Int} (ha : U a) (hb : U b) (hsa : a.length < 30000000000000) (hsb : b.length < 30000000000000) (n : Nat) : ∀ (i : Nat) (z : List Int) (c : Nat), i + n = a.length + b.length + 1 → z.length = i → U z → c ≤ 1 → (max a.length b.length < i → c = 0) → i ≤ max a.length b.length + 1 →
    valn z + pw i * c = valn (a.take i) + valn (b.take i) →
    Ev (fun k => codewrightref01_Add.l0 k a b z (c : Int) (i : Int)) (lb (valn a + valn b)) := by
  induction n with
  | zero =>
    intro i z c hi hz uz hc hc0 hm hv
    have ec : c = 0 := by
      by_cases h : max a.length b.length < i
      · exact hc0 h
      · omega
    subst ec
    rw [Nat.mul_zero, Nat.add_zero, List.take_of_length_le (by omega), List.take_of_length_le (by omega)] at hv
    have h := rTrim_f uz (by omega)
    rw [hv] at h
    refine Ev.step (f := fun k => codewrightref01_Add.j1 k a b z (0 : Nat) (i : Int) false) (fun k => ?_) ?_
    · simp only [codewrightref01_Add.l0]
      rw [if_neg (by omega), if_neg (by omega)]; rfl
    · refine Ev.step (f := fun k => (codewrightref01_Trim.f k z).bind some) (fun k => ?_) (Ev.bind h (Ev.now _))
      simp only [codewrightref01_Add.j1]
      rw [if_neg (by simp)]
  | succ n ih =>
    intro i z c hi hz uz hc hc0 hm hv
    by_cases more : i < a.length ∨ i < b.length ∨ 0 < c
    · have h0 := U_rd ha (i : Int)
      have h1 := U_rd hb (i : Int)
      obtain ⟨s, hs1⟩ : ∃ s : Nat, rd a (i : Int) + rd b (i : Int) + (c : Int) = (s : Int) := ⟨(rd a (i : Int) + rd b (i : Int) + (c : Int)).toNat, by omega⟩
      have him : i ≤ max a.length b.length := by
        rcases more with h | h | h
        · omega
        · omega
        · by_cases h' : max a.length b.length < i
          · have := hc0 h'; omega
          · omega
      have step := ih (i + 1) (z ++ [((s % 4294967296 : Nat) : Int)]) (s / 4294967296) (by omega) (by simp [hz]) (U_append uz (U_cons (by omega) U_nil)) (by omega) (by
        intro hlt
        have e : i = max a.length b.length := by omega
        have r1 := rd_ge a i (by omega)
        have r2 := rd_ge b i (by omega)
        omega) (by omega) (by
        rw [valn_append, hz, valn_cons, valn_nil, valn_take_succ a, valn_take_succ b, pw_succ, Int.toNat_natCast, Nat.mul_zero, Nat.add_zero]
        exact step_val hv (by omega))
      refine Ev.step (f := fun k => codewrightref01_Add.j1 k a b z (c : Int) (i : Int) true) (fun k => ?_) (Ev.step (fun k => ?_) step)
      · simp only [codewrightref01_Add.l0]
        by_cases p1 : i < a.length
        · rw [if_pos (by omega)]
        · rw [if_neg (by omega)]
          by_cases p2 : i < b.length
          · rw [if_pos (by omega)]
          · rw [if_neg (by omega), decide_eq_true (by omega : (c : Int) > 0)]
      · simp only [codewrightref01_Add.j1]
        rw [if_pos trivial, limb_f ha, limb_f hb, Option.bind_some, Option.bind_some, if_pos (by omega), u64 (x := rd a (i : Int) + rd b (i : Int)) (by omega) (by omega), u64 (x := rd a (i : Int) + rd b (i : Int) + (c : Int)) (by omega) (by omega), hs1, tmod_nat, tdiv_nat, u64 (x := ((s / 4294967296 : Nat) : Int)) (by omega) (by omega), up i (by omega)]
        have em : (((s % 4294967296 : Nat) : Int)) % 4294967296 = ((s % 4294967296 : Nat) : Int) := by omega
        rw [em]
    · have ec : c = 0 := by omega
      subst ec
      rw [Nat.mul_zero, Nat.add_zero, List.take_of_length_le (by omega), List.take_of_length_le (by omega)] at hv
      have h := rTrim_f uz (by omega)
      rw [hv] at h
      refine Ev.step (f := fun k => codewrightref01_Add.j1 k a b z (0 : Nat) (i : Int) false) (fun k => ?_) ?_
      · simp only [codewrightref01_Add.l0]
        rw [if_neg (by omega), if_neg (by omega)]; rfl
      · refine Ev.step (f := fun k => (codewrightref01_Trim.f k z).bind some) (fun k => ?_) (Ev.bind h (Ev.now _))
        simp only [codewrightref01_Add.j1]
        rw [if_neg (by simp)]
theorem rAdd_f {a b : List Int} (ha : U a) (hb : U b) (hsa : a.length < 30000000000000) (hsb : b.length < 30000000000000) : Ev (fun k => codewrightref01_Add.f k a b) (lb (valn a + valn b)) := by
  have h := radd_l0 ha hb (by omega) (by omega) (a.length + b.length + 1) 0 [] 0 (by omega) rfl U_nil (by omega) (by omega) (by omega) (by simp [valn_nil])
  exact h
theorem rMul_f {a b : List Int} (ha : U a) (hb : U b) (hs : a.length + b.length < 35184372088832) : Ev (fun k => codewrightref01_Mul.f k a b) (lb (valn a * valn b)) := by
  have go := mulLoop ha hb (fun k z i => codewrightref01_Mul.l0 k a b z (i : Int)) (fun k i z c j => codewrightref01_Mul.l1 k a b z (i : Int) (c : Int) (j : Int)) (lb (valn a * valn b)) ?_ ?_ ?_ ?_
  · refine Ev.congr (fun k => ?_) go
    unfold codewrightref01_Mul.f
    have e : wrap64 ((a.length : Int) + (b.length : Int)) = ((a.length + b.length : Nat) : Int) := by rw [w64 (by omega) (by omega)]; rfl
    rw [e, if_pos (by omega), Int.toNat_natCast, if_pos (by omega)]; rfl
  · intro k z i hi hz
    simp only [codewrightref01_Mul.l0]
    rw [if_pos (by omega)]; rfl
  · intro k i z c j hi hj hz uz hc
    have a1 := U_rd ha (i : Int)
    have b1 := U_rd hb (j : Int)
    have b2 := U_rd uz ((i + j : Nat) : Int)
    have ht := tv_lt (d := (rd a (i : Int)).toNat) (bj := (rd b (j : Int)).toNat) (zij := (rd z ((i + j : Nat) : Int)).toNat) (c := c) (by omega) (by omega) (by omega) hc
    obtain ⟨A, hA⟩ : ∃ A : Nat, rd a (i : Int) = (A : Int) := ⟨(rd a (i : Int)).toNat, by omega⟩
    obtain ⟨B, hB⟩ : ∃ B : Nat, rd b (j : Int) = (B : Int) := ⟨(rd b (j : Int)).toNat, by omega⟩
    obtain ⟨Z, hZ⟩ : ∃ Z : Nat, rd z ((i + j : Nat) : Int) = (Z : Int) := ⟨(rd z ((i + j : Nat) : Int)).toNat, by omega⟩
    simp only [codewrightref01_Mul.l1]
    rw [if_pos (by omega), if_pos (by omega), if_pos (by omega), if_pos (by omega), addij i j (by omega)]
    rw [hA, hB, hZ] at ht ⊢
    simp only [Int.toNat_natCast] at ht ⊢
    have hp : A * B ≤ tv A B Z c := by unfold tv; omega
    have ht2 : A * B + Z + c < 18446744073709551616 := ht
    have e1 : IntKind.u64.wrap (A : Int) = (A : Int) := u64 (by omega) (by omega)
    have e2 : IntKind.u64.wrap (B : Int) = (B : Int) := u64 (by omega) (by omega)
    have e3 : IntKind.u64.wrap (Z : Int) = (Z : Int) := u64 (by omega) (by omega)
    have e4 : IntKind.u64.wrap ((A : Int) * (B : Int)) = ((A * B : Nat) : Int) := by rw [← Int.natCast_mul]; exact u64 (Int.natCast_nonneg _) (by omega)
    have e5 : IntKind.u64.wrap (((A * B : Nat) : Int) + (Z : Int)) = ((A * B + Z : Nat) : Int) := by
      rw [← Int.natCast_add]; exact u64 (Int.natCast_nonneg _) (by omega)
    have e6 : IntKind.u64.wrap (((A * B + Z : Nat) : Int) + (c : Int)) = ((tv A B Z c : Nat) : Int) := by
      rw [← Int.natCast_add]; exact u64 (Int.natCast_nonneg _) (by omega)
    rw [e1, e2, e3, e4, e5, e6]
    clear e1 e2 e3 e4 e5 e6
    generalize tv A B Z c = t at ht ⊢
    rw [tmod_nat, tdiv_nat, u64 (x := ((t / 4294967296 : Nat) : Int)) (by omega) (by omega)]
    have em : ((t % 4294967296 : Nat) : Int) % 4294967296 = ((t % 4294967296 : Nat) : Int) := by omega
    rw [if_pos (by omega), if_pos (by omega), em, up j (by omega)]
  · intro k i z c hi hz hc
    have ec : ((c : Nat) : Int) % 4294967296 = (c : Int) := by omega
    simp only [codewrightref01_Mul.l1]
    rw [if_neg (by omega), addij i b.length (by omega), ec]
    clear ec
    rw [if_pos (by omega), if_pos (by omega), up i (by omega), Int.toNat_natCast]
  · intro z uz hz hv
    have h := rTrim_f uz (by omega)
    rw [hv] at h
    refine Ev.step (f := fun k => (codewrightref01_Trim.f k z).bind some) (fun k => ?_) (Ev.bind h (Ev.now _))
    simp only [codewrightref01_Mul.l0]
    rw [if_neg (by omega)]

/-! The order -/
def cmpn (m n : Nat) : Int := if m < n then -1 else if n < m then 1 else 0
theorem cmpn_self (m : Nat) : cmpn m m = 0 := by simp [cmpn]
theorem cmpn_zero {m n : Nat} : cmpn m n = 0 ↔ m = n := by unfold cmpn; omega
theorem valn_split (l : List Int) (n : Nat) : valn l = valn (l.take n) + pw n * valn (l.drop n) := by
  by_cases h : n ≤ l.length
  · exact valn_take_drop l n h
  · rw [List.take_of_length_le (by omega), List.drop_eq_nil_of_le (by omega), valn_nil]; simp
theorem take_lt {l : List Int} (h : U l) (n : Nat) : valn (l.take n) < pw n :=
  Nat.lt_of_lt_of_le (valn_lt (U_take h n)) (pw_mono (by rw [List.length_take]; omega))
theorem top_lt {a b : List Int} (ha : U a) (n : Nat) (hd : valn (a.drop (n + 1)) = valn (b.drop (n + 1))) (h : (rd a (n : Int)).toNat < (rd b (n : Int)).toNat) : valn a < valn b := by
  have h1 := take_lt ha n
  have h2 := valn_split a n
  have h3 := valn_split b n
  have h4 := valn_drop_rd a n
  have h5 := valn_drop_rd b n
  have h6 : pw n * (valn (a.drop n) + 1) ≤ pw n * valn (b.drop n) := Nat.mul_le_mul_left _ (by omega)
  rw [Nat.mul_add] at h6
  omega
theorem Cmp_l0 {a b : List Int} (ha : U a) (hb : U b) (he : a.length = b.length) (hs : a.length < 9223372036854775807) : ∀ n : Nat, n ≤ a.length → valn (a.drop n) = valn (b.drop n) →
    Ev (fun k => nat_Cmp.l0 k a b ((n : Int) - 1)) (cmpn (valn a) (valn b)) := by
  intro n
  induction n with
  | zero =>
    intro hn hd
    simp only [List.drop_zero] at hd
    rw [hd, cmpn_self]
    refine Ev.step (f := fun _ => some 0) (fun k => ?_) (Ev.now _)
    simp only [nat_Cmp.l0]
    rw [if_neg (by omega)]
  | succ n ih =>
    intro hn hd
    have e1 : ((n + 1 : Nat) : Int) - 1 = (n : Int) := by omega
    have a1 := U_rd ha (n : Int)
    have b1 := U_rd hb (n : Int)
    rw [e1]
    by_cases h1 : rd a (n : Int) < rd b (n : Int)
    · have := top_lt ha n hd (by omega)
      have ec : cmpn (valn a) (valn b) = -1 := by unfold cmpn; rw [if_pos this]
      rw [ec]
      refine Ev.step (f := fun _ => some (-1)) (fun k => ?_) (Ev.now _)
      simp only [nat_Cmp.l0]
      rw [if_pos (by omega), if_pos (by omega), if_pos (by omega), if_pos (by omega), if_pos h1]
    · by_cases h2 : rd b (n : Int) < rd a (n : Int)
      · have := top_lt hb n hd.symm (by omega)
        have ec : cmpn (valn a) (valn b) = 1 := by unfold cmpn; rw [if_neg (by omega), if_pos this]
        rw [ec]
        refine Ev.step (f := fun _ => some 1) (fun k => ?_) (Ev.now _)
        simp only [nat_Cmp.l0]
        rw [if_pos (by omega), if_pos (by omega), if_pos (by omega), if_pos (by omega), if_neg h1, if_pos (by omega)]
      · refine Ev.step (f := fun k => nat_Cmp.l0 k a b ((n : Int) - 1)) (fun k => ?_) (ih (by omega) (by have := valn_drop_rd a n; have := valn_drop_rd b n; omega))
        simp only [nat_Cmp.l0]
        rw [if_pos (by omega), if_pos (by omega), if_pos (by omega), if_pos (by omega), if_neg h1, if_neg (by omega), w64 (by omega) (by omega)]
theorem Cmp_f {a b : List Int} (ha : U a) (hb : U b) (hsa : a.length < 9223372036854775807) (hsb : b.length < 9223372036854775807) : Ev (fun k => nat_Cmp.f k a b) (cmpn (valn a) (valn b)) := by
  unfold nat_Cmp.f
  refine Ev.bind (short_f ha (by omega)) (Ev.bind (short_f hb (by omega)) ?_)
  have la := lb_len ha
  have lbb := lb_len hb
  by_cases h : (lb (valn a)).length = (lb (valn b)).length
  · have go := Cmp_l0 (U_lb (valn a)) (U_lb (valn b)) h (by omega) (lb (valn a)).length (Nat.le_refl _) (by rw [List.drop_eq_nil_of_le (Nat.le_refl _), List.drop_eq_nil_of_le (by omega)])
    rw [valn_lb, valn_lb] at go
    refine Ev.congr (fun k => ?_) go
    rw [if_pos (by omega), w64 (by omega) (by omega)]
  · by_cases h2 : (lb (valn a)).length < (lb (valn b)).length
    · have ec : cmpn (valn a) (valn b) = -1 := by unfold cmpn; rw [if_pos (len_lt_of_lt h2)]
      rw [ec]
      refine Ev.congr (f := fun _ => some (-1)) (fun k => ?_) (Ev.now _)
      rw [if_neg (by omega), if_pos (by omega)]
    · have := len_lt_of_lt (m := valn b) (n := valn a) (by omega)
      have ec : cmpn (valn a) (valn b) = 1 := by unfold cmpn; rw [if_neg (by omega), if_pos this]
      rw [ec]
      refine Ev.congr (f := fun _ => some 1) (fun k => ?_) (Ev.now _)
      rw [if_neg (by omega), if_neg (by omega)]
theorem rCmp_l0 {a b : List Int} (ha : U a) (hb : U b) : ∀ n : Nat, n < 9223372036854775807 → valn (a.drop n) = valn (b.drop n) →
    Ev (fun k => codewrightref01_Cmp.l0 k a b ((n : Int) - 1)) (cmpn (valn a) (valn b)) := by
  intro n
  induction n with
  | zero =>
    intro hn hd
    simp only [List.drop_zero] at hd
    rw [hd, cmpn_self]
    refine Ev.step (f := fun _ => some 0) (fun k => ?_) (Ev.now _)
    simp only [codewrightref01_Cmp.l0]
    rw [if_neg (by omega)]
  | succ n ih =>
    intro hn hd
    have e1 : ((n + 1 : Nat) : Int) - 1 = (n : Int) := by omega
    have a1 := U_rd ha (n : Int)
    have b1 := U_rd hb (n : Int)
    rw [e1]
    by_cases h1 : rd a (n : Int) < rd b (n : Int)
    · have := top_lt ha n hd (by omega)
      have ec : cmpn (valn a) (valn b) = -1 := by unfold cmpn; rw [if_pos this]
      rw [ec]
      refine Ev.step (f := fun _ => some (-1)) (fun k => ?_) (Ev.now _)
      simp only [codewrightref01_Cmp.l0, limb_f ha, limb_f hb, Option.bind_some]
      rw [if_pos (by omega), if_pos h1]
    · by_cases h2 : rd b (n : Int) < rd a (n : Int)
      · have := top_lt hb n hd.symm (by omega)
        have ec : cmpn (valn a) (valn b) = 1 := by unfold cmpn; rw [if_neg (by omega), if_pos this]
        rw [ec]
        refine Ev.step (f := fun _ => some 1) (fun k => ?_) (Ev.now _)
        simp only [codewrightref01_Cmp.l0, limb_f ha, limb_f hb, Option.bind_some]
        rw [if_pos (by omega), if_neg h1, if_pos (by omega)]
      · refine Ev.step (f := fun k => codewrightref01_Cmp.l0 k a b ((n : Int) - 1)) (fun k => ?_) (ih (by omega) (by have := valn_drop_rd a n; have := valn_drop_rd b n; omega))
        simp only [codewrightref01_Cmp.l0, limb_f ha, limb_f hb, Option.bind_some]
        rw [if_pos (by omega), if_neg h1, if_neg (by omega), w64 (by omega) (by omega)]
theorem rCmp_f {a b : List Int} (ha : U a) (hb : U b) (hsa : a.length < 9223372036854775807) (hsb : b.length < 9223372036854775807) : Ev (fun k => codewrightref01_Cmp.f k a b) (cmpn (valn a) (valn b)) := by
  have go := rCmp_l0 ha hb (max a.length b.length) (by omega) (by rw [List.drop_eq_nil_of_le (by omega), List.drop_eq_nil_of_le (by omega)])
  refine Ev.congr (fun k => ?_) go
  unfold codewrightref01_Cmp.f mx
  have e : (if (a.length : Int) < (b.length : Int) then (b.length : Int) else (a.length : Int)) = ((max a.length b.length : Nat) : Int) := by omega
  rw [w64 (by omega) (by omega)]
  congr 1; omega

/-! The equality of two lists of limbs -/
theorem Same_l0 {a b : List Int} (he : a.length = b.length) (hs : a.length < 9223372036854775807) (n : Nat) : ∀ i : Nat, i + n = a.length → a.take i = b.take i →
    Ev (fun k => codewrightref01_Same.l0 k a b (i : Int)) (decide (a = b)) := by
  induction n with
  | zero =>
    intro i hi ht
    rw [List.take_of_length_le (by omega), List.take_of_length_le (by omega)] at ht
    rw [decide_eq_true ht]
    refine Ev.step (f := fun _ => some true) (fun k => ?_) (Ev.now _)
    simp only [codewrightref01_Same.l0]
    rw [if_neg (by omega)]
  | succ n ih =>
    intro i hi ht
    by_cases e : rd a (i : Int) = rd b (i : Int)
    · refine Ev.step (fun k => ?_) (ih (i + 1) (by omega) (by rw [take_rd a i (by omega), take_rd b i (by omega), ht, e]))
      simp only [codewrightref01_Same.l0]
      rw [if_pos (by omega), if_pos (by omega), if_pos (by omega), if_pos e, up i (by omega)]
    · have hne : a ≠ b := by rintro rfl; exact e rfl
      rw [decide_eq_false hne]
      refine Ev.step (f := fun _ => some false) (fun k => ?_) (Ev.now _)
      simp only [codewrightref01_Same.l0]
      rw [if_pos (by omega), if_pos (by omega), if_pos (by omega), if_neg e]
theorem Same_f {a b : List Int} (hs : a.length < 9223372036854775807) : Ev (fun k => codewrightref01_Same.f k a b) (decide (a = b)) := by
  unfold codewrightref01_Same.f
  by_cases h : a.length = b.length
  · exact Ev.congr (fun k => if_pos (by omega)) (Same_l0 h hs a.length 0 (by omega) rfl)
  · have hne : a ≠ b := by rintro rfl; exact h rfl
    rw [decide_eq_false hne]
    exact Ev.congr (f := fun _ => some false) (fun k => if_neg (by omega)) (Ev.now _)
end Go.Proofs.Ytecfdemglbfnoaa.Num
namespace Go.Proofs.Ytecfdemglbfnoaa.PT
open Go.RowKit Go.Proofs.YtecfdemglbfnoaaW.PrintWords Go.Proofs.YtecfdemglbfnoaaW.PrintLast Go.Proofs.YtecfdemglbfnoaaW.PrintMore
attribute [local go_sem] max2_int min2_int max_two min_two max_three min_three max_four min_four   -- for this text's walks alone
set_option linter.unusedVariables false
set_option linter.unusedSimpArgs false

/-! ### semiring_MinPlus_Add: function 35 -/
def semiring_MinPlus_Add.f  (a1 : Int) (a2 : Int) : Option (Int) := (semiring_cost.f a1).bind fun t130 => ((semiring_cost.f a2).bind fun t131 => (some (mn t130 t131)))
set_option maxHeartbeats 8000000 in
set_option maxRecDepth 100000 in
theorem semiring_MinPlus_Add.calls  (a1 : Int) (a2 : Int) (r : Int) (w : World) (h : semiring_MinPlus_Add.f a1 a2 = some r) :
    Calls Try.prog 35 #[.agg #[], .int .i64 a1, .int .i64 a2] w fun e w' => e = .returned (.int .i64 r) ∧ Below w.heap.size w w' := by
  have hu27 := Try.underlying27
  have HB := Aside0.mk (Below.refl w.heap.size w)
  have H : ((semiring_cost.f a1).bind fun t130 => ((semiring_cost.f a2).bind fun t131 => (some (mn t130 t131)))) = some r := h
  clear h
  replace H := Option.bind_eq_some_iff.mp H
  obtain ⟨t130, A40, H⟩ := H
  replace H : ((semiring_cost.f a2).bind fun t131 => (some (mn t130 t131))) = some r := H
  have A4 := Aside0.mk A40
  clear A40
  replace H := Option.bind_eq_some_iff.mp H
  obtain ⟨t131, A50, H⟩ := H
  replace H : (some (mn t130 t131)) = some r := H
  have A5 := Aside0.mk A50
  clear A50
  obtain ⟨ji6, hji6⟩ : ∃ j_ : Int, (mn t130 t131) = j_ := ⟨_, rfl⟩
  replace H : (some ji6) = some r := by first | (rw [hji6] at H; exact H) | (simp only [hji6] at H ⊢; exact H)
  (try rw [hji6] at A4)
  (try rw [hji6] at A5)
  have hji6_ : (if t131 < t130 then t131 else t130) = ji6 := hji6
  obtain rfl := Option.some.inj H
  go_enter Try.func35, Try.ntmps35
  go_wp2_with (first | ((with_reducible refine gate_dst (N := 3) rfl ?_); refine box_event ?hg (N := 3) ?hd (cs := #[]) (t := 27) ?hr ?_; (case hd => rfl); (case hg => rfl); (case hr => first | (go_simp; done) | (go_simp; rfl)); intro gb129 hg w7 hbox hb; have n0_ := Aside0.mk (below_step (by repeat (first | (with_reducible first | exact HB.out | apply below_alloc | apply pw_below_drewN | apply below_drew1) | exact HB.out)) hb); have n1_ := Aside0.mk (hbox); have n2_ := Aside0.mk ((by rw [hg]; exact (below_size (by repeat (first | (with_reducible first | exact HB.out | apply below_alloc | apply pw_below_drewN | apply below_drew1) | exact HB.out))) : w.heap.size ≤ gb129)); have n3_ := Aside0.mk ((by rw [hg]; exact (below_size (by repeat (first | (with_reducible first | exact HB.out | apply below_alloc | apply pw_below_drewN | apply below_drew1) | exact HB.out))) : w.heap.size ≤ gb129)); clear HB; have HB := n0_; have BK129 := n1_; have GW129 := n2_; have GE129 := n3_; clear n0_ n1_ n2_ n3_; clear hb hbox hg) | ((with_reducible refine gate_callee (f := 138) rfl ?_); refine goesL_ (some 8) rfl rfl Try.func138 (by kernel_rfl) rfl #[.int .i64 a1] rfl (by (try simp only [List.map_toArray, List.map_cons, List.map_nil]); first | done | rfl | (simp only [List.length_drop, List.length_take]; rfl)) ?_; (with_reducible refine (semiring_cost.calls a1 t130 _ A4.out).mono ?_); rintro e w8 ⟨rfl, hb⟩; refine ⟨_, rfl, ?_⟩; have n0_ := Aside0.mk (blk_below (g := gb129) (o := .cells #[] 27 (0, 0)) (by (with_reducible repeat (first | refine blk_drewN ?_ _ | refine blk_drew ?_ | refine blk_alloc ?_ _)); exact BK129.out) hb); have n1_ := Aside0.mk (below_step (by repeat (first | (with_reducible first | exact HB.out | apply below_alloc | apply pw_below_drewN | apply below_drew1 | refine below_set ?_ GE129.out) | exact HB.out)) hb); clear BK129; clear HB; have BK129 := n0_; have HB := n1_; clear n0_ n1_; (try clear hb); (try clear hb2); (try clear hk); (try clear hi)) | ((with_reducible refine gate_callee (f := 138) rfl ?_); refine goesL_ (some 10) rfl rfl Try.func138 (by kernel_rfl) rfl #[.int .i64 a2] rfl (by (try simp only [List.map_toArray, List.map_cons, List.map_nil]); first | done | rfl | (simp only [List.length_drop, List.length_take]; rfl)) ?_; (with_reducible refine (semiring_cost.calls a2 t131 _ A5.out).mono ?_); rintro e w9 ⟨rfl, hb⟩; refine ⟨_, rfl, ?_⟩; have n0_ := Aside0.mk (blk_below (g := gb129) (o := .cells #[] 27 (0, 0)) (by (with_reducible repeat (first | refine blk_drewN ?_ _ | refine blk_drew ?_ | refine blk_alloc ?_ _)); exact BK129.out) hb); have n1_ := Aside0.mk (below_step (by repeat (first | (with_reducible first | exact HB.out | apply below_alloc | apply pw_below_drewN | apply below_drew1 | refine below_set ?_ GE129.out) | exact HB.out)) hb); clear BK129; clear HB; have BK129 := n0_; have HB := n1_; clear n0_ n1_; (try clear hb); (try clear hb2); (try clear hk); (try clear hi)))
  go_ret
  exact ⟨by first | rfl | (simp [errW_none, errW_some] <;> rfl) | (simp only [← hji6]; first | rfl | (simp [errW_none, errW_some] <;> rfl)) | (simp [*, errW_none, errW_some] <;> rfl), by repeat (first | (with_reducible first | exact HB.out | apply below_alloc | apply pw_below_drewN | apply below_drew1 | refine below_set ?_ GE129.out) | exact HB.out)⟩

end Go.Proofs.Ytecfdemglbfnoaa.PT
namespace Go.Proofs.Ytecfdemglbfnoaa.PT
open Go.RowKit Go.Proofs.YtecfdemglbfnoaaW.PrintWords Go.Proofs.YtecfdemglbfnoaaW.PrintLast Go.Proofs.YtecfdemglbfnoaaW.PrintMore
attribute [local go_sem] max2_int min2_int max_two min_two max_three min_three max_four min_four   -- for this text's walks alone
set_option linter.unusedVariables false
set_option linter.unusedSimpArgs false

/-! ### codewrightref46_Min: function 36 -/
def codewrightref46_Min.f (a0 : Int) : Option (Int) := some (mx 0 (mn a0 4611686018427387904))
set_option maxHeartbeats 8000000 in
set_option maxRecDepth 100000 in
theorem codewrightref46_Min.calls (a0 : Int) (r : Int) (w : World) (h : codewrightref46_Min.f a0 = some r) :
    Calls Try.prog 36 #[.int .i64 a0] w fun e w' => e = .returned (.int .i64 r) ∧ Below w.heap.size w w' := by
  have HB := Aside0.mk (Below.refl w.heap.size w)
  have H : (some (mx 0 (mn a0 4611686018427387904))) = some r := h
  clear h
  obtain ⟨ji2, hji2⟩ : ∃ j_ : Int, (mn a0 4611686018427387904) = j_ := ⟨_, rfl⟩
  replace H : (some (mx 0 (ji2))) = some r := by first | (rw [hji2] at H; exact H) | (simp only [hji2] at H ⊢; exact H)
  (try (have hji2h : ji2 ≤ 4611686018427387904 := by (rw [← hji2]; unfold mn; (repeat' split) <;> omega)))
  (try (have hji2g : ji2 ≤ 64 := by omega))
  have hji2_ : (if 4611686018427387904 < a0 then 4611686018427387904 else a0) = ji2 := hji2
  obtain ⟨ji3, hji3⟩ : ∃ j_ : Int, (mx 0 (ji2)) = j_ := ⟨_, rfl⟩
  replace H : (some ji3) = some r := by first | (rw [hji3] at H; exact H) | (simp only [hji3] at H ⊢; exact H)
  have hji3_ : (if 0 < (ji2) then (ji2) else 0) = ji3 := hji3
  obtain rfl := Option.some.inj H
  go_enter Try.func36, Try.ntmps36
  go_wp2
  go_ret
  exact ⟨by first | rfl | (simp [errW_none, errW_some] <;> rfl) | (simp only [← hji2, ← hji3]; first | rfl | (simp [errW_none, errW_some] <;> rfl)) | (simp [*, errW_none, errW_some] <;> rfl), by repeat (first | (with_reducible first | exact HB.out | apply below_alloc | apply pw_below_drewN | apply below_drew1) | exact HB.out)⟩

end Go.Proofs.Ytecfdemglbfnoaa.PT
namespace Go.Proofs.Ytecfdemglbfnoaa.PT
open Go.RowKit Go.Proofs.YtecfdemglbfnoaaW.PrintWords Go.Proofs.YtecfdemglbfnoaaW.PrintLast Go.Proofs.YtecfdemglbfnoaaW.PrintMore
attribute [local go_sem] max2_int min2_int max_two min_two max_three min_three max_four min_four   -- for this text's walks alone
set_option linter.unusedVariables false
set_option linter.unusedSimpArgs false

/-! ### codewrightref46_MinMul: function 38 -/
def codewrightref46_MinMul.f (a0 : Int) (a1 : Int) : Option (Int) := (codewrightref46_Min.f a0).bind fun t136 => ((codewrightref46_Min.f a1).bind fun t137 => (if t136 > (wrap64 (4611686018427387904 - t137)) then (some 4611686018427387904) else (some (wrap64 (t136 + t137)))))
set_option maxHeartbeats 8000000 in
set_option maxRecDepth 100000 in
theorem codewrightref46_MinMul.calls (a0 : Int) (a1 : Int) (r : Int) (w : World) (h : codewrightref46_MinMul.f a0 a1 = some r) :
    Calls Try.prog 38 #[.int .i64 a0, .int .i64 a1] w fun e w' => e = .returned (.int .i64 r) ∧ Below w.heap.size w w' := by
  have HB := Aside0.mk (Below.refl w.heap.size w)
  have H : ((codewrightref46_Min.f a0).bind fun t136 => ((codewrightref46_Min.f a1).bind fun t137 => (if t136 > (wrap64 (4611686018427387904 - t137)) then (some 4611686018427387904) else (some (wrap64 (t136 + t137)))))) = some r := h
  clear h
  replace H := Option.bind_eq_some_iff.mp H
  obtain ⟨t136, A30, H⟩ := H
  replace H : ((codewrightref46_Min.f a1).bind fun t137 => (if t136 > (wrap64 (4611686018427387904 - t137)) then (some 4611686018427387904) else (some (wrap64 (t136 + t137))))) = some r := H
  have A3 := Aside0.mk A30
  clear A30
  replace H := Option.bind_eq_some_iff.mp H
  obtain ⟨t137, A40, H⟩ := H
  replace H : (if t136 > (wrap64 (4611686018427387904 - t137)) then (some 4611686018427387904) else (some (wrap64 (t136 + t137)))) = some r := H
  have A4 := Aside0.mk A40
  clear A40
  by_cases c5 : t136 > (wrap64 (4611686018427387904 - t137))
  · rw [if_pos c5] at H
    have c5b0 : decide ((wrap64 (4611686018427387904 - t137)) < t136) = true := decide_eq_true c5
    clear c5
    obtain rfl := Option.some.inj H
    go_enter Try.func38, Try.ntmps38
    go_wp2_with (first | ((with_reducible refine gate_callee (f := 36) rfl ?_); refine goesL_ (some 6) rfl rfl Try.func36 (by kernel_rfl) rfl #[.int .i64 a0] rfl (by (try simp only [List.map_toArray, List.map_cons, List.map_nil]); first | done | rfl | (simp only [List.length_drop, List.length_take]; rfl)) ?_; (with_reducible refine (codewrightref46_Min.calls a0 t136 _ A3.out).mono ?_); rintro e w6 ⟨rfl, hb⟩; refine ⟨_, rfl, ?_⟩; have n0_ := Aside0.mk (below_step (by repeat (first | (with_reducible first | exact HB.out | apply below_alloc | apply pw_below_drewN | apply below_drew1) | exact HB.out)) hb); clear HB; have HB := n0_; clear n0_; (try clear hb); (try clear hb2); (try clear hk); (try clear hi)) | ((with_reducible refine gate_callee (f := 36) rfl ?_); refine goesL_ (some 8) rfl rfl Try.func36 (by kernel_rfl) rfl #[.int .i64 a1] rfl (by (try simp only [List.map_toArray, List.map_cons, List.map_nil]); first | done | rfl | (simp only [List.length_drop, List.length_take]; rfl)) ?_; (with_reducible refine (codewrightref46_Min.calls a1 t137 _ A4.out).mono ?_); rintro e w7 ⟨rfl, hb⟩; refine ⟨_, rfl, ?_⟩; have n0_ := Aside0.mk (below_step (by repeat (first | (with_reducible first | exact HB.out | apply below_alloc | apply pw_below_drewN | apply below_drew1) | exact HB.out)) hb); clear HB; have HB := n0_; clear n0_; (try clear hb); (try clear hb2); (try clear hk); (try clear hi)))
    go_ret
    exact ⟨by first | rfl | (simp [errW_none, errW_some] <;> rfl) | (simp [*, errW_none, errW_some] <;> rfl), by repeat (first | (with_reducible first | exact HB.out | apply below_alloc | apply pw_below_drewN | apply below_drew1) | exact HB.out)⟩
  · rw [if_neg c5] at H
    have c5b0 : decide ((wrap64 (4611686018427387904 - t137)) < t136) = false := decide_eq_false c5
    clear c5
    obtain rfl := Option.some.inj H
    go_enter Try.func38, Try.ntmps38
    go_wp2_with (first | ((with_reducible refine gate_callee (f := 36) rfl ?_); refine goesL_ (some 6) rfl rfl Try.func36 (by kernel_rfl) rfl #[.int .i64 a0] rfl (by (try simp only [List.map_toArray, List.map_cons, List.map_nil]); first | done | rfl | (simp only [List.length_drop, List.length_take]; rfl)) ?_; (with_reducible refine (codewrightref46_Min.calls a0 t136 _ A3.out).mono ?_); rintro e w8 ⟨rfl, hb⟩; refine ⟨_, rfl, ?_⟩; have n0_ := Aside0.mk (below_step (by repeat (first | (with_reducible first | exact HB.out | apply below_alloc | apply pw_below_drewN | apply below_drew1) | exact HB.out)) hb); clear HB; have HB := n0_; clear n0_; (try clear hb); (try clear hb2); (try clear hk); (try clear hi)) | ((with_reducible refine gate_callee (f := 36) rfl ?_); refine goesL_ (some 8) rfl rfl Try.func36 (by kernel_rfl) rfl #[.int .i64 a1] rfl (by (try simp only [List.map_toArray, List.map_cons, List.map_nil]); first | done | rfl | (simp only [List.length_drop, List.length_take]; rfl)) ?_; (with_reducible refine (codewrightref46_Min.calls a1 t137 _ A4.out).mono ?_); rintro e w9 ⟨rfl, hb⟩; refine ⟨_, rfl, ?_⟩; have n0_ := Aside0.mk (below_step (by repeat (first | (with_reducible first | exact HB.out | apply below_alloc | apply pw_below_drewN | apply below_drew1) | exact HB.out)) hb); clear HB; have HB := n0_; clear n0_; (try clear hb); (try clear hb2); (try clear hk); (try clear hi)))
    go_ret
    exact ⟨by first | rfl | (simp [errW_none, errW_some] <;> rfl) | (simp [*, errW_none, errW_some] <;> rfl), by repeat (first | (with_reducible first | exact HB.out | apply below_alloc | apply pw_below_drewN | apply below_drew1) | exact HB.out)⟩

end Go.Proofs.Ytecfdemglbfnoaa.PT
namespace Go.Proofs.Ytecfdemglbfnoaa.PT
open Go.RowKit Go.Proofs.YtecfdemglbfnoaaW.PrintWords Go.Proofs.YtecfdemglbfnoaaW.PrintLast Go.Proofs.YtecfdemglbfnoaaW.PrintMore
attribute [local go_sem] max2_int min2_int max_two min_two max_three min_three max_four min_four   -- for this text's walks alone
set_option linter.unusedVariables false
set_option linter.unusedSimpArgs false

/-! ### semiring_MinPlus_Same: function 39 -/
def semiring_MinPlus_Same.f  (a1 : Int) (a2 : Int) : Option (Bool) := (semiring_cost.f a1).bind fun t139 => ((semiring_cost.f a2).bind fun t140 => (some (t139 == t140)))
set_option maxHeartbeats 8000000 in
set_option maxRecDepth 100000 in
theorem semiring_MinPlus_Same.calls  (a1 : Int) (a2 : Int) (r : Bool) (w : World) (h : semiring_MinPlus_Same.f a1 a2 = some r) :
    Calls Try.prog 39 #[.agg #[], .int .i64 a1, .int .i64 a2] w fun e w' => e = .returned (.bool r) ∧ Below w.heap.size w w' := by
  have hu27 := Try.underlying27
  have HB := Aside0.mk (Below.refl w.heap.size w)
  have H : ((semiring_cost.f a1).bind fun t139 => ((semiring_cost.f a2).bind fun t140 => (some (t139 == t140)))) = some r := h
  clear h
  replace H := Option.bind_eq_some_iff.mp H
  obtain ⟨t139, A40, H⟩ := H
  replace H : ((semiring_cost.f a2).bind fun t140 => (some (t139 == t140))) = some r := H
  have A4 := Aside0.mk A40
  clear A40
  replace H := Option.bind_eq_some_iff.mp H
  obtain ⟨t140, A50, H⟩ := H
  replace H : (some (t139 == t140)) = some r := H
  have A5 := Aside0.mk A50
  clear A50
  obtain rfl := Option.some.inj H
  go_enter Try.func39, Try.ntmps39
  go_wp2_with (first | ((with_reducible refine gate_dst (N := 3) rfl ?_); refine box_event ?hg (N := 3) ?hd (cs := #[]) (t := 27) ?hr ?_; (case hd => rfl); (case hg => rfl); (case hr => first | (go_simp; done) | (go_simp; rfl)); intro gb138 hg w6 hbox hb; have n0_ := Aside0.mk (below_step (by repeat (first | (with_reducible first | exact HB.out | apply below_alloc | apply pw_below_drewN | apply below_drew1) | exact HB.out)) hb); have n1_ := Aside0.mk (hbox); have n2_ := Aside0.mk ((by rw [hg]; exact (below_size (by repeat (first | (with_reducible first | exact HB.out | apply below_alloc | apply pw_below_drewN | apply below_drew1) | exact HB.out))) : w.heap.size ≤ gb138)); have n3_ := Aside0.mk ((by rw [hg]; exact (below_size (by repeat (first | (with_reducible first | exact HB.out | apply below_alloc | apply pw_below_drewN | apply below_drew1) | exact HB.out))) : w.heap.size ≤ gb138)); clear HB; have HB := n0_; have BK138 := n1_; have GW138 := n2_; have GE138 := n3_; clear n0_ n1_ n2_ n3_; clear hb hbox hg) | ((with_reducible refine gate_callee (f := 138) rfl ?_); refine goesL_ (some 8) rfl rfl Try.func138 (by kernel_rfl) rfl #[.int .i64 a1] rfl (by (try simp only [List.map_toArray, List.map_cons, List.map_nil]); first | done | rfl | (simp only [List.length_drop, List.length_take]; rfl)) ?_; (with_reducible refine (semiring_cost.calls a1 t139 _ A4.out).mono ?_); rintro e w7 ⟨rfl, hb⟩; refine ⟨_, rfl, ?_⟩; have n0_ := Aside0.mk (blk_below (g := gb138) (o := .cells #[] 27 (0, 0)) (by (with_reducible repeat (first | refine blk_drewN ?_ _ | refine blk_drew ?_ | refine blk_alloc ?_ _)); exact BK138.out) hb); have n1_ := Aside0.mk (below_step (by repeat (first | (with_reducible first | exact HB.out | apply below_alloc | apply pw_below_drewN | apply below_drew1 | refine below_set ?_ GE138.out) | exact HB.out)) hb); clear BK138; clear HB; have BK138 := n0_; have HB := n1_; clear n0_ n1_; (try clear hb); (try clear hb2); (try clear hk); (try clear hi)) | ((with_reducible refine gate_callee (f := 138) rfl ?_); refine goesL_ (some 10) rfl rfl Try.func138 (by kernel_rfl) rfl #[.int .i64 a2] rfl (by (try simp only [List.map_toArray, List.map_cons, List.map_nil]); first | done | rfl | (simp only [List.length_drop, List.length_take]; rfl)) ?_; (with_reducible refine (semiring_cost.calls a2 t140 _ A5.out).mono ?_); rintro e w8 ⟨rfl, hb⟩; refine ⟨_, rfl, ?_⟩; have n0_ := Aside0.mk (blk_below (g := gb138) (o := .cells #[] 27 (0, 0)) (by (with_reducible repeat (first | refine blk_drewN ?_ _ | refine blk_drew ?_ | refine blk_alloc ?_ _)); exact BK138.out) hb); have n1_ := Aside0.mk (below_step (by repeat (first | (with_reducible first | exact HB.out | apply below_alloc | apply pw_below_drewN | apply below_drew1 | refine below_set ?_ GE138.out) | exact HB.out)) hb); clear BK138; clear HB; have BK138 := n0_; have HB := n1_; clear n0_ n1_; (try clear hb); (try clear hb2); (try clear hk); (try clear hi)))
  go_ret
  exact ⟨by first | rfl | (simp [errW_none, errW_some] <;> rfl) | (simp [*, errW_none, errW_some] <;> rfl), by repeat (first | (with_reducible first | exact HB.out | apply below_alloc | apply pw_below_drewN | apply below_drew1 | refine below_set ?_ GE138.out) | exact HB.out)⟩

end Go.Proofs.Ytecfdemglbfnoaa.PT
namespace Go.Proofs.Ytecfdemglbfnoaa.PT
open Go.RowKit Go.Proofs.YtecfdemglbfnoaaW.PrintWords Go.Proofs.YtecfdemglbfnoaaW.PrintLast Go.Proofs.YtecfdemglbfnoaaW.PrintMore
attribute [local go_sem] max2_int min2_int max_two min_two max_three min_three max_four min_four   -- for this text's walks alone
set_option linter.unusedVariables false
set_option linter.unusedSimpArgs false

/-! ### semiring_gain: function 140 -/
def semiring_gain.f (a0 : Int) : Option (Int) := some (mn (mx a0 (-1)) 4611686018427387904)
set_option maxHeartbeats 8000000 in
set_option maxRecDepth 100000 in
theorem semiring_gain.calls (a0 : Int) (r : Int) (w : World) (h : semiring_gain.f a0 = some r) :
    Calls Try.prog 140 #[.int .i64 a0] w fun e w' => e = .returned (.int .i64 r) ∧ Below w.heap.size w w' := by
  have HB := Aside0.mk (Below.refl w.heap.size w)
  have H : (some (mn (mx a0 (-1)) 4611686018427387904)) = some r := h
  clear h
  obtain ⟨ji2, hji2⟩ : ∃ j_ : Int, (mx a0 (-1)) = j_ := ⟨_, rfl⟩
  replace H : (some (mn (ji2) 4611686018427387904)) = some r := by first | (rw [hji2] at H; exact H) | (simp only [hji2] at H ⊢; exact H)
  have hji2_ : (if a0 < (-1) then (-1) else a0) = ji2 := hji2
  obtain ⟨ji3, hji3⟩ : ∃ j_ : Int, (mn (ji2) 4611686018427387904) = j_ := ⟨_, rfl⟩
  replace H : (some ji3) = some r := by first | (rw [hji3] at H; exact H) | (simp only [hji3] at H ⊢; exact H)
  have hji3_ : (if 4611686018427387904 < (ji2) then 4611686018427387904 else (ji2)) = ji3 := hji3
  obtain rfl := Option.some.inj H
  go_enter Try.func140, Try.ntmps140
  go_wp2
  go_ret
  exact ⟨by first | rfl | (simp [errW_none, errW_some] <;> rfl) | (simp only [← hji2, ← hji3]; first | rfl | (simp [errW_none, errW_some] <;> rfl)) | (simp [*, errW_none, errW_some] <;> rfl), by repeat (first | (with_reducible first | exact HB.out | apply below_alloc | apply pw_below_drewN | apply below_drew1) | exact HB.out)⟩

end Go.Proofs.Ytecfdemglbfnoaa.PT
namespace Go.Proofs.Ytecfdemglbfnoaa.PT
open Go.RowKit Go.Proofs.YtecfdemglbfnoaaW.PrintWords Go.Proofs.YtecfdemglbfnoaaW.PrintLast Go.Proofs.YtecfdemglbfnoaaW.PrintMore
attribute [local go_sem] max2_int min2_int max_two min_two max_three min_three max_four min_four   -- for this text's walks alone
set_option linter.unusedVariables false
set_option linter.unusedSimpArgs false

/-! ### semiring_MaxPlus_Add: function 42 -/
def semiring_MaxPlus_Add.f  (a1 : Int) (a2 : Int) : Option (Int) := (semiring_gain.f a1).bind fun t176 => ((semiring_gain.f a2).bind fun t177 => (some (mx t176 t177)))
set_option maxHeartbeats 8000000 in
set_option maxRecDepth 100000 in
theorem semiring_MaxPlus_Add.calls  (a1 : Int) (a2 : Int) (r : Int) (w : World) (h : semiring_MaxPlus_Add.f a1 a2 = some r) :
    Calls Try.prog 42 #[.agg #[], .int .i64 a1, .int .i64 a2] w fun e w' => e = .returned (.int .i64 r) ∧ Below w.heap.size w w' := by
  have hu33 := Try.underlying33
  have HB := Aside0.mk (Below.refl w.heap.size w)
  have H : ((semiring_gain.f a1).bind fun t176 => ((semiring_gain.f a2).bind fun t177 => (some (mx t176 t177)))) = some r := h
  clear h
  replace H := Option.bind_eq_some_iff.mp H
  obtain ⟨t176, A40, H⟩ := H
  replace H : ((semiring_gain.f a2).bind fun t177 => (some (mx t176 t177))) = some r := H
  have A4 := Aside0.mk A40
  clear A40
  replace H := Option.bind_eq_some_iff.mp H
  obtain ⟨t177, A50, H⟩ := H
  replace H : (some (mx t176 t177)) = some r := H
  have A5 := Aside0.mk A50
  clear A50
  obtain ⟨ji6, hji6⟩ : ∃ j_ : Int, (mx t176 t177) = j_ := ⟨_, rfl⟩
  replace H : (some ji6) = some r := by first | (rw [hji6] at H; exact H) | (simp only [hji6] at H ⊢; exact H)
  (try rw [hji6] at A4)
  (try rw [hji6] at A5)
  have hji6_ : (if t176 < t177 then t177 else t176) = ji6 := hji6
  obtain rfl := Option.some.inj H
  go_enter Try.func42, Try.ntmps42
  go_wp2_with (first | ((with_reducible refine gate_dst (N := 3) rfl ?_); refine box_event ?hg (N := 3) ?hd (cs := #[]) (t := 33) ?hr ?_; (case hd => rfl); (case hg => rfl); (case hr => first | (go_simp; done) | (go_simp; rfl)); intro gb175 hg w7 hbox hb; have n0_ := Aside0.mk (below_step (by repeat (first | (with_reducible first | exact HB.out | apply below_alloc | apply pw_below_drewN | apply below_drew1) | exact HB.out)) hb); have n1_ := Aside0.mk (hbox); have n2_ := Aside0.mk ((by rw [hg]; exact (below_size (by repeat (first | (with_reducible first | exact HB.out | apply below_alloc | apply pw_below_drewN | apply below_drew1) | exact HB.out))) : w.heap.size ≤ gb175)); have n3_ := Aside0.mk ((by rw [hg]; exact (below_size (by repeat (first | (with_reducible first | exact HB.out | apply below_alloc | apply pw_below_drewN | apply below_drew1) | exact HB.out))) : w.heap.size ≤ gb175)); clear HB; have HB := n0_; have BK175 := n1_; have GW175 := n2_; have GE175 := n3_; clear n0_ n1_ n2_ n3_; clear hb hbox hg) | ((with_reducible refine gate_callee (f := 140) rfl ?_); refine goesL_ (some 8) rfl rfl Try.func140 (by kernel_rfl) rfl #[.int .i64 a1] rfl (by (try simp only [List.map_toArray, List.map_cons, List.map_nil]); first | done | rfl | (simp only [List.length_drop, List.length_take]; rfl)) ?_; (with_reducible refine (semiring_gain.calls a1 t176 _ A4.out).mono ?_); rintro e w8 ⟨rfl, hb⟩; refine ⟨_, rfl, ?_⟩; have n0_ := Aside0.mk (blk_below (g := gb175) (o := .cells #[] 33 (0, 0)) (by (with_reducible repeat (first | refine blk_drewN ?_ _ | refine blk_drew ?_ | refine blk_alloc ?_ _)); exact BK175.out) hb); have n1_ := Aside0.mk (below_step (by repeat (first | (with_reducible first | exact HB.out | apply below_alloc | apply pw_below_drewN | apply below_drew1 | refine below_set ?_ GE175.out) | exact HB.out)) hb); clear BK175; clear HB; have BK175 := n0_; have HB := n1_; clear n0_ n1_; (try clear hb); (try clear hb2); (try clear hk); (try clear hi)) | ((with_reducible refine gate_callee (f := 140) rfl ?_); refine goesL_ (some 10) rfl rfl Try.func140 (by kernel_rfl) rfl #[.int .i64 a2] rfl (by (try simp only [List.map_toArray, List.map_cons, List.map_nil]); first | done | rfl | (simp only [List.length_drop, List.length_take]; rfl)) ?_; (with_reducible refine (semiring_gain.calls a2 t177 _ A5.out).mono ?_); rintro e w9 ⟨rfl, hb⟩; refine ⟨_, rfl, ?_⟩; have n0_ := Aside0.mk (blk_below (g := gb175) (o := .cells #[] 33 (0, 0)) (by (with_reducible repeat (first | refine blk_drewN ?_ _ | refine blk_drew ?_ | refine blk_alloc ?_ _)); exact BK175.out) hb); have n1_ := Aside0.mk (below_step (by repeat (first | (with_reducible first | exact HB.out | apply below_alloc | apply pw_below_drewN | apply below_drew1 | refine below_set ?_ GE175.out) | exact HB.out)) hb); clear BK175; clear HB; have BK175 := n0_; have HB := n1_; clear n0_ n1_; (try clear hb); (try clear hb2); (try clear hk); (try clear hi)))
  go_ret
  exact ⟨by first | rfl | (simp [errW_none, errW_some] <;> rfl) | (simp only [← hji6]; first | rfl | (simp [errW_none, errW_some] <;> rfl)) | (simp [*, errW_none, errW_some] <;> rfl), by repeat (first | (with_reducible first | exact HB.out | apply below_alloc | apply pw_below_drewN | apply below_drew1 | refine below_set ?_ GE175.out) | exact HB.out)⟩

end Go.Proofs.Ytecfdemglbfnoaa.PT
namespace Go.Proofs.Ytecfdemglbfnoaa.PT
open Go.RowKit Go.Proofs.YtecfdemglbfnoaaW.PrintWords Go.Proofs.YtecfdemglbfnoaaW.PrintLast Go.Proofs.YtecfdemglbfnoaaW.PrintMore
attribute [local go_sem] max2_int min2_int max_two min_two max_three min_three max_four min_four   -- for this text's walks alone
set_option linter.unusedVariables false
set_option linter.unusedSimpArgs false

/-! ### semiring_MaxPlus_Mul: function 44 -/
def semiring_MaxPlus_Mul.f  (a1 : Int) (a2 : Int) : Option (Int) := (semiring_gain.f a1).bind fun t179 => ((semiring_gain.f a2).bind fun t180 => (if t179 < 0 then (some (-1)) else (if t180 < 0 then (some (-1)) else ((semiring_capped.f t179 t180).bind fun t181 => (some t181)))))
set_option maxHeartbeats 8000000 in
set_option maxRecDepth 100000 in
theorem semiring_MaxPlus_Mul.calls  (a1 : Int) (a2 : Int) (r : Int) (w : World) (h : semiring_MaxPlus_Mul.f a1 a2 = some r) :
    Calls Try.prog 44 #[.agg #[], .int .i64 a1, .int .i64 a2] w fun e w' => e = .returned (.int .i64 r) ∧ Below w.heap.size w w' := by
  have hu33 := Try.underlying33
  have HB := Aside0.mk (Below.refl w.heap.size w)
  have H : ((semiring_gain.f a1).bind fun t179 => ((semiring_gain.f a2).bind fun t180 => (if t179 < 0 then (some (-1)) else (if t180 < 0 then (some (-1)) else ((semiring_capped.f t179 t180).bind fun t181 => (some t181)))))) = some r := h
  clear h
  replace H := Option.bind_eq_some_iff.mp H
  obtain ⟨t179, A40, H⟩ := H
  replace H : ((semiring_gain.f a2).bind fun t180 => (if t179 < 0 then (some (-1)) else (if t180 < 0 then (some (-1)) else ((semiring_capped.f t179 t180).bind fun t181 => (some t181))))) = some r := H
  have A4 := Aside0.mk A40
  clear A40
  replace H := Option.bind_eq_some_iff.mp H
  obtain ⟨t180, A50, H⟩ := H
  replace H : (if t179 < 0 then (some (-1)) else (if t180 < 0 then (some (-1)) else ((semiring_capped.f t179 t180).bind fun t181 => (some t181)))) = some r := H
  have A5 := Aside0.mk A50
  clear A50
  by_cases c6 : t179 < 0
  · rw [if_pos c6] at H
    have c6b0 : decide (t179 < 0) = true := decide_eq_true c6
    clear c6
    obtain rfl := Option.some.inj H
    go_enter Try.func44, Try.ntmps44
    go_wp2_with (first | ((with_reducible refine gate_dst (N := 3) rfl ?_); refine box_event ?hg (N := 3) ?hd (cs := #[]) (t := 33) ?hr ?_; (case hd => rfl); (case hg => rfl); (case hr => first | (go_simp; done) | (go_simp; rfl)); intro gb178 hg w7 hbox hb; have n0_ := Aside0.mk (below_step (by repeat (first | (with_reducible first | exact HB.out | apply below_alloc | apply pw_below_drewN | apply below_drew1) | exact HB.out)) hb); have n1_ := Aside0.mk (hbox); have n2_ := Aside0.mk ((by rw [hg]; exact (below_size (by repeat (first | (with_reducible first | exact HB.out | apply below_alloc | apply pw_below_drewN | apply below_drew1) | exact HB.out))) : w.heap.size ≤ gb178)); have n3_ := Aside0.mk ((by rw [hg]; exact (below_size (by repeat (first | (with_reducible first | exact HB.out | apply below_alloc | apply pw_below_drewN | apply below_drew1) | exact HB.out))) : w.heap.size ≤ gb178)); clear HB; have HB := n0_; have BK178 := n1_; have GW178 := n2_; have GE178 := n3_; clear n0_ n1_ n2_ n3_; clear hb hbox hg) | ((with_reducible refine gate_callee (f := 140) rfl ?_); refine goesL_ (some 10) rfl rfl Try.func140 (by kernel_rfl) rfl #[.int .i64 a1] rfl (by (try simp only [List.map_toArray, List.map_cons, List.map_nil]); first | done | rfl | (simp only [List.length_drop, List.length_take]; rfl)) ?_; (with_reducible refine (semiring_gain.calls a1 t179 _ A4.out).mono ?_); rintro e w8 ⟨rfl, hb⟩; refine ⟨_, rfl, ?_⟩; have n0_ := Aside0.mk (blk_below (g := gb178) (o := .cells #[] 33 (0, 0)) (by (with_reducible repeat (first | refine blk_drewN ?_ _ | refine blk_drew ?_ | refine blk_alloc ?_ _)); exact BK178.out) hb); have n1_ := Aside0.mk (below_step (by repeat (first | (with_reducible first | exact HB.out | apply below_alloc | apply pw_below_drewN | apply below_drew1 | refine below_set ?_ GE178.out) | exact HB.out)) hb); clear BK178; clear HB; have BK178 := n0_; have HB := n1_; clear n0_ n1_; (try clear hb); (try clear hb2); (try clear hk); (try clear hi)) | ((with_reducible refine gate_callee (f := 140) rfl ?_); refine goesL_ (some 12) rfl rfl Try.func140 (by kernel_rfl) rfl #[.int .i64 a2] rfl (by (try simp only [List.map_toArray, List.map_cons, List.map_nil]); first | done | rfl | (simp only [List.length_drop, List.length_take]; rfl)) ?_; (with_reducible refine (semiring_gain.calls a2 t180 _ A5.out).mono ?_); rintro e w9 ⟨rfl, hb⟩; refine ⟨_, rfl, ?_⟩; have n0_ := Aside0.mk (blk_below (g := gb178) (o := .cells #[] 33 (0, 0)) (by (with_reducible repeat (first | refine blk_drewN ?_ _ | refine blk_drew ?_ | refine blk_alloc ?_ _)); exact BK178.out) hb); have n1_ := Aside0.mk (below_step (by repeat (first | (with_reducible first | exact HB.out | apply below_alloc | apply pw_below_drewN | apply below_drew1 | refine below_set ?_ GE178.out) | exact HB.out)) hb); clear BK178; clear HB; have BK178 := n0_; have HB := n1_; clear n0_ n1_; (try clear hb); (try clear hb2); (try clear hk); (try clear hi)))
    go_ret
    exact ⟨by first | rfl | (simp [errW_none, errW_some] <;> rfl) | (simp [*, errW_none, errW_some] <;> rfl), by repeat (first | (with_reducible first | exact HB.out | apply below_alloc | apply pw_below_drewN | apply below_drew1 | refine below_set ?_ GE178.out) | exact HB.out)⟩
  · rw [if_neg c6] at H
    have c6b0 : decide (t179 < 0) = false := decide_eq_false c6
    clear c6
    by_cases c10 : t180 < 0
    · rw [if_pos c10] at H
      have c10b0 : decide (t180 < 0) = true := decide_eq_true c10
      clear c10
      obtain rfl := Option.some.inj H
      go_enter Try.func44, Try.ntmps44
      go_wp2_with (first | ((with_reducible refine gate_dst (N := 3) rfl ?_); refine box_event ?hg (N := 3) ?hd (cs := #[]) (t := 33) ?hr ?_; (case hd => rfl); (case hg => rfl); (case hr => first | (go_simp; done) | (go_simp; rfl)); intro gb178 hg w11 hbox hb; have n0_ := Aside0.mk (below_step (by repeat (first | (with_reducible first | exact HB.out | apply below_alloc | apply pw_below_drewN | apply below_drew1) | exact HB.out)) hb); have n1_ := Aside0.mk (hbox); have n2_ := Aside0.mk ((by rw [hg]; exact (below_size (by repeat (first | (with_reducible first | exact HB.out | apply below_alloc | apply pw_below_drewN | apply below_drew1) | exact HB.out))) : w.heap.size ≤ gb178)); have n3_ := Aside0.mk ((by rw [hg]; exact (below_size (by repeat (first | (with_reducible first | exact HB.out | apply below_alloc | apply pw_below_drewN | apply below_drew1) | exact HB.out))) : w.heap.size ≤ gb178)); clear HB; have HB := n0_; have BK178 := n1_; have GW178 := n2_; have GE178 := n3_; clear n0_ n1_ n2_ n3_; clear hb hbox hg) | ((with_reducible refine gate_callee (f := 140) rfl ?_); refine goesL_ (some 10) rfl rfl Try.func140 (by kernel_rfl) rfl #[.int .i64 a1] rfl (by (try simp only [List.map_toArray, List.map_cons, List.map_nil]); first | done | rfl | (simp only [List.length_drop, List.length_take]; rfl)) ?_; (with_reducible refine (semiring_gain.calls a1 t179 _ A4.out).mono ?_); rintro e w12 ⟨rfl, hb⟩; refine ⟨_, rfl, ?_⟩; have n0_ := Aside0.mk (blk_below (g := gb178) (o := .cells #[] 33 (0, 0)) (by (with_reducible repeat (first | refine blk_drewN ?_ _ | refine blk_drew ?_ | refine blk_alloc ?_ _)); exact BK178.out) hb); have n1_ := Aside0.mk (below_step (by repeat (first | (with_reducible first | exact HB.out | apply below_alloc | apply pw_below_drewN | apply below_drew1 | refine below_set ?_ GE178.out) | exact HB.out)) hb); clear BK178; clear HB; have BK178 := n0_; have HB := n1_; clear n0_ n1_; (try clear hb); (try clear hb2); (try clear hk); (try clear hi)) | ((with_reducible refine gate_callee (f := 140) rfl ?_); refine goesL_ (some 12) rfl rfl Try.func140 (by kernel_rfl) rfl #[.int .i64 a2] rfl (by (try simp only [List.map_toArray, List.map_cons, List.map_nil]); first | done | rfl | (simp only [List.length_drop, List.length_take]; rfl)) ?_; (with_reducible refine (semiring_gain.calls a2 t180 _ A5.out).mono ?_); rintro e w13 ⟨rfl, hb⟩; refine ⟨_, rfl, ?_⟩; have n0_ := Aside0.mk (blk_below (g := gb178) (o := .cells #[] 33 (0, 0)) (by (with_reducible repeat (first | refine blk_drewN ?_ _ | refine blk_drew ?_ | refine blk_alloc ?_ _)); exact BK178.out) hb); have n1_ := Aside0.mk (below_step (by repeat (first | (with_reducible first | exact HB.out | apply below_alloc | apply pw_below_drewN | apply below_drew1 | refine below_set ?_ GE178.out) | exact HB.out)) hb); clear BK178; clear HB; have BK178 := n0_; have HB := n1_; clear n0_ n1_; (try clear hb); (try clear hb2); (try clear hk); (try clear hi)))
      go_ret
      exact ⟨by first | rfl | (simp [errW_none, errW_some] <;> rfl) | (simp [*, errW_none, errW_some] <;> rfl), by repeat (first | (with_reducible first | exact HB.out | apply below_alloc | apply pw_below_drewN | apply below_drew1 | refine below_set ?_ GE178.out) | exact HB.out)⟩
    · rw [if_neg c10] at H
      have c10b0 : decide (t180 < 0) = false := decide_eq_false c10
      clear c10
      replace H := Option.bind_eq_some_iff.mp H
      obtain ⟨t181, A140, H⟩ := H
      replace H : (some t181) = some r := H
      have A14 := Aside0.mk A140
      clear A140
      obtain rfl := Option.some.inj H
      go_enter Try.func44, Try.ntmps44
      go_wp2_with (first | ((with_reducible refine gate_dst (N := 3) rfl ?_); refine box_event ?hg (N := 3) ?hd (cs := #[]) (t := 33) ?hr ?_; (case hd => rfl); (case hg => rfl); (case hr => first | (go_simp; done) | (go_simp; rfl)); intro gb178 hg w15 hbox hb; have n0_ := Aside0.mk (below_step (by repeat (first | (with_reducible first | exact HB.out | apply below_alloc | apply pw_below_drewN | apply below_drew1) | exact HB.out)) hb); have n1_ := Aside0.mk (hbox); have n2_ := Aside0.mk ((by rw [hg]; exact (below_size (by repeat (first | (with_reducible first | exact HB.out | apply below_alloc | apply pw_below_drewN | apply below_drew1) | exact HB.out))) : w.heap.size ≤ gb178)); have n3_ := Aside0.mk ((by rw [hg]; exact (below_size (by repeat (first | (with_reducible first | exact HB.out | apply below_alloc | apply pw_below_drewN | apply below_drew1) | exact HB.out))) : w.heap.size ≤ gb178)); clear HB; have HB := n0_; have BK178 := n1_; have GW178 := n2_; have GE178 := n3_; clear n0_ n1_ n2_ n3_; clear hb hbox hg) | ((with_reducible refine gate_callee (f := 140) rfl ?_); refine goesL_ (some 10) rfl rfl Try.func140 (by kernel_rfl) rfl #[.int .i64 a1] rfl (by (try simp only [List.map_toArray, List.map_cons, List.map_nil]); first | done | rfl | (simp only [List.length_drop, List.length_take]; rfl)) ?_; (with_reducible refine (semiring_gain.calls a1 t179 _ A4.out).mono ?_); rintro e w16 ⟨rfl, hb⟩; refine ⟨_, rfl, ?_⟩; have n0_ := Aside0.mk (blk_below (g := gb178) (o := .cells #[] 33 (0, 0)) (by (with_reducible repeat (first | refine blk_drewN ?_ _ | refine blk_drew ?_ | refine blk_alloc ?_ _)); exact BK178.out) hb); have n1_ := Aside0.mk (below_step (by repeat (first | (with_reducible first | exact HB.out | apply below_alloc | apply pw_below_drewN | apply below_drew1 | refine below_set ?_ GE178.out) | exact HB.out)) hb); clear BK178; clear HB; have BK178 := n0_; have HB := n1_; clear n0_ n1_; (try clear hb); (try clear hb2); (try clear hk); (try clear hi)) | ((with_reducible refine gate_callee (f := 140) rfl ?_); refine goesL_ (some 12) rfl rfl Try.func140 (by kernel_rfl) rfl #[.int .i64 a2] rfl (by (try simp only [List.map_toArray, List.map_cons, List.map_nil]); first | done | rfl | (simp only [List.length_drop, List.length_take]; rfl)) ?_; (with_reducible refine (semiring_gain.calls a2 t180 _ A5.out).mono ?_); rintro e w17 ⟨rfl, hb⟩; refine ⟨_, rfl, ?_⟩; have n0_ := Aside0.mk (blk_below (g := gb178) (o := .cells #[] 33 (0, 0)) (by (with_reducible repeat (first | refine blk_drewN ?_ _ | refine blk_drew ?_ | refine blk_alloc ?_ _)); exact BK178.out) hb); have n1_ := Aside0.mk (below_step (by repeat (first | (with_reducible first | exact HB.out | apply below_alloc | apply pw_below_drewN | apply below_drew1 | refine below_set ?_ GE178.out) | exact HB.out)) hb); clear BK178; clear HB; have BK178 := n0_; have HB := n1_; clear n0_ n1_; (try clear hb); (try clear hb2); (try clear hk); (try clear hi)) | ((with_reducible refine gate_callee (f := 139) rfl ?_); refine goesL_ (some 21) rfl rfl Try.func139 (by kernel_rfl) rfl #[.int .i64 t179, .int .i64 t180] rfl (by (try simp only [List.map_toArray, List.map_cons, List.map_nil]); first | done | rfl | (simp only [List.length_drop, List.length_take]; rfl)) ?_; (with_reducible refine (semiring_capped.calls t179 t180 t181 _ A14.out).mono ?_); rintro e w' ⟨rfl, ⟨nd, rfl⟩⟩; refine ⟨_, rfl, ?_⟩))
      go_ret
      exact ⟨by first | rfl | (simp [errW_none, errW_some] <;> rfl) | (simp [*, errW_none, errW_some] <;> rfl), by repeat (first | (with_reducible first | exact HB.out | apply below_alloc | apply pw_below_drewN | apply below_drew1 | refine below_set ?_ GE178.out) | exact HB.out)⟩

end Go.Proofs.Ytecfdemglbfnoaa.PT
namespace Go.Proofs.Ytecfdemglbfnoaa.PT
open Go.RowKit Go.Proofs.YtecfdemglbfnoaaW.PrintWords Go.Proofs.YtecfdemglbfnoaaW.PrintLast Go.Proofs.YtecfdemglbfnoaaW.PrintMore
attribute [local go_sem] max2_int min2_int max_two min_two max_three min_three max_four min_four   -- for this text's walks alone
set_option linter.unusedVariables false
set_option linter.unusedSimpArgs false

/-! ### codewrightref46_Max: function 43 -/
def codewrightref46_Max.f (a0 : Int) : Option (Int) := some (mx (-1) (mn a0 4611686018427387904))
set_option maxHeartbeats 8000000 in
set_option maxRecDepth 100000 in
theorem codewrightref46_Max.calls (a0 : Int) (r : Int) (w : World) (h : codewrightref46_Max.f a0 = some r) :
    Calls Try.prog 43 #[.int .i64 a0] w fun e w' => e = .returned (.int .i64 r) ∧ Below w.heap.size w w' := by
  have HB := Aside0.mk (Below.refl w.heap.size w)
  have H : (some (mx (-1) (mn a0 4611686018427387904))) = some r := h
  clear h
  obtain ⟨ji2, hji2⟩ : ∃ j_ : Int, (mn a0 4611686018427387904) = j_ := ⟨_, rfl⟩
  replace H : (some (mx (-1) (ji2))) = some r := by first | (rw [hji2] at H; exact H) | (simp only [hji2] at H ⊢; exact H)
  (try (have hji2h : ji2 ≤ 4611686018427387904 := by (rw [← hji2]; unfold mn; (repeat' split) <;> omega)))
  (try (have hji2g : ji2 ≤ 64 := by omega))
  have hji2_ : (if 4611686018427387904 < a0 then 4611686018427387904 else a0) = ji2 := hji2
  obtain ⟨ji3, hji3⟩ : ∃ j_ : Int, (mx (-1) (ji2)) = j_ := ⟨_, rfl⟩
  replace H : (some ji3) = some r := by first | (rw [hji3] at H; exact H) | (simp only [hji3] at H ⊢; exact H)
  have hji3_ : (if (-1) < (ji2) then (ji2) else (-1)) = ji3 := hji3
  obtain rfl := Option.some.inj H
  go_enter Try.func43, Try.ntmps43
  go_wp2
  go_ret
  exact ⟨by first | rfl | (simp [errW_none, errW_some] <;> rfl) | (simp only [← hji2, ← hji3]; first | rfl | (simp [errW_none, errW_some] <;> rfl)) | (simp [*, errW_none, errW_some] <;> rfl), by repeat (first | (with_reducible first | exact HB.out | apply below_alloc | apply pw_below_drewN | apply below_drew1) | exact HB.out)⟩

end Go.Proofs.Ytecfdemglbfnoaa.PT
namespace Go.Proofs.Ytecfdemglbfnoaa.PT
open Go.RowKit Go.Proofs.YtecfdemglbfnoaaW.PrintWords Go.Proofs.YtecfdemglbfnoaaW.PrintLast Go.Proofs.YtecfdemglbfnoaaW.PrintMore
attribute [local go_sem] max2_int min2_int max_two min_two max_three min_three max_four min_four   -- for this text's walks alone
set_option linter.unusedVariables false
set_option linter.unusedSimpArgs false

/-! ### codewrightref46_MaxMul: function 45 -/
def codewrightref46_MaxMul.f (a0 : Int) (a1 : Int) : Option (Int) := (codewrightref46_Max.f a0).bind fun t182 => ((codewrightref46_Max.f a1).bind fun t183 => (if t182 < 0 then (some (-1)) else (if t183 < 0 then (some (-1)) else ((codewrightref46_MinMul.f t182 t183).bind fun t184 => (some t184)))))
set_option maxHeartbeats 8000000 in
set_option maxRecDepth 100000 in
theorem codewrightref46_MaxMul.calls (a0 : Int) (a1 : Int) (r : Int) (w : World) (h : codewrightref46_MaxMul.f a0 a1 = some r) :
    Calls Try.prog 45 #[.int .i64 a0, .int .i64 a1] w fun e w' => e = .returned (.int .i64 r) ∧ Below w.heap.size w w' := by
  have HB := Aside0.mk (Below.refl w.heap.size w)
  have H : ((codewrightref46_Max.f a0).bind fun t182 => ((codewrightref46_Max.f a1).bind fun t183 => (if t182 < 0 then (some (-1)) else (if t183 < 0 then (some (-1)) else ((codewrightref46_MinMul.f t182 t183).bind fun t184 => (some t184)))))) = some r := h
  clear h
  replace H := Option.bind_eq_some_iff.mp H
  obtain ⟨t182, A30, H⟩ := H
  replace H : ((codewrightref46_Max.f a1).bind fun t183 => (if t182 < 0 then (some (-1)) else (if t183 < 0 then (some (-1)) else ((codewrightref46_MinMul.f t182 t183).bind fun t184 => (some t184))))) = some r := H
  have A3 := Aside0.mk A30
  clear A30
  replace H := Option.bind_eq_some_iff.mp H
  obtain ⟨t183, A40, H⟩ := H
  replace H : (if t182 < 0 then (some (-1)) else (if t183 < 0 then (some (-1)) else ((codewrightref46_MinMul.f t182 t183).bind fun t184 => (some t184)))) = some r := H
  have A4 := Aside0.mk A40
  clear A40
  by_cases c5 : t182 < 0
  · rw [if_pos c5] at H
    have c5b0 : decide (t182 < 0) = true := decide_eq_true c5
    clear c5
    obtain rfl := Option.some.inj H
    go_enter Try.func45, Try.ntmps45
    go_wp2_with (first | ((with_reducible refine gate_callee (f := 43) rfl ?_); refine goesL_ (some 6) rfl rfl Try.func43 (by kernel_rfl) rfl #[.int .i64 a0] rfl (by (try simp only [List.map_toArray, List.map_cons, List.map_nil]); first | done | rfl | (simp only [List.length_drop, List.length_take]; rfl)) ?_; (with_reducible refine (codewrightref46_Max.calls a0 t182 _ A3.out).mono ?_); rintro e w6 ⟨rfl, hb⟩; refine ⟨_, rfl, ?_⟩; have n0_ := Aside0.mk (below_step (by repeat (first | (with_reducible first | exact HB.out | apply below_alloc | apply pw_below_drewN | apply below_drew1) | exact HB.out)) hb); clear HB; have HB := n0_; clear n0_; (try clear hb); (try clear hb2); (try clear hk); (try clear hi)) | ((with_reducible refine gate_callee (f := 43) rfl ?_); refine goesL_ (some 8) rfl rfl Try.func43 (by kernel_rfl) rfl #[.int .i64 a1] rfl (by (try simp only [List.map_toArray, List.map_cons, List.map_nil]); first | done | rfl | (simp only [List.length_drop, List.length_take]; rfl)) ?_; (with_reducible refine (codewrightref46_Max.calls a1 t183 _ A4.out).mono ?_); rintro e w7 ⟨rfl, hb⟩; refine ⟨_, rfl, ?_⟩; have n0_ := Aside0.mk (below_step (by repeat (first | (with_reducible first | exact HB.out | apply below_alloc | apply pw_below_drewN | apply below_drew1) | exact HB.out)) hb); clear HB; have HB := n0_; clear n0_; (try clear hb); (try clear hb2); (try clear hk); (try clear hi)))
    go_ret
    exact ⟨by first | rfl | (simp [errW_none, errW_some] <;> rfl) | (simp [*, errW_none, errW_some] <;> rfl), by repeat (first | (with_reducible first | exact HB.out | apply below_alloc | apply pw_below_drewN | apply below_drew1) | exact HB.out)⟩
  · rw [if_neg c5] at H
    have c5b0 : decide (t182 < 0) = false := decide_eq_false c5
    clear c5
    by_cases c8 : t183 < 0
    · rw [if_pos c8] at H
      have c8b0 : decide (t183 < 0) = true := decide_eq_true c8
      clear c8
      obtain rfl := Option.some.inj H
      go_enter Try.func45, Try.ntmps45
      go_wp2_with (first | ((with_reducible refine gate_callee (f := 43) rfl ?_); refine goesL_ (some 6) rfl rfl Try.func43 (by kernel_rfl) rfl #[.int .i64 a0] rfl (by (try simp only [List.map_toArray, List.map_cons, List.map_nil]); first | done | rfl | (simp only [List.length_drop, List.length_take]; rfl)) ?_; (with_reducible refine (codewrightref46_Max.calls a0 t182 _ A3.out).mono ?_); rintro e w9 ⟨rfl, hb⟩; refine ⟨_, rfl, ?_⟩; have n0_ := Aside0.mk (below_step (by repeat (first | (with_reducible first | exact HB.out | apply below_alloc | apply pw_below_drewN | apply below_drew1) | exact HB.out)) hb); clear HB; have HB := n0_; clear n0_; (try clear hb); (try clear hb2); (try clear hk); (try clear hi)) | ((with_reducible refine gate_callee (f := 43) rfl ?_); refine goesL_ (some 8) rfl rfl Try.func43 (by kernel_rfl) rfl #[.int .i64 a1] rfl (by (try simp only [List.map_toArray, List.map_cons, List.map_nil]); first | done | rfl | (simp only [List.length_drop, List.length_take]; rfl)) ?_; (with_reducible refine (codewrightref46_Max.calls a1 t183 _ A4.out).mono ?_); rintro e w10 ⟨rfl, hb⟩; refine ⟨_, rfl, ?_⟩; have n0_ := Aside0.mk (below_step (by repeat (first | (with_reducible first | exact HB.out | apply below_alloc | apply pw_below_drewN | apply below_drew1) | exact HB.out)) hb); clear HB; have HB := n0_; clear n0_; (try clear hb); (try clear hb2); (try clear hk); (try clear hi)))
      go_ret
      exact ⟨by first | rfl | (simp [errW_none, errW_some] <;> rfl) | (simp [*, errW_none, errW_some] <;> rfl), by repeat (first | (with_reducible first | exact HB.out | apply below_alloc | apply pw_below_drewN | apply below_drew1) | exact HB.out)⟩
    · rw [if_neg c8] at H
      have c8b0 : decide (t183 < 0) = false := decide_eq_false c8
      clear c8
      replace H := Option.bind_eq_some_iff.mp H
      obtain ⟨t184, A110, H⟩ := H
      replace H : (some t184) = some r := H
      have A11 := Aside0.mk A110
      clear A110
      obtain rfl := Option.some.inj H
      go_enter Try.func45, Try.ntmps45
      go_wp2_with (first | ((with_reducible refine gate_callee (f := 43) rfl ?_); refine goesL_ (some 6) rfl rfl Try.func43 (by kernel_rfl) rfl #[.int .i64 a0] rfl (by (try simp only [List.map_toArray, List.map_cons, List.map_nil]); first | done | rfl | (simp only [List.length_drop, List.length_take]; rfl)) ?_; (with_reducible refine (codewrightref46_Max.calls a0 t182 _ A3.out).mono ?_); rintro e w12 ⟨rfl, hb⟩; refine ⟨_, rfl, ?_⟩; have n0_ := Aside0.mk (below_step (by repeat (first | (with_reducible first | exact HB.out | apply below_alloc | apply pw_below_drewN | apply below_drew1) | exact HB.out)) hb); clear HB; have HB := n0_; clear n0_; (try clear hb); (try clear hb2); (try clear hk); (try clear hi)) | ((with_reducible refine gate_callee (f := 43) rfl ?_); refine goesL_ (some 8) rfl rfl Try.func43 (by kernel_rfl) rfl #[.int .i64 a1] rfl (by (try simp only [List.map_toArray, List.map_cons, List.map_nil]); first | done | rfl | (simp only [List.length_drop, List.length_take]; rfl)) ?_; (with_reducible refine (codewrightref46_Max.calls a1 t183 _ A4.out).mono ?_); rintro e w13 ⟨rfl, hb⟩; refine ⟨_, rfl, ?_⟩; have n0_ := Aside0.mk (below_step (by repeat (first | (with_reducible first | exact HB.out | apply below_alloc | apply pw_below_drewN | apply below_drew1) | exact HB.out)) hb); clear HB; have HB := n0_; clear n0_; (try clear hb); (try clear hb2); (try clear hk); (try clear hi)) | ((with_reducible refine gate_callee (f := 38) rfl ?_); refine goesL_ (some 17) rfl rfl Try.func38 (by kernel_rfl) rfl #[.int .i64 t182, .int .i64 t183] rfl (by (try simp only [List.map_toArray, List.map_cons, List.map_nil]); first | done | rfl | (simp only [List.length_drop, List.length_take]; rfl)) ?_; (with_reducible refine (codewrightref46_MinMul.calls t182 t183 t184 _ A11.out).mono ?_); rintro e w14 ⟨rfl, hb⟩; refine ⟨_, rfl, ?_⟩; have n0_ := Aside0.mk (below_step (by repeat (first | (with_reducible first | exact HB.out | apply below_alloc | apply pw_below_drewN | apply below_drew1) | exact HB.out)) hb); clear HB; have HB := n0_; clear n0_; (try clear hb); (try clear hb2); (try clear hk); (try clear hi)))
      go_ret
      exact ⟨by first | rfl | (simp [errW_none, errW_some] <;> rfl) | (simp [*, errW_none, errW_some] <;> rfl), by repeat (first | (with_reducible first | exact HB.out | apply below_alloc | apply pw_below_drewN | apply below_drew1) | exact HB.out)⟩

end Go.Proofs.Ytecfdemglbfnoaa.PT
namespace Go.Proofs.Ytecfdemglbfnoaa.PT
open Go.RowKit Go.Proofs.YtecfdemglbfnoaaW.PrintWords Go.Proofs.YtecfdemglbfnoaaW.PrintLast Go.Proofs.YtecfdemglbfnoaaW.PrintMore
attribute [local go_sem] max2_int min2_int max_two min_two max_three min_three max_four min_four   -- for this text's walks alone
set_option linter.unusedVariables false
set_option linter.unusedSimpArgs false

/-! ### semiring_MaxPlus_Same: function 46 -/
def semiring_MaxPlus_Same.f  (a1 : Int) (a2 : Int) : Option (Bool) := (semiring_gain.f a1).bind fun t186 => ((semiring_gain.f a2).bind fun t187 => (some (t186 == t187)))
set_option maxHeartbeats 8000000 in
set_option maxRecDepth 100000 in
theorem semiring_MaxPlus_Same.calls  (a1 : Int) (a2 : Int) (r : Bool) (w : World) (h : semiring_MaxPlus_Same.f a1 a2 = some r) :
    Calls Try.prog 46 #[.agg #[], .int .i64 a1, .int .i64 a2] w fun e w' => e = .returned (.bool r) ∧ Below w.heap.size w w' := by
  have hu33 := Try.underlying33
  have HB := Aside0.mk (Below.refl w.heap.size w)
  have H : ((semiring_gain.f a1).bind fun t186 => ((semiring_gain.f a2).bind fun t187 => (some (t186 == t187)))) = some r := h
  clear h
  replace H := Option.bind_eq_some_iff.mp H
  obtain ⟨t186, A40, H⟩ := H
  replace H : ((semiring_gain.f a2).bind fun t187 => (some (t186 == t187))) = some r := H
  have A4 := Aside0.mk A40
  clear A40
  replace H := Option.bind_eq_some_iff.mp H
  obtain ⟨t187, A50, H⟩ := H
  replace H : (some (t186 == t187)) = some r := H
  have A5 := Aside0.mk A50
  clear A50
  obtain rfl := Option.some.inj H
  go_enter Try.func46, Try.ntmps46
  go_wp2_with (first | ((with_reducible refine gate_dst (N := 3) rfl ?_); refine box_event ?hg (N := 3) ?hd (cs := #[]) (t := 33) ?hr ?_; (case hd => rfl); (case hg => rfl); (case hr => first | (go_simp; done) | (go_simp; rfl)); intro gb185 hg w6 hbox hb; have n0_ := Aside0.mk (below_step (by repeat (first | (with_reducible first | exact HB.out | apply below_alloc | apply pw_below_drewN | apply below_drew1) | exact HB.out)) hb); have n1_ := Aside0.mk (hbox); have n2_ := Aside0.mk ((by rw [hg]; exact (below_size (by repeat (first | (with_reducible first | exact HB.out | apply below_alloc | apply pw_below_drewN | apply below_drew1) | exact HB.out))) : w.heap.size ≤ gb185)); have n3_ := Aside0.mk ((by rw [hg]; exact (below_size (by repeat (first | (with_reducible first | exact HB.out | apply below_alloc | apply pw_below_drewN | apply below_drew1) | exact HB.out))) : w.heap.size ≤ gb185)); clear HB; have HB := n0_; have BK185 := n1_; have GW185 := n2_; have GE185 := n3_; clear n0_ n1_ n2_ n3_; clear hb hbox hg) | ((with_reducible refine gate_callee (f := 140) rfl ?_); refine goesL_ (some 8) rfl rfl Try.func140 (by kernel_rfl) rfl #[.int .i64 a1] rfl (by (try simp only [List.map_toArray, List.map_cons, List.map_nil]); first | done | rfl | (simp only [List.length_drop, List.length_take]; rfl)) ?_; (with_reducible refine (semiring_gain.calls a1 t186 _ A4.out).mono ?_); rintro e w7 ⟨rfl, hb⟩; refine ⟨_, rfl, ?_⟩; have n0_ := Aside0.mk (blk_below (g := gb185) (o := .cells #[] 33 (0, 0)) (by (with_reducible repeat (first | refine blk_drewN ?_ _ | refine blk_drew ?_ | refine blk_alloc ?_ _)); exact BK185.out) hb); have n1_ := Aside0.mk (below_step (by repeat (first | (with_reducible first | exact HB.out | apply below_alloc | apply pw_below_drewN | apply below_drew1 | refine below_set ?_ GE185.out) | exact HB.out)) hb); clear BK185; clear HB; have BK185 := n0_; have HB := n1_; clear n0_ n1_; (try clear hb); (try clear hb2); (try clear hk); (try clear hi)) | ((with_reducible refine gate_callee (f := 140) rfl ?_); refine goesL_ (some 10) rfl rfl Try.func140 (by kernel_rfl) rfl #[.int .i64 a2] rfl (by (try simp only [List.map_toArray, List.map_cons, List.map_nil]); first | done | rfl | (simp only [List.length_drop, List.length_take]; rfl)) ?_; (with_reducible refine (semiring_gain.calls a2 t187 _ A5.out).mono ?_); rintro e w8 ⟨rfl, hb⟩; refine ⟨_, rfl, ?_⟩; have n0_ := Aside0.mk (blk_below (g := gb185) (o := .cells #[] 33 (0, 0)) (by (with_reducible repeat (first | refine blk_drewN ?_ _ | refine blk_drew ?_ | refine blk_alloc ?_ _)); exact BK185.out) hb); have n1_ := Aside0.mk (below_step (by repeat (first | (with_reducible first | exact HB.out | apply below_alloc | apply pw_below_drewN | apply below_drew1 | refine below_set ?_ GE185.out) | exact HB.out)) hb); clear BK185; clear HB; have BK185 := n0_; have HB := n1_; clear n0_ n1_; (try clear hb); (try clear hb2); (try clear hk); (try clear hi)))
  go_ret
  exact ⟨by first | rfl | (simp [errW_none, errW_some] <;> rfl) | (simp [*, errW_none, errW_some] <;> rfl), by repeat (first | (with_reducible first | exact HB.out | apply below_alloc | apply pw_below_drewN | apply below_drew1 | refine below_set ?_ GE185.out) | exact HB.out)⟩

end Go.Proofs.Ytecfdemglbfnoaa.PT
namespace Go.Proofs.Ytecfdemglbfnoaa.Pure
open Go.RowKit Go.Proofs.Ytecfdemglbfnoaa.PT Go.Proofs.YtecfdemglbfnoaaW.PrintWords Go.Proofs.YtecfdemglbfnoaaW.PrintLast Go.Proofs.YtecfdemglbfnoaaW.PrintMore

def cst (a : Int) : Int := if a < 0 then 0 else if 4611686018427387904 < a then 4611686018427387904 else a
def csum (a b : Int) : Int := if 4611686018427387904 < cst a + cst b then 4611686018427387904 else cst a + cst b
theorem cst_bd (a : Int) : 0 ≤ cst a ∧ cst a ≤ 4611686018427387904 := by unfold cst; omega
theorem csum_bd (a b : Int) : 0 ≤ csum a b ∧ csum a b ≤ 4611686018427387904 := by have := cst_bd a; have := cst_bd b; unfold csum; omega
theorem mn_bd (a b : Int) : 0 ≤ mn (cst a) (cst b) ∧ mn (cst a) (cst b) ≤ 4611686018427387904 := by have := cst_bd a; have := cst_bd b; unfold mn; omega
theorem cost_f (a : Int) : semiring_cost.f a = some (cst a) := by
  unfold semiring_cost.f mn mx cst; congr 1; omega
theorem Min_f (a : Int) : codewrightref46_Min.f a = some (cst a) := by
  unfold codewrightref46_Min.f mn mx cst; congr 1; omega
theorem capped_f {a b : Int} (ha : 0 ≤ a) (ha' : a ≤ 4611686018427387904) (hb : 0 ≤ b) (hb' : b ≤ 4611686018427387904) :
    semiring_capped.f a b = some (if 4611686018427387904 < a + b then 4611686018427387904 else a + b) := by
  unfold semiring_capped.f wrap64
  by_cases h : 4611686018427387904 < a + b
  · rw [if_pos (by omega), if_pos h]
  · rw [if_neg (by omega), if_neg h]; congr 1; omega
theorem Add_f (a b : Int) : semiring_MinPlus_Add.f a b = some (mn (cst a) (cst b)) := by
  simp [semiring_MinPlus_Add.f, cost_f]
theorem Mul_f (a b : Int) : semiring_MinPlus_Mul.f a b = some (csum a b) := by
  have := cst_bd a; have := cst_bd b
  simp only [semiring_MinPlus_Mul.f, cost_f, Option.bind_some]
  rw [capped_f (by omega) (by omega) (by omega) (by omega)]; rfl
theorem MinMul_f (a b : Int) : codewrightref46_MinMul.f a b = some (csum a b) := by
  have := cst_bd a; have := cst_bd b
  simp only [codewrightref46_MinMul.f, Min_f, Option.bind_some]
  unfold wrap64 csum
  by_cases h : 4611686018427387904 < cst a + cst b
  · rw [if_pos (by omega), if_pos h]
  · rw [if_neg (by omega), if_neg h]; congr 1; omega
theorem Same_f (a b : Int) : semiring_MinPlus_Same.f a b = some (cst a == cst b) := by
  simp [semiring_MinPlus_Same.f, cost_f]
theorem cst_self {a : Int} (h : 0 ≤ a) (h' : a ≤ 4611686018427387904) : cst a = a := by unfold cst; omega
theorem cst_mn (a b : Int) : cst (mn (cst a) (cst b)) = mn (cst a) (cst b) := cst_self (mn_bd a b).1 (mn_bd a b).2
theorem cst_csum (a b : Int) : cst (csum a b) = csum a b := cst_self (csum_bd a b).1 (csum_bd a b).2
theorem cst_cst (a : Int) : cst (cst a) = cst a := cst_self (cst_bd a).1 (cst_bd a).2

def gn (a : Int) : Int := if a < -1 then -1 else if 4611686018427387904 < a then 4611686018427387904 else a
def gsum (a b : Int) : Int := if gn a < 0 then -1 else if gn b < 0 then -1 else if 4611686018427387904 < gn a + gn b then 4611686018427387904 else gn a + gn b
theorem gn_bd (a : Int) : -1 ≤ gn a ∧ gn a ≤ 4611686018427387904 := by unfold gn; omega
theorem gsum_bd (a b : Int) : -1 ≤ gsum a b ∧ gsum a b ≤ 4611686018427387904 := by have := gn_bd a; have := gn_bd b; unfold gsum; omega
theorem mx_bd (a b : Int) : -1 ≤ mx (gn a) (gn b) ∧ mx (gn a) (gn b) ≤ 4611686018427387904 := by have := gn_bd a; have := gn_bd b; unfold mx; omega
theorem gain_f (a : Int) : semiring_gain.f a = some (gn a) := by
  unfold semiring_gain.f mn mx gn; congr 1; omega
theorem Max_f (a : Int) : codewrightref46_Max.f a = some (gn a) := by
  unfold codewrightref46_Max.f mn mx gn; congr 1; omega
theorem capd_f {a b : Int} (ha : 0 ≤ a) (ha' : a ≤ 4611686018427387904) (hb : 0 ≤ b) (hb' : b ≤ 4611686018427387904) :
    semiring_capped.f a b = some (if 4611686018427387904 < a + b then 4611686018427387904 else a + b) := by
  unfold semiring_capped.f wrap64
  by_cases h : 4611686018427387904 < a + b
  · rw [if_pos (by omega), if_pos h]
  · rw [if_neg (by omega), if_neg h]; congr 1; omega
theorem GAdd_f (a b : Int) : semiring_MaxPlus_Add.f a b = some (mx (gn a) (gn b)) := by
  simp [semiring_MaxPlus_Add.f, gain_f]
theorem GMul_f (a b : Int) : semiring_MaxPlus_Mul.f a b = some (gsum a b) := by
  have := gn_bd a; have := gn_bd b
  simp only [semiring_MaxPlus_Mul.f, gain_f, Option.bind_some]
  unfold gsum
  by_cases h : gn a < 0
  · rw [if_pos h, if_pos h]
  · rw [if_neg h, if_neg h]
    by_cases h2 : gn b < 0
    · rw [if_pos h2, if_pos h2]
    · rw [if_neg h2, if_neg h2, capd_f (by omega) (by omega) (by omega) (by omega)]; rfl
theorem GMinMul_f {a b : Int} (ha : 0 ≤ a) (ha' : a ≤ 4611686018427387904) (hb : 0 ≤ b) (hb' : b ≤ 4611686018427387904) :
    codewrightref46_MinMul.f a b = some (if 4611686018427387904 < a + b then 4611686018427387904 else a + b) := by
  have h1 : codewrightref46_Min.f a = some a := by unfold codewrightref46_Min.f mn mx; congr 1; omega
  have h2 : codewrightref46_Min.f b = some b := by unfold codewrightref46_Min.f mn mx; congr 1; omega
  simp only [codewrightref46_MinMul.f, h1, h2, Option.bind_some]
  unfold wrap64
  by_cases h : 4611686018427387904 < a + b
  · rw [if_pos (by omega), if_pos h]
  · rw [if_neg (by omega), if_neg h]; congr 1; omega
theorem MaxMul_f (a b : Int) : codewrightref46_MaxMul.f a b = some (gsum a b) := by
  have := gn_bd a; have := gn_bd b
  simp only [codewrightref46_MaxMul.f, Max_f, Option.bind_some]
  unfold gsum
  by_cases h : gn a < 0
  · rw [if_pos h, if_pos h]
  · rw [if_neg h, if_neg h]
    by_cases h2 : gn b < 0
    · rw [if_pos h2, if_pos h2]
    · rw [if_neg h2, if_neg h2, GMinMul_f (by omega) (by omega) (by omega) (by omega)]; rfl
theorem GSame_f (a b : Int) : semiring_MaxPlus_Same.f a b = some (gn a == gn b) := by
  simp [semiring_MaxPlus_Same.f, gain_f]
theorem gn_self {a : Int} (h : -1 ≤ a) (h' : a ≤ 4611686018427387904) : gn a = a := by unfold gn; omega
theorem gn_mx (a b : Int) : gn (mx (gn a) (gn b)) = mx (gn a) (gn b) := gn_self (mx_bd a b).1 (mx_bd a b).2
theorem gn_gsum (a b : Int) : gn (gsum a b) = gsum a b := gn_self (gsum_bd a b).1 (gsum_bd a b).2
theorem gn_gn (a : Int) : gn (gn a) = gn a := gn_self (gn_bd a).1 (gn_bd a).2

end Go.Proofs.Ytecfdemglbfnoaa.Pure
namespace Go.Proofs.Ytecfdemglbfnoaa.Num
open Go.RowKit Go.Proofs.Ytecfdemglbfnoaa.PT Go.Proofs.YtecfdemglbfnoaaW.PrintWords Go.Proofs.YtecfdemglbfnoaaW.PrintLast Go.Proofs.YtecfdemglbfnoaaW.PrintMore

theorem Ev_succ {α : Type} {g : Nat → Option α} {r : α} (h : Ev (fun k => g (k + 1)) r) : Ev g r := Ev.step (fun _ => rfl) h
theorem alive_f : codewrightlaw46_alive.f = some true := by
  unfold codewrightlaw46_alive.f
  rw [Pure.Mul_f]; rfl
theorem short_l1 {r : List (List Int)} (hr : r.length < 9223372036854775807) (hl : ∀ l ∈ r, l.length < 4611686018427387904) (n : Nat) : ∀ (j x : Nat), j + n = r.length → x < 5000000000000000000 →
    ∃ b, Ev (fun k => codewrightlaw46_short.l1 k [r] (x : Int) 0 (j : Int)) b ∧ (b = true → x + lensum (r.drop j) ≤ 120) := by
  have fin : ∀ x : Nat, Ev (fun k => codewrightlaw46_short.l0 k [r] (x : Int) 1) (decide ((x : Int) ≤ 120)) := by
    intro x
    refine Ev.step (f := fun _ => some (decide ((x : Int) ≤ 120))) (fun k => ?_) (Ev.now _)
    simp only [codewrightlaw46_short.l0]
    rw [if_neg (by simp)]
  have er : rd_L5 [r] 0 = r := rfl
  have w01 : wrap64 (0 + 1) = 1 := by unfold wrap64; omega
  induction n with
  | zero =>
    intro j x hj hx
    obtain rfl : j = r.length := by omega
    refine ⟨_, Ev.step (fun k => ?_) (fin x), fun h => ?_⟩
    · simp only [codewrightlaw46_short.l1]
      rw [if_pos (by omega), if_pos (by simp), er, if_neg (by omega), w01]
    · have := of_decide_eq_true h
      simp [lensum]; omega
  | succ n ih =>
    intro j x hj hx
    by_cases h : x ≤ 120
    · have hmem : rd_L4 r (j : Int) ∈ r := rdL4_mem r j (by omega)
      have hlen := hl _ hmem
      obtain ⟨b, hb, hb'⟩ := ih (j + 1) (x + (rd_L4 r (j : Int)).length) (by omega) (by omega)
      refine ⟨b, Ev.step (fun k => ?_) hb, fun h => ?_⟩
      · simp only [codewrightlaw46_short.l1]
        rw [if_pos (by omega), if_pos (by simp), er, if_pos (by omega), if_pos (by omega), if_pos (by omega), up j (by omega), addij x _ (by omega)]
      · have := hb' h
        rw [rdL4_at r j (by omega)]
        simp only [lensum, List.map_cons, List.sum_cons] at this ⊢
        omega
    · refine ⟨_, Ev.step (fun k => ?_) (fin x), fun h' => ?_⟩
      · simp only [codewrightlaw46_short.l1]
        rw [if_pos (by omega), if_pos (by simp), er, if_pos (by omega), if_neg (by omega), w01]
      · have := of_decide_eq_true h'
        omega
/-- The guard of one list of numbers. -/
theorem short_one {r : List (List Int)} (hr : r.length < 4611686018427387904) (hl : ∀ l ∈ r, l.length < 4611686018427387904) :
    ∃ b, Ev (fun k => codewrightlaw46_short.f k [r]) b ∧ (b = true → r.length + lensum r ≤ 120) := by
  obtain ⟨b, hb, hb'⟩ := short_l1 (r := r) (by omega) hl r.length 0 r.length (by omega) (by omega)
  refine ⟨b, ?_, by simpa using hb'⟩
  unfold codewrightlaw46_short.f
  refine Ev.step (fun k => ?_) hb
  simp only [codewrightlaw46_short.l0]
  rw [if_pos (by simp), if_pos (by omega)]
  have er : rd_L5 [r] 0 = r := rfl
  have e : wrap64 (0 + (r.length : Int)) = (r.length : Int) := by rw [w64 (by omega) (by omega)]; omega
  rw [er, e]; rfl
theorem lensum_mem {r : List (List Int)} {l : List Int} (h : l ∈ r) : l.length ≤ lensum r := by
  induction r with
  | nil => cases h
  | cons x r ih =>
    simp only [lensum, List.map_cons, List.sum_cons]
    rcases List.mem_cons.1 h with rfl | h
    · omega
    · have := ih h
      simp only [lensum] at this
      omega
/-- What the semiring's functions of numbers need: limbs, and not too many. -/
def Nm (l : List Int) : Prop := U l ∧ l.length ≤ 1000000000
theorem Nm_lb {n : Nat} (h : n < pw 1000000000) : Nm (lb n) := ⟨U_lb n, lb_len_le h⟩
theorem CZero_f : Ev (fun k => semiring_Counting_Zero.f k) (lb 0) := Ev.bind (Of_f 0 (by omega)) (Ev.now _)
theorem COne_f : Ev (fun k => semiring_Counting_One.f k) (lb 1) := Ev.bind (Of_f 1 (by omega)) (Ev.now _)
theorem CAdd_f {a b : List Int} (ha : Nm a) (hb : Nm b) : Ev (fun k => semiring_Counting_Add.f k a b) (lb (valn a + valn b)) :=
  Ev.bind (Add_two ha.1 hb.1 (by have := ha.2; omega) (by have := hb.2; omega)) (Ev.now _)
theorem CMul_f {a b : List Int} (ha : Nm a) (hb : Nm b) : Ev (fun k => semiring_Counting_Mul.f k a b) (lb (valn a * valn b)) :=
  Ev.bind (Mul_two ha.1 hb.1 (by have := ha.2; have := hb.2; omega)) (Ev.now _)
theorem CSame_f {a b : List Int} (ha : Nm a) (hb : Nm b) : Ev (fun k => semiring_Counting_Same.f k a b) (decide (valn a = valn b)) := by
  refine Ev.bind (Cmp_f ha.1 hb.1 (by have := ha.2; omega) (by have := hb.2; omega)) ?_
  refine Ev.congr (f := fun _ => some (decide (valn a = valn b))) (fun k => ?_) (Ev.now _)
  have := cmpn_zero (m := valn a) (n := valn b)
  by_cases h : valn a = valn b
  · simp [h, cmpn_self]
  · have h2 : cmpn (valn a) (valn b) ≠ 0 := fun e => h (this.1 e)
    simp [h, h2]
theorem Nm_of_lt {n m : Nat} (hm : m ≤ 1000000000) (h : n < pw m) : Nm (lb n) := ⟨U_lb n, Nat.le_trans (lb_len_le h) hm⟩
theorem valn_pw {l : List Int} (h : U l) {m : Nat} (hm : l.length ≤ m) : valn l < pw m := Nat.lt_of_lt_of_le (valn_lt h) (pw_mono hm)
theorem add_pw {x y m : Nat} (h1 : x < pw m) (h2 : y < pw m) : x + y < pw (m + 1) := by rw [pw_succ]; omega
theorem mul_pw {x y m n : Nat} (h1 : x < pw m) (h2 : y < pw n) : x * y < pw (m + n) := by rw [pw_add]; exact Nat.mul_lt_mul'' h1 h2
end Go.Proofs.Ytecfdemglbfnoaa.Num
namespace Go.Proofs.Ytecfdemglbfnoaa.Num
open Go.RowKit Go.Proofs.Ytecfdemglbfnoaa.PT Go.Proofs.YtecfdemglbfnoaaW.PrintWords Go.Proofs.YtecfdemglbfnoaaW.PrintLast Go.Proofs.YtecfdemglbfnoaaW.PrintMore

theorem same_lb {m n : Nat} (h : m = n) (hm : m < pw 1000000000) : Ev (fun k => codewrightref01_Same.f k (lb m) (lb n)) true := by
  have := Same_f (a := lb m) (b := lb n) (by have := lb_len_le hm; omega)
  rwa [decide_eq_true (by rw [h])] at this
theorem counts_j2 {a b c : List Int} (ha : U a) (hb : U b) (hc : U c) (la : a.length ≤ 120) (lb' : b.length ≤ 120) (lc : c.length ≤ 120) : Ev (fun k => codewrightlaw46_SemiringCounts.j2 k a b c false) true := by
  have va := valn_pw ha la
  have vb := valn_pw hb lb'
  have vc := valn_pw hc lc
  have Na : Nm a := ⟨ha, by omega⟩
  have Nb : Nm b := ⟨hb, by omega⟩
  have Nc : Nm c := ⟨hc, by omega⟩
  have up' : ∀ {x m : Nat}, x < pw m → m ≤ 1000000000 → x < pw 1000000000 := fun h hm => Nat.lt_of_lt_of_le h (pw_mono hm)
  have bc := add_pw vb vc
  have ab := mul_pw va vb
  have ac := mul_pw va vc
  have bcm := mul_pw vb vc
  have pab := add_pw va vb
  have h1 := CAdd_f Nb Nc
  have h2 := CMul_f Na (Nm_of_lt (by omega) bc)
  have h3 := CMul_f Na Nb
  have h4 := CMul_f Na Nc
  have h5 := CAdd_f (Nm_of_lt (by omega) ab) (Nm_of_lt (by omega) ac)
  have h6 := CAdd_f Na (Nm_of_lt (by omega) bc)
  have h7 := CAdd_f Na Nb
  have h8 := CAdd_f (Nm_of_lt (by omega) pab) Nc
  have h9 := CMul_f Nb Nc
  have h10 := CMul_f Na (Nm_of_lt (by omega) bcm)
  have h11 := CMul_f (Nm_of_lt (by omega) ab) Nc
  simp only [valn_lb] at h2 h5 h6 h8 h10 h11
  refine Ev_succ ?_
  simp only [codewrightlaw46_SemiringCounts.j2, Bool.false_eq_true, if_false]
  refine Ev.bind h1 (Ev.bind h2 (Ev.bind h3 (Ev.bind h4 (Ev.bind h5 (Ev.bind (same_lb (Nat.mul_add _ _ _) (up' (mul_pw va bc) (by omega))) ?_)))))
  simp only [if_true]
  refine Ev.bind h1 (Ev.bind h6 (Ev.bind h7 (Ev.bind h8 (Ev.bind (same_lb (Nat.add_assoc _ _ _).symm (up' (add_pw (Nat.lt_of_lt_of_le va (pw_mono (by omega : 120 ≤ 121))) bc) (by omega))) ?_))))
  simp only [if_true]
  exact Ev.bind h9 (Ev.bind h10 (Ev.bind h3 (Ev.bind h11 (Ev.bind (same_lb (Nat.mul_assoc _ _ _).symm (up' (mul_pw va bcm) (by omega))) (Ev.now _)))))
theorem counts_f {a b c : List Int} (ha : U a) (hb : U b) (hc : U c) (sa : a.length < 4611686018427387904) (sb : b.length < 4611686018427387904) (sc : c.length < 4611686018427387904) : Ev (fun k => codewrightlaw46_SemiringCounts.f k a b c) true := by
  obtain ⟨g, hg, hg'⟩ := short_one (r := [a, b, c]) (by simp) (by intro l hl; simp at hl; rcases hl with rfl | rfl | rfl <;> assumption)
  unfold codewrightlaw46_SemiringCounts.f
  refine Ev.bind hg ?_
  cases g with
  | false =>
    refine Ev.congr (f := fun _ => some true) (fun k => ?_) (Ev.now _)
    rw [if_neg (by simp), alive_f]; rfl
  | true =>
    have hs := hg' rfl
    simp only [lensum, List.map_cons, List.map_nil, List.sum_cons, List.sum_nil, List.length_cons, List.length_nil] at hs
    have la : a.length ≤ 120 := by omega
    have lb' : b.length ≤ 120 := by omega
    have lc : c.length ≤ 120 := by omega
    have va := valn_pw ha la
    have vb := valn_pw hb lb'
    have Na : Nm a := ⟨ha, by omega⟩
    have Nb : Nm b := ⟨hb, by omega⟩
    have ab := mul_pw va vb
    have pab := add_pw va vb
    have up' : ∀ {x m : Nat}, x < pw m → m ≤ 1000000000 → x < pw 1000000000 := fun h hm => Nat.lt_of_lt_of_le h (pw_mono hm)
    have s0 : Ev (fun k => codewrightref01_Same.f k (lb 0) ([] : List Int)) true := by
      have := same_lb (m := 0) (n := 0) rfl (pw_pos _); rwa [lb_zero] at this ⊢
    have s1 : Ev (fun k => codewrightref01_Same.f k (lb 1) [1]) true := by
      have := same_lb (m := 1) (n := 1) rfl (Nat.lt_of_lt_of_le (by rw [pw_succ, pw_zero]; omega) (pw_mono (by omega : 0 + 1 ≤ 1000000000))); rwa [lb_one] at this ⊢
    have z0 := CAdd_f Na (Nm_of_lt (n := 0) (m := 0) (by omega) (by rw [pw_zero]; omega))
    have z1 := CMul_f Na (Nm_of_lt (n := 1) (m := 1) (by omega) (by rw [pw_succ, pw_zero]; omega))
    have z2 := CSame_f (a := lb (valn a + valn (lb 0))) (b := a) (by rw [valn_lb]; exact Nm_of_lt (m := 120) (by omega) va) Na
    have z3 := CSame_f (a := lb (valn a * valn (lb 1))) (b := a) (by rw [valn_lb, Nat.mul_one]; exact Nm_of_lt (m := 120) (by omega) va) Na
    simp only [valn_lb, Nat.add_zero, Nat.mul_one, decide_true] at z0 z1 z2 z3
    have j2 := counts_j2 ha hb hc la lb' lc
    have j1 : Ev (fun k => codewrightlaw46_SemiringCounts.j1 k a b c false) true := by
      refine Ev_succ ?_
      simp only [codewrightlaw46_SemiringCounts.j1, Bool.false_eq_true, if_false]
      refine Ev.bind (CSame_f Na Nb) (Ev.bind (rCmp_f ha hb (by omega) (by omega)) ?_)
      · have e : (decide (valn a = valn b) != (cmpn (valn a) (valn b) == 0)) = false := by
          have := cmpn_zero (m := valn a) (n := valn b)
          by_cases h : valn a = valn b
          · simp [h, cmpn_self]
          · have h2 : cmpn (valn a) (valn b) ≠ 0 := fun e => h (this.1 e)
            simp [h, h2]
        simp only [e, Bool.false_eq_true, if_false]
        refine Ev.bind CZero_f (Ev.bind z0 (Ev.bind z2 ?_))
        simp only [if_true]
        exact Ev.bind COne_f (Ev.bind z1 (Ev.bind z3 j2))
    have j0 : Ev (fun k => codewrightlaw46_SemiringCounts.j0 k a b c false) true := by
      refine Ev_succ ?_
      simp only [codewrightlaw46_SemiringCounts.j0, Bool.false_eq_true, if_false]
      refine Ev.bind (CAdd_f Na Nb) (Ev.bind (rAdd_f ha hb (by omega) (by omega)) (Ev.bind (same_lb rfl (up' pab (by omega))) ?_))
      · simp only [if_true]
        exact Ev.bind (CMul_f Na Nb) (Ev.bind (rMul_f ha hb (by omega)) (Ev.bind (same_lb rfl (up' ab (by omega))) j1))
    simp only [if_true]
    refine Ev.bind CZero_f (Ev.bind s0 ?_)
    simp only [if_true]
    exact Ev.bind COne_f (Ev.bind s1 j0)
end Go.Proofs.Ytecfdemglbfnoaa.Num
namespace Go.Proofs.Ytecfdemglbfnoaa.Pure
open Go.RowKit Go.Proofs.Ytecfdemglbfnoaa.PT Go.Proofs.Ytecfdemglbfnoaa.Num
theorem u32_U {l : List Int} (h : ∀ x ∈ l, IntKind.u32.min ≤ x ∧ x ≤ IntKind.u32.max) : U l := by
  intro x hx
  have h1 := h x hx
  have e1 : IntKind.u32.min = 0 := rfl
  have e2 : IntKind.u32.max = 4294967295 := rfl
  omega
theorem SemiringCounts (l0 : List Int) (h0 : l0.length * 4 ≤ reachBytes ∧ ∀ x ∈ l0, IntKind.u32.min ≤ x ∧ x ≤ IntKind.u32.max) (l1 : List Int) (h1 : l1.length * 4 ≤ reachBytes ∧ ∀ x ∈ l1, IntKind.u32.min ≤ x ∧ x ≤ IntKind.u32.max)
    (l2 : List Int) (h2 : l2.length * 4 ≤ reachBytes ∧ ∀ x ∈ l2, IntKind.u32.min ≤ x ∧ x ≤ IntKind.u32.max) : ∃ k, codewrightlaw46_SemiringCounts.f k l0 l1 l2 = some true := by
  have hR : reachBytes = 140737488351232 := rfl
  exact (counts_f (u32_U h0.2) (u32_U h1.2) (u32_U h2.2) (by have := h0.1; omega) (by have := h1.1; omega) (by have := h2.1; omega)).rounds
end Go.Proofs.Ytecfdemglbfnoaa.Pure
namespace Go.Proofs.Ytecfdemglbfnoaa.Open
open Go.ChangeShapes Go.WideShapes Go.Deep Go.Proofs.YtecfdemglbfnoaaW.PrintWords

section
variable {H : Type} (enc : TypeId × Value → H) (P : Program) (W : World)
/-- What reads as data of type t, within the reach, holds a value of kind d that meets Q. -/
def Op {α : Type} (d : Kd α) (Q : α → Prop) (t : TypeId) : Prop :=
  ∀ (fuel : Nat) (cs : List Value) (x : DataW H × List MemPlace), DataW.trod enc P W 0 (fun _ => true) true fuel t cs = some x → (∀ n ∈ x.1.weights P t, n ≤ reachBytes) → ∃ y, d.K W y cs ∧ Q y
end
section
variable {H : Type} {enc : TypeId × Value → H} {P : Program} {W : World}
theorem op_int {t : TypeId} {k : IntKind} (ht : P.underlying t = some (.int k)) : Op enc P W (Kd.int k) (fun n => k.min ≤ n ∧ n ≤ k.max) t := by
  intro fuel cs x h _
  obtain ⟨n, rfl, _, hw⟩ := DataW.trod_int ht h
  exact ⟨n, rfl, by simpa [Lit.wf] using hw⟩
theorem op_bool {t : TypeId} (ht : P.underlying t = some .bool) : Op enc P W Kd.bool (fun _ => True) t := by
  intro fuel cs x h _
  obtain ⟨n, rfl, _⟩ := DataW.trod_bool ht h
  exact ⟨n, rfl, trivial⟩
theorem mem_weightsAll {e : TypeId} {D : DataW H} : ∀ {l : List (DataW H)}, D ∈ l → ∀ n ∈ D.weights P e, n ∈ DataW.weightsAll P e l
  | d :: r, h, n, hn => by
    simp only [DataW.weightsAll, List.mem_append]
    rcases List.mem_cons.1 h with rfl | h
    · exact .inl hn
    · exact .inr (mem_weightsAll h n hn)
theorem op_slice {α : Type} {d : Kd α} {Q : α → Prop} {t e B : Nat} (ht : P.underlying t = some (.slice e)) (he : Op enc P W d Q e) (hc : P.cellsOf e = d.sz) (hB : P.bytesOf e = B) :
    Op enc P W (Kd.slice e d) (fun l => l.length * B ≤ reachBytes ∧ ∀ x ∈ l, Q x) t := by
  intro fuel cs x h hw
  rcases open_slice ht h with ⟨rfl, _⟩ | ⟨a, len, cap, m, n, D, Pl, rfl, _, hl, hm, hmm, rfl, hi⟩
  · exact ⟨[], ⟨none, 0, rfl, Nat.le_refl _, Kd.C_nil d W⟩, by simp, by simp⟩
  · simp only [if_true] at hmm
    subst hmm
    have hwl : ((DataW.slice ((List.range len).map D) ((List.range (m - len)).map fun j => D (len + j))).weights P t) = ((List.range len).map D).length.add ((List.range (m - len)).map fun j => D (len + j)).length * P.bytesOf e :: (DataW.weightsAll P e ((List.range len).map D) ++ DataW.weightsAll P e ((List.range (m - len)).map fun j => D (len + j))) := by
      simp only [DataW.weights, ht]; rfl
    rw [hwl] at hw
    have each : ∀ i, i < len → ∃ y : α, (∃ cs', W.cells? 0 (a.add (i * P.cellsOf e)) (P.cellsOf e) = some cs' ∧ d.K W y cs') ∧ Q y := by
      intro i hlt
      obtain ⟨cs', h1, h2⟩ := hi i (by omega)
      obtain ⟨y, hK, hq⟩ := he _ _ _ h2 (fun n hn => hw n (List.mem_cons_of_mem _ (List.mem_append.2 (.inl (mem_weightsAll (List.mem_map.2 ⟨i, List.mem_range.2 hlt, rfl⟩) n hn)))))
      exact ⟨y, ⟨cs', h1, hK⟩, hq⟩
    have hf : ∃ f : Nat → Option α, ∀ i, i < len → ∃ y, f i = some y ∧ (∃ cs', W.cells? 0 (a.add (i * P.cellsOf e)) (P.cellsOf e) = some cs' ∧ d.K W y cs') ∧ Q y := by
      refine ⟨fun i => if h : i < len then some (Classical.choose (each i h)) else none, fun i hlt => ⟨_, dif_pos hlt, Classical.choose_spec (each i hlt)⟩⟩
    obtain ⟨f, hf⟩ := hf
    have hl1 : ((List.range len).filterMap f).length = len ∧ ∀ i, i < len → ((List.range len).filterMap f)[i]? = f i := by
      clear hw hwl each hi h hl hm
      induction len with
      | zero => simp
      | succ k ih =>
        obtain ⟨h1, h2⟩ := ih (fun i hi => hf i (by omega))
        obtain ⟨y, hy, _⟩ := hf k (by omega)
        rw [List.range_succ, List.filterMap_append]
        have e : List.filterMap f [k] = [y] := by simp [List.filterMap, hy]
        rw [e]
        refine ⟨by simp [h1], fun i hi => ?_⟩
        by_cases hk : i < k
        · rw [List.getElem?_append_left (by omega), h2 i hk]
        · obtain rfl : i = k := by omega
          rw [List.getElem?_append_right (by omega), h1]; simp [hy]
    refine ⟨(List.range len).filterMap f, ⟨some a, m, by rw [hl1.1], by rw [hl1.1]; exact hl, rfl, ?_, fun hp => ⟨a, rfl, fun j p hj => ?_⟩⟩, ?_, fun y hy => ?_⟩
    · rw [hl1.1]; unfold maxLen at hm; omega
    · have hjl : j < len := by have := (List.getElem?_eq_some_iff.1 hj).1; rw [hl1.1] at this; exact this
      obtain ⟨y, hy, ⟨cs', hc1, hK⟩, _⟩ := hf j hjl
      rw [hl1.2 j hjl, hy] at hj
      obtain rfl := Option.some.inj hj
      obtain ⟨_, hcl, hat⟩ := World.cells?_some hc1
      refine ⟨cs', d.K_len hK, hK, fun i u hu => ?_⟩
      have hil : i < P.cellsOf e := by have := (List.getElem?_eq_some_iff.1 hu).1; omega
      rw [← hc, ← Go.Deep.add_add]
      rw [hat i hil, hu]
    · have := hw _ (List.mem_cons_self ..)
      rw [hl1.1]
      have h3 : ((List.range len).map D).length.add ((List.range (m - len)).map fun j => D (len + j)).length = m := by simp; omega
      rw [h3, hB] at this
      exact Nat.le_trans (Nat.mul_le_mul_right _ hl) this
    · obtain ⟨i, hi1, hi2⟩ := List.mem_filterMap.1 hy
      obtain ⟨y', hy', _, hq⟩ := hf i (List.mem_range.1 hi1)
      rw [hy'] at hi2
      obtain rfl := Option.some.inj hi2
      exact hq
theorem op_iso {α β : Type} {d : Kd α} {Q : α → Prop} {t : TypeId} (f : β → α) (g : α → β) (hfg : ∀ x, f (g x) = x) (h : Op enc P W d Q t) : Op enc P W (Kd.iso d f) (fun y => Q (f y)) t := by
  intro fuel cs x hx hw
  obtain ⟨y, hK, hq⟩ := h fuel cs x hx hw
  exact ⟨g y, by show d.K W (f (g y)) cs; rw [hfg]; exact hK, by show Q (f (g y)); rw [hfg]; exact hq⟩
theorem take_split {cs : List Value} {a b : Nat} (h : cs.length = a + b) : cs = (cs.drop 0).take a ++ (cs.drop a).take b := by
  rw [List.drop_zero, List.take_of_length_le (l := cs.drop a) (by rw [List.length_drop]; omega), List.take_append_drop]
theorem op_pair {α β : Type} {a : Kd α} {b : Kd β} {Qa : α → Prop} {Qb : β → Prop} {t : TypeId} {f0 f1 : Field} (ht : P.underlying t = some (.struct #[f0, f1])) (h0 : Op enc P W a Qa f0.type) (h1 : Op enc P W b Qb f1.type)
    (o0 : f0.offset = 0) (s0 : P.cellsOf f0.type = a.sz) (o1 : f1.offset = a.sz) (s1 : P.cellsOf f1.type = b.sz) (st : P.cellsOf t = a.sz + b.sz) : Op enc P W (Kd.pair a b) (fun y => Qa y.1 ∧ Qb y.2) t := by
  intro fuel cs x hx hw
  obtain ⟨xs, n, _, rfl, hcl, hlen, hf⟩ := DataW.trod_struct ht hx
  have hwl : ((DataW.agg (xs.map (·.1)) : DataW H).weights P t) = DataW.weightsEach P [f0.type, f1.type] (xs.map (·.1)) := by
    simp only [DataW.weights, ht]; rfl
  rw [hwl] at hw
  obtain ⟨y0, y1, rfl⟩ : ∃ y0 y1, xs = [y0, y1] := by
    match xs, hlen with
    | [y0, y1], _ => exact ⟨y0, y1, rfl⟩
  · have e0 := hf 0 f0 rfl
    have e1 := hf 1 f1 rfl
    rw [o0, s0] at e0
    rw [o1, s1] at e1
    simp only [List.map_cons, List.map_nil, DataW.weightsEach, List.mem_append] at hw
    obtain ⟨z0, k0, q0⟩ := h0 _ _ _ e0 (fun n hn => hw n (.inl hn))
    obtain ⟨z1, k1, q1⟩ := h1 _ _ _ e1 (fun n hn => hw n (.inr (.inl hn)))
    exact ⟨(z0, z1), ⟨_, _, take_split (by rw [hcl, st]), k0, k1⟩, q0, q1⟩
theorem op_triple {α β γ : Type} {a : Kd α} {b : Kd β} {c : Kd γ} {Qa : α → Prop} {Qb : β → Prop} {Qc : γ → Prop} {t : TypeId} {f0 f1 f2 : Field} (ht : P.underlying t = some (.struct #[f0, f1, f2])) (h0 : Op enc P W a Qa f0.type) (h1 : Op enc P W b Qb f1.type) (h2 : Op enc P W c Qc f2.type)
    (o0 : f0.offset = 0) (s0 : P.cellsOf f0.type = a.sz) (o1 : f1.offset = a.sz) (s1 : P.cellsOf f1.type = b.sz) (o2 : f2.offset = a.sz + b.sz) (s2 : P.cellsOf f2.type = c.sz) (st : P.cellsOf t = a.sz + (b.sz + c.sz)) :
    Op enc P W (Kd.pair a (Kd.pair b c)) (fun y => Qa y.1 ∧ Qb y.2.1 ∧ Qc y.2.2) t := by
  intro fuel cs x hx hw
  obtain ⟨xs, n, _, rfl, hcl, hlen, hf⟩ := DataW.trod_struct ht hx
  have hwl : ((DataW.agg (xs.map (·.1)) : DataW H).weights P t) = DataW.weightsEach P [f0.type, f1.type, f2.type] (xs.map (·.1)) := by
    simp only [DataW.weights, ht]; rfl
  rw [hwl] at hw
  obtain ⟨y0, y1, y2, rfl⟩ : ∃ y0 y1 y2, xs = [y0, y1, y2] := by
    match xs, hlen with
    | [y0, y1, y2], _ => exact ⟨y0, y1, y2, rfl⟩
  · have e0 := hf 0 f0 rfl
    have e1 := hf 1 f1 rfl
    have e2 := hf 2 f2 rfl
    rw [o0, s0] at e0
    rw [o1, s1] at e1
    rw [o2, s2] at e2
    simp only [List.map_cons, List.map_nil, DataW.weightsEach, List.mem_append] at hw
    obtain ⟨z0, k0, q0⟩ := h0 _ _ _ e0 (fun n hn => hw n (.inl hn))
    obtain ⟨z1, k1, q1⟩ := h1 _ _ _ e1 (fun n hn => hw n (.inr (.inl hn)))
    obtain ⟨z2, k2, q2⟩ := h2 _ _ _ e2 (fun n hn => hw n (.inr (.inr (.inl hn))))
    refine ⟨(z0, z1, z2), ⟨_, _, take_split (a := a.sz) (b := b.sz + c.sz) (by rw [hcl, st]), k0, _, _, ?_, k1, k2⟩, q0, q1, q2⟩
    rw [List.take_of_length_le (l := cs.drop a.sz) (by rw [List.length_drop, hcl, st]; omega)]
    have h4 := take_split (cs := cs.drop a.sz) (a := b.sz) (b := c.sz) (by rw [List.length_drop, hcl, st]; omega)
    rw [List.drop_zero, List.drop_drop] at h4
    exact h4
end
end Go.Proofs.Ytecfdemglbfnoaa.Open
