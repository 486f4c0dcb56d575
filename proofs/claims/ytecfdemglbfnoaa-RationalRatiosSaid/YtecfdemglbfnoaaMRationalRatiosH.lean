/- Walks and plain facts for the law RationalRatios, several texts in one: each theorem says what it shows; no condition beyond those that it names. -/
import Derived.Deep.Slices
import Derived.Deep.Fields
import Derived.SizedLaws
import Derived.Test.YtecfdemglbfnoaaMRationalRatiosG
section
namespace Go.Proofs.Ytecfdemglbfnoaa.Num
open Go.RowKit Go.Proofs.Ytecfdemglbfnoaa.PT Go.Proofs.YtecfdemglbfnoaaW.PrintWords Go.Proofs.YtecfdemglbfnoaaW.PrintLast Go.Proofs.YtecfdemglbfnoaaW.PrintMore
theorem Ev_as {α : Type} {g : Nat → Option α} {a b : α} (h : Ev g a) (e : a = b) : Ev g b := e ▸ h
theorem lb_len_zero {n : Nat} : (lb n).length = 0 ↔ n = 0 := by rw [List.length_eq_zero_iff, lb_eq_nil]
theorem rZero_f {l : List Int} (ul : U l) (hl : l.length < 35184372088832) : Ev (fun k => codewrightref01_Zero.f k l) (decide (valn l = 0)) := by
  refine Ev.bind (rTrim_f ul hl) (Ev_as (Ev.now _) ?_)
  by_cases h : valn l = 0
  · rw [h, lb_zero]; rfl
  · rw [decide_eq_false h]
    have := mt lb_len_zero.mp h
    exact beq_eq_false_iff_ne.mpr (by omega)
theorem snoc_val (z : List Int) (d : Int) : valn (z ++ [d]) = valn z + pw z.length * d.toNat := by
  rw [valn_append, valn_cons, valn_nil]; simp
theorem U_snoc {z : List Int} (uz : U z) {d : Int} (h : 0 ≤ d ∧ d < 4294967296) : U (z ++ [d]) := U_append uz (U_cons h U_nil)
theorem sub_num {x y c : Nat} (hx : x < 4294967296) (hy : y < 4294967296) (hc : c ≤ 1) :
    ∃ d h : Nat, d < 4294967296 ∧ h ≤ 1 ∧ x + 4294967296 * h = d + y + c ∧
      Int.tmod (IntKind.u64.wrap (IntKind.u64.wrap (IntKind.u64.wrap ((x : Int) + 4294967296) - (y : Int)) - (c : Int))) 4294967296 % 4294967296 = (d : Int) ∧
      IntKind.u64.wrap (1 - IntKind.u64.wrap (Int.tdiv (IntKind.u64.wrap (IntKind.u64.wrap (IntKind.u64.wrap ((x : Int) + 4294967296) - (y : Int)) - (c : Int))) 4294967296)) = (h : Int) := by
  have e1 : (x : Int) + 4294967296 = ((x + 4294967296 : Nat) : Int) := by omega
  have e2 : ((x + 4294967296 : Nat) : Int) - (y : Int) = ((x + 4294967296 - y : Nat) : Int) := by omega
  have e3 : ((x + 4294967296 - y : Nat) : Int) - (c : Int) = ((x + 4294967296 - y - c : Nat) : Int) := by omega
  have w1 : IntKind.u64.wrap ((x + 4294967296 : Nat) : Int) = ((x + 4294967296 : Nat) : Int) ∧ IntKind.u64.wrap ((x + 4294967296 - y : Nat) : Int) = ((x + 4294967296 - y : Nat) : Int) ∧ IntKind.u64.wrap ((x + 4294967296 - y - c : Nat) : Int) = ((x + 4294967296 - y - c : Nat) : Int) :=
    ⟨u64 (by omega) (by omega), u64 (by omega) (by omega), u64 (by omega) (by omega)⟩
  rw [e1, w1.1, e2, w1.2.1, e3, w1.2.2, tmod_nat, tdiv_nat]
  obtain ⟨s, hs⟩ : ∃ s, x + 4294967296 - y - c = s := ⟨_, rfl⟩
  rw [hs]
  clear w1 e1 e2 e3
  have b1 : s / 4294967296 ≤ 1 := by omega
  have w2 : IntKind.u64.wrap ((s / 4294967296 : Nat) : Int) = ((s / 4294967296 : Nat) : Int) ∧ IntKind.u64.wrap ((1 - s / 4294967296 : Nat) : Int) = ((1 - s / 4294967296 : Nat) : Int) := ⟨u64 (by omega) (by omega), u64 (by omega) (by omega)⟩
  have e4 : (1 : Int) - ((s / 4294967296 : Nat) : Int) = ((1 - s / 4294967296 : Nat) : Int) := by omega
  refine ⟨s % 4294967296, 1 - s / 4294967296, by omega, by omega, by omega, by omega, ?_⟩
  rw [w2.1, e4, w2.2]
theorem rSub_l0 {a b : List Int} (ua : U a) (ub : U b) (hs : a.length ≤ 100000000) (hle : valn b ≤ valn a) (n : Nat) : ∀ (i : Nat) (z : List Int) (c : Nat), i + n = a.length → z.length = i → U z → c ≤ 1 →
    valn (a.take i) + pw i * c = valn z + valn (b.take i) → Ev (fun k => codewrightref01_Sub.l0 k a b z (c : Int) (i : Int)) (lb (valn a - valn b)) := by
  induction n with
  | zero =>
    intro i z c hi hz uz hc hv
    obtain rfl : i = a.length := by omega
    have hzl := valn_lt uz
    rw [hz] at hzl
    have va := valn_lt ua
    rw [List.take_of_length_le (Nat.le_refl _)] at hv
    have hb : valn (b.take a.length) = valn b := by
      have h1 := valn_splitD b a.length
      rcases Nat.eq_zero_or_pos (valn (b.drop a.length)) with h | h
      · rw [h] at h1; omega
      · exfalso
        have := Nat.mul_le_mul_left (pw a.length) h
        omega
    rw [hb] at hv
    have key : valn z = valn a - valn b := by
      rcases Nat.eq_zero_or_pos c with h | h
      · subst h; omega
      · obtain rfl : c = 1 := by omega
        omega
    have ht := rTrim_f uz (by omega)
    rw [key] at ht
    have c1 : ¬ ((a.length : Int) < (a.length : Int)) := by omega
    refine Ev_succ ?_
    simp only [codewrightref01_Sub.l0]
    exact Ev_neg c1 (Ev.bind ht (Ev.now _))
  | succ n ih =>
    intro i z c hi hz uz hc hv
    obtain ⟨x, ex, hx⟩ := rd_nat ua (i : Int)
    obtain ⟨y, ey, hy⟩ := rd_nat ub (i : Int)
    obtain ⟨d, h, hd, hh, heq, e1, e2⟩ := sub_num hx hy hc
    have step := ih (i + 1) (z ++ [(d : Int)]) h (by omega) (by simp [hz]) (U_snoc uz (by omega)) hh (by
      rw [snoc_val, hz, valn_take_succ, valn_take_succ, ex, ey, Int.toNat_natCast, Int.toNat_natCast, Int.toNat_natCast, pw_succ]
      have h3 : pw i * (x + 4294967296 * h) = pw i * (d + y + c) := by rw [heq]
      rw [Nat.mul_add, Nat.mul_add, Nat.mul_add, ← Nat.mul_assoc] at h3
      omega)
    have c1 : (i : Int) < (a.length : Int) ∧ z.length < 35184372088832 := by omega
    have wi : wrap64 ((i : Int) + 1) = ((i + 1 : Nat) : Int) := up i (by omega)
    refine Ev_succ ?_
    simp only [codewrightref01_Sub.l0, limb_f ua, limb_f ub, Option.bind_some]
    refine Ev_pos c1.1 (Ev_pos c1.2 ?_)
    rw [ex, ey, e1, e2, wi]; exact step
theorem rSub_f {a b : List Int} (ua : U a) (ub : U b) (hs : a.length ≤ 100000000) (hle : valn b ≤ valn a) : Ev (fun k => codewrightref01_Sub.f k a b) (lb (valn a - valn b)) :=
  rSub_l0 ua ub hs hle a.length 0 [] 0 (by omega) rfl U_nil (by omega) (by rw [List.take_zero, List.take_zero, Nat.mul_zero, valn_nil])
theorem sz_half {x : Nat} (h : x ≠ 0) : sz x = sz (x / 2) + 1 := by
  by_cases h1 : x / 2 = 0
  · obtain rfl : x = 1 := by omega
    rfl
  · rw [sz_div (n := x) (k := 1) h1]; exact Nat.add_comm _ _
theorem rBits_l0 (n : Nat) : ∀ (x s : Nat), x < 2 ^ n → n ≤ 32 → s + n ≤ 200000000000 → Ev (fun k => codewrightref01_Bits.l0 k (s : Int) (x : Int)) ((s + sz x : Nat) : Int) := by
  induction n with
  | zero =>
    intro x s hx _ _
    obtain rfl : x = 0 := by omega
    refine Ev_succ ?_
    simp only [codewrightref01_Bits.l0]
    exact Ev_neg (by omega) (Ev.now _)
  | succ n ih =>
    intro x s hx hn hs
    by_cases h0 : x = 0
    · subst h0
      refine Ev_succ ?_
      simp only [codewrightref01_Bits.l0]
      exact Ev_neg (by omega) (Ev.now _)
    · have hp : 2 ^ (n + 1) = 2 ^ n * 2 := Nat.pow_succ ..
      have h32 : 2 ^ (n + 1) ≤ 2 ^ 32 := Nat.pow_le_pow_right (by decide) hn
      have hx32 : x < 4294967296 := Nat.lt_of_lt_of_le hx h32
      have hx2 : x / 2 < 2 ^ n := by
        rw [hp] at hx
        exact (Nat.div_lt_iff_lt_mul (by decide)).mpr hx
      clear hp h32 hx
      have step := ih (x / 2) (s + 1) hx2 (by omega) (by clear hx2; omega)
      clear hx2
      have e : Int.tdiv (x : Int) 2 % 4294967296 = ((x / 2 : Nat) : Int) := by
        rw [show Int.tdiv (x : Int) 2 = ((x / 2 : Nat) : Int) from rfl]; omega
      have hz := sz_half h0
      refine Ev_succ ?_
      simp only [codewrightref01_Bits.l0]
      refine Ev_pos (by omega) ?_
      rw [e, up s (by omega), hz, show s + (sz (x / 2) + 1) = s + 1 + sz (x / 2) from by omega]
      exact step
theorem rBits_f {l : List Int} (ul : U l) (hl : l.length ≤ 100000000) : Ev (fun k => codewrightref01_Bits.f k l) ((sz (valn l) : Nat) : Int) := by
  have hs := rTrim_f ul (by omega)
  have hL := lb_len ul
  generalize valn l = v at *
  by_cases h0 : v = 0
  · subst h0
    rw [lb_zero] at hs
    exact Ev.bind hs (Ev.now _)
  · obtain ⟨M, hM⟩ : ∃ M, (lb v).length = M + 1 := ⟨(lb v).length - 1, by
      have : (lb v).length ≠ 0 := fun h => h0 (lb_len_zero.mp h)
      omega⟩
    obtain ⟨t, et, ht⟩ := rd_nat (U_lb v) (M : Int)
    have hz := sz_lb hM et h0
    have c : ¬ (((M + 1 : Nat) : Int) = 0) ∧ (0 : Int) ≤ (M : Int) ∧ (M : Int) < ((M + 1 : Nat) : Int) ∧ M < 9223372036854775807 ∧ (32 : Int) * (M : Int) = ((32 * M : Nat) : Int) ∧ 32 * M + 32 ≤ 200000000000 := by omega
    have w1 : wrap64 ((32 * M : Nat) : Int) = ((32 * M : Nat) : Int) := w64 (by omega) (by omega)
    have hb := rBits_l0 32 t (32 * M) ht (by omega) c.2.2.2.2.2
    rw [← hz] at hb
    refine Ev.bind hs ?_
    rw [hM, dn M c.2.2.2.1, c.2.2.2.2.1, w1, et]
    exact Ev_neg c.1 (Ev_pos c.2.1 (Ev_pos c.2.2.1 hb))
theorem shl_num {x r c : Nat} (hx : x < 4294967296) (hr : r ≤ 31) (hc : c < 2 ^ r) :
    ∃ d h : Nat, d < 4294967296 ∧ h < 2 ^ r ∧ x * 2 ^ r + c = d + 4294967296 * h ∧
      Int.tmod (IntKind.u64.wrap (shl .u64 (IntKind.u64.wrap (x : Int)) (r : Int) + (c : Int))) 4294967296 % 4294967296 = (d : Int) ∧
      IntKind.u64.wrap (Int.tdiv (IntKind.u64.wrap (shl .u64 (IntKind.u64.wrap (x : Int)) (r : Int) + (c : Int))) 4294967296) = (h : Int) := by
  have hp : 2 ^ r ≤ 2 ^ 31 := Nat.pow_le_pow_right (by decide) hr
  have hxp : x * 2 ^ r + 2 ^ r ≤ 4294967296 * 2 ^ r := by
    have : (x + 1) * 2 ^ r ≤ 4294967296 * 2 ^ r := Nat.mul_le_mul_right _ hx
    rwa [Nat.add_mul, Nat.one_mul] at this
  have e1 : IntKind.u64.wrap (x : Int) = (x : Int) := u64 (by omega) (by omega)
  rw [e1, shl64 x r hx hr]
  clear e1
  obtain ⟨y, hy⟩ : ∃ y, x * 2 ^ r = y := ⟨_, rfl⟩
  obtain ⟨q, hq⟩ : ∃ q, 2 ^ r = q := ⟨_, rfl⟩
  rw [hy, hq] at hxp
  rw [hq] at hp hc
  rw [hy, hq]
  clear hy hq
  have e2 : (y : Int) + (c : Int) = ((y + c : Nat) : Int) := by omega
  have b2 : y + c < 18446744073709551616 := by omega
  obtain ⟨s, hs⟩ : ∃ s, y + c = s := ⟨_, rfl⟩
  rw [hs] at e2 b2
  have e3 : IntKind.u64.wrap (s : Int) = (s : Int) ∧ IntKind.u64.wrap ((s / 4294967296 : Nat) : Int) = ((s / 4294967296 : Nat) : Int) := ⟨u64 (by omega) (by omega), u64 (by omega) (by omega)⟩
  rw [e2, e3.1, tmod_nat, tdiv_nat, e3.2]
  clear e3 e2
  exact ⟨s % 4294967296, s / 4294967296, by omega, by omega, by omega, by omega, rfl⟩
theorem rshift_l0 {a : List Int} (ua : U a) (hs : a.length ≤ 100000000) (m r : Nat) (hm : m ≤ 100000000) (hr : r ≤ 31) (n : Nat) : ∀ (i : Nat) (z : List Int) (c : Nat), i + n = a.length → z.length = m + i → U z → c < 2 ^ r →
    valn z + pw (m + i) * c = valn (a.take i) * (pw m * 2 ^ r) → Ev (fun k => codewrightref01_shift.l0 k a ((32 * m + r : Nat) : Int) z (c : Int) (i : Int)) (lb (valn a * (pw m * 2 ^ r))) := by
  have et : Int.tmod ((32 * m + r : Nat) : Int) 32 = (r : Int) := by
    rw [show Int.tmod ((32 * m + r : Nat) : Int) 32 = (((32 * m + r) % 32 : Nat) : Int) from rfl]; omega
  have hp : 2 ^ r ≤ 2 ^ 31 := Nat.pow_le_pow_right (by decide) hr
  induction n with
  | zero =>
    intro i z c hi hz uz hc hv
    obtain rfl : i = a.length := by omega
    rw [List.take_of_length_le (Nat.le_refl _)] at hv
    have hc4 : c < 4294967296 := by omega
    have ht := rTrim_f (U_snoc uz (d := (c : Int)) (by omega)) (by rw [List.length_append, hz]; simp only [List.length_cons, List.length_nil]; omega)
    rw [snoc_val, hz, Int.toNat_natCast, hv] at ht
    have c1 : ¬ ((a.length : Int) < (a.length : Int)) ∧ z.length < 35184372088832 ∧ (c : Int) % 4294967296 = (c : Int) := by omega
    refine Ev_succ ?_
    simp only [codewrightref01_shift.l0]
    refine Ev_neg c1.1 (Ev_pos c1.2.1 ?_)
    rw [c1.2.2]
    exact Ev.bind ht (Ev.now _)
  | succ n ih =>
    intro i z c hi hz uz hc hv
    obtain ⟨x, ex, hx⟩ := rd_nat ua (i : Int)
    obtain ⟨d, h, hd, hh, heq, e1, e2⟩ := shl_num hx hr hc
    have step := ih (i + 1) (z ++ [(d : Int)]) h (by omega) (by simp [hz]; omega) (U_snoc uz (by omega)) hh (by
      rw [snoc_val, hz, valn_take_succ, ex, Int.toNat_natCast, Int.toNat_natCast, ← Nat.add_assoc, pw_succ, Nat.add_mul, ← hv]
      have h3 : pw (m + i) * (x * 2 ^ r + c) = pw (m + i) * (d + 4294967296 * h) := by rw [heq]
      rw [Nat.mul_add, Nat.mul_add, ← Nat.mul_assoc (pw (m + i)) 4294967296] at h3
      have h4 : pw i * x * (pw m * 2 ^ r) = pw (m + i) * (x * 2 ^ r) := by rw [pw_add]; ac_rfl
      rw [h4]
      omega)
    have c1 : (i : Int) < (a.length : Int) ∧ (0 : Int) ≤ (i : Int) ∧ (0 : Int) ≤ (r : Int) ∧ z.length < 35184372088832 := by
      clear hv hh heq hp hc
      omega
    have wi : wrap64 ((i : Int) + 1) = ((i + 1 : Nat) : Int) := up i (by clear hv hh heq hp hc; omega)
    refine Ev_succ ?_
    simp only [codewrightref01_shift.l0, et]
    refine Ev_pos c1.1 (Ev_pos c1.2.1 (Ev_pos c1.2.2.1 (Ev_pos c1.2.2.2 ?_)))
    rw [ex, e1, e2, wi]; exact step
theorem rshift_f {a : List Int} (ua : U a) (hs : a.length ≤ 100000000) (n : Nat) (hn : n ≤ 3200000000) : Ev (fun k => codewrightref01_shift.f k a (n : Int)) (lb (valn a * 2 ^ n)) := by
  obtain ⟨m, r, hr, e⟩ : ∃ m r, r ≤ 31 ∧ n = 32 * m + r := ⟨n / 32, n % 32, by omega, by omega⟩
  subst e
  have h := rshift_l0 ua hs m r (by omega) hr a.length 0 (List.replicate m 0) 0 (by omega) (by simp) (U_replicate _) (Nat.two_pow_pos r) (by rw [valn_replicate, List.take_zero, valn_nil, Nat.mul_zero, Nat.zero_mul])
  rw [two_pw, ← Nat.pow_add] at h
  have ed : Int.tdiv ((32 * m + r : Nat) : Int) 32 = (m : Int) := by
    rw [show Int.tdiv ((32 * m + r : Nat) : Int) 32 = (((32 * m + r) / 32 : Nat) : Int) from rfl]; omega
  have wm : wrap64 (m : Int) = (m : Int) := w64 (by omega) (by omega)
  have c : (0 : Int) ≤ (m : Int) ∧ m ≤ 70368744177664 := by omega
  refine Ev.congr (fun k => ?_) h
  unfold codewrightref01_shift.f
  rw [ed, wm, if_pos c.1, Int.toNat_natCast, if_pos c.2]; rfl
end Go.Proofs.Ytecfdemglbfnoaa.Num
end
section
namespace Go.Proofs.Ytecfdemglbfnoaa.Num
open Go.RowKit Go.Proofs.Ytecfdemglbfnoaa.PT Go.Proofs.YtecfdemglbfnoaaW.PrintWords Go.Proofs.YtecfdemglbfnoaaW.PrintLast Go.Proofs.YtecfdemglbfnoaaW.PrintMore
theorem pow_lt_pw {n m : Nat} (h : n < 32 * m) : 2 ^ n < pw m := by rw [two_pw]; exact (Nat.pow_lt_pow_iff_right (by decide)).mpr h
theorem sz_le_pw {x m : Nat} (h : x < pw m) : sz x ≤ 32 * m := sz_le (by rw [← two_pw]; exact h)
/-- The loop of the specification's division: the divisor, shifted, is taken off from the greatest shift on. -/
theorem rDiv_l0 {b : List Int} (ub : U b) (hb0 : valn b ≠ 0) (L S : Nat) (hL : L ≤ 1000000) (lb' : b.length ≤ L) (hS : S < pw L) : ∀ (i Q R : Nat), i ≤ 32 * L → S = Q * valn b + R → R < valn b * 2 ^ i →
    Ev (fun k => codewrightref01_DivMod.l0 k b (lb Q) (lb R) ((i : Int) - 1)) (lb (S / valn b), lb (S % valn b)) := by
  have hvb := Nat.pos_of_ne_zero hb0
  intro i
  induction i with
  | zero =>
    intro Q R _ hQ hR
    rw [Nat.pow_zero, Nat.mul_one] at hR
    have hq := quo_of (u := S) (v := valn b) (q := Q) (by omega) (by omega)
    have hr : S % valn b = R := by rw [hq.2]; omega
    have hQS : Q ≤ S := by
      have : Q * 1 ≤ Q * valn b := Nat.mul_le_mul_left _ hvb
      omega
    have hlQ := lb_len_le (Nat.lt_of_le_of_lt hQS hS)
    have ht := rTrim_f (U_lb Q) (by omega)
    rw [valn_lb] at ht
    rw [hq.1, hr]
    refine Ev_succ ?_
    simp only [codewrightref01_DivMod.l0]
    exact Ev_neg (by omega) (Ev.bind ht (Ev.now _))
  | succ i ih =>
    intro Q R hi hQ hR
    have hQS : Q ≤ S := by
      have : Q * 1 ≤ Q * valn b := Nat.mul_le_mul_left _ hvb
      omega
    have hRS : R ≤ S := by omega
    have hlQ := lb_len_le (Nat.lt_of_le_of_lt hQS hS)
    have hlR := lb_len_le (Nat.lt_of_le_of_lt hRS hS)
    have hsh := rshift_f ub (by omega) i (by omega)
    have htb : valn b * 2 ^ i < pw (2 * L + 1) := by
      have h1 : 2 ^ i < pw (L + 1) := pow_lt_pw (by omega)
      have h2 := Nat.lt_of_lt_of_le (valn_lt ub) (pw_mono lb')
      rw [show 2 * L + 1 = L + (L + 1) from by omega, pw_add]
      exact Nat.mul_lt_mul'' h2 h1
    have hlt := lb_len_le htb
    have hc := rCmp_f (U_lb R) (U_lb (valn b * 2 ^ i)) (by omega) (by omega)
    have h1s := rshift_f (a := [1]) (U_cons (by decide) U_nil) (by simp) i (by omega)
    have hone : valn [1] * 2 ^ i = 2 ^ i := by rw [show valn [1] = 1 from rfl, Nat.one_mul]
    rw [hone] at h1s
    have hp2 : R < valn b * 2 ^ i * 2 := by rw [Nat.mul_assoc, ← Nat.pow_succ]; exact hR
    rw [valn_lb, valn_lb] at hc
    have ci : ((i + 1 : Nat) : Int) - 1 = (i : Int) ∧ (i : Int) ≥ 0 := by omega
    have wi : wrap64 ((i : Int) - 1) = (i : Int) - 1 := w64 (by omega) (by omega)
    obtain ⟨T, hT⟩ : ∃ T, valn b * 2 ^ i = T := ⟨_, rfl⟩
    have h1l : (lb (2 ^ i)).length ≤ L + 1 := lb_len_le (pow_lt_pw (by omega))
    refine Ev_succ ?_
    simp only [codewrightref01_DivMod.l0, ci.1]
    refine Ev_pos ci.2 (Ev.bind hsh (Ev.bind hc ?_))
    rw [wi]
    rw [hT] at hp2 ⊢
    by_cases hge : T ≤ R
    · have c1 : cmpn R T ≥ 0 := by unfold cmpn; rw [if_neg (by omega)]; split <;> omega
      have hsub := rSub_f (U_lb R) (U_lb T) (by omega) (by rw [valn_lb, valn_lb]; exact hge)
      have hadd := rAdd_f (U_lb Q) (U_lb (2 ^ i)) (by omega) (by omega)
      rw [valn_lb, valn_lb] at hsub hadd
      refine Ev_pos c1 (Ev.bind hsub (Ev.bind h1s (Ev.bind hadd ?_)))
      refine ih (Q + 2 ^ i) (R - T) (by omega) ?_ (by rw [hT]; omega)
      rw [Nat.add_mul, Nat.mul_comm (2 ^ i), hT]; omega
    · have c1 : ¬ cmpn R T ≥ 0 := by unfold cmpn; rw [if_pos (by omega)]; decide
      refine Ev_neg c1 (ih Q R (by omega) hQ (by rw [hT]; omega))
theorem rDivMod_f {a b : List Int} (ua : U a) (ub : U b) (la : a.length ≤ 1000000) (lb' : b.length ≤ 1000000) (h0 : valn b ≠ 0) :
    Ev (fun k => codewrightref01_DivMod.f k a b) (lb (valn a / valn b), lb (valn a % valn b)) := by
  have ht := rTrim_f ua (by omega)
  have ha := rBits_f ua (by omega)
  have hb := rBits_f ub (by omega)
  have hS := Nat.lt_of_lt_of_le (valn_lt ua) (pw_mono la)
  have hB := Nat.lt_of_lt_of_le (valn_lt ub) (pw_mono lb')
  have sa := sz_le_pw hS
  have sb := sz_le_pw hB
  have s1 := sz_pos h0
  refine Ev.bind ht (Ev.bind ha (Ev.bind hb ?_))
  by_cases c : sz (valn b) ≤ sz (valn a)
  · have e : ((sz (valn a) : Nat) : Int) - ((sz (valn b) : Nat) : Int) = ((sz (valn a) - sz (valn b) + 1 : Nat) : Int) - 1 := by omega
    have w : wrap64 (((sz (valn a) - sz (valn b) + 1 : Nat) : Int) - 1) = ((sz (valn a) - sz (valn b) + 1 : Nat) : Int) - 1 := w64 (by omega) (by omega)
    have hlt : valn a < valn b * 2 ^ (sz (valn a) - sz (valn b) + 1) := by
      have h1 := lt_sz (valn a)
      have h2 := (sz_spec h0).1
      have h3 : 2 ^ sz (valn a) = 2 ^ (sz (valn b) - 1) * 2 ^ (sz (valn a) - sz (valn b) + 1) := by rw [← Nat.pow_add]; congr 1; omega
      rw [h3] at h1
      exact Nat.lt_of_lt_of_le h1 (Nat.mul_le_mul_right _ h2)
    have hm := rDiv_l0 ub h0 1000000 (valn a) (by omega) lb' hS (sz (valn a) - sz (valn b) + 1) 0 (valn a) (by omega) (by omega) hlt
    rw [lb_zero] at hm
    rw [e, w]; exact hm
  · have e : wrap64 (((sz (valn a) : Nat) : Int) - ((sz (valn b) : Nat) : Int)) = ((sz (valn a) : Nat) : Int) - ((sz (valn b) : Nat) : Int) := w64 (by omega) (by omega)
    have c1 : ¬ ((sz (valn a) : Nat) : Int) - ((sz (valn b) : Nat) : Int) ≥ 0 := by omega
    have hlt : valn a < valn b := by
      by_cases h : valn a < valn b
      · exact h
      · exfalso
        have h1 := (sz_spec h0).1
        have h2 : 2 ^ sz (valn a) ≤ 2 ^ (sz (valn b) - 1) := Nat.pow_le_pow_right (by decide) (by omega)
        have h3 := lt_sz (valn a)
        omega
    have ht0 := rTrim_f U_nil (by simp)
    rw [valn_nil, lb_zero] at ht0
    rw [e, Nat.div_eq_of_lt hlt, Nat.mod_eq_of_lt hlt, lb_zero]
    refine Ev_succ ?_
    simp only [codewrightref01_DivMod.l0]
    exact Ev_neg c1 (Ev.bind ht0 (Ev.now _))
theorem rGcd_f : ∀ (n : Nat) {a b : List Int}, valn b = n → U a → U b → a.length ≤ 1000000 → b.length ≤ 1000000 → Ev (fun k => codewrightref01_Gcd.l0 k a b) (lb (Nat.gcd (valn a) (valn b))) := by
  intro n
  induction n using Nat.strongRecOn with
  | _ n ih =>
    intro a b hn ua ub la lb'
    have hz := rZero_f ub (by omega)
    refine Ev_succ ?_
    simp only [codewrightref01_Gcd.l0]
    by_cases h0 : valn b = 0
    · have ht := rTrim_f ua (by omega)
      rw [decide_eq_true h0] at hz
      rw [h0, Nat.gcd_zero_right]
      exact Ev.bind hz (Ev_pos rfl (Ev.bind ht (Ev.now _)))
    · have hd := rDivMod_f ua ub la lb' h0
      rw [decide_eq_false h0] at hz
      have hr : valn a % valn b < valn b := Nat.mod_lt _ (Nat.pos_of_ne_zero h0)
      refine Ev.bind hz (Ev_neg (by decide) (Ev.bind hd ?_))
      have := ih (valn a % valn b) (by omega) (a := b) (b := lb (valn a % valn b)) (valn_lb _) ub (U_lb _) lb' (Nat.le_trans (lb_len_le (Nat.lt_trans hr (valn_lt ub))) lb')
      rw [valn_lb] at this
      rw [Nat.gcd_comm, Nat.gcd_rec, Nat.gcd_comm]
      exact this
theorem rGcd_f' {a b : List Int} (ua : U a) (ub : U b) (la : a.length ≤ 1000000) (lb' : b.length ≤ 1000000) : Ev (fun k => codewrightref01_Gcd.f k a b) (lb (Nat.gcd (valn a) (valn b))) := rGcd_f _ rfl ua ub la lb'
end Go.Proofs.Ytecfdemglbfnoaa.Num
end
section
namespace Go.Proofs.Ytecfdemglbfnoaa.Num
open Go.RowKit Go.Proofs.Ytecfdemglbfnoaa.PT Go.Proofs.YtecfdemglbfnoaaW.PrintWords Go.Proofs.YtecfdemglbfnoaaW.PrintLast Go.Proofs.YtecfdemglbfnoaaW.PrintMore
theorem sz_eq_zero {n : Nat} : sz n = 0 ↔ n = 0 := by
  constructor
  · intro h
    by_cases c : n = 0
    · exact c
    · have := sz_pos c; omega
  · intro h; subst h; rfl
theorem rep_rv {neg : Bool} {n d : List Int} (hn : valn n ≠ 0) (hd : valn d ≠ 0) : rep (rv neg n d) = (neg, lb (valn n / Nat.gcd (valn n) (valn d)), lb (valn d / Nat.gcd (valn n) (valn d))) := rep_mkRat neg hn hd
theorem gcd_lb {n d : List Int} (un : U n) (ln : n.length ≤ 1000000) (hn : valn n ≠ 0) : (lb (Nat.gcd (valn n) (valn d))).length ≤ 1000000 ∧ Nat.gcd (valn n) (valn d) ≠ 0 :=
  ⟨Nat.le_trans (lb_len_le (Nat.lt_of_le_of_lt (Nat.le_of_dvd (Nat.pos_of_ne_zero hn) (Nat.gcd_dvd_left _ _)) (valn_lt un))) ln, Nat.ne_of_gt (Nat.gcd_pos_of_pos_left _ (Nat.pos_of_ne_zero hn))⟩
theorem canonical_j {neg : Bool} {n d : List Int} (un : U n) (ud : U d) (ln : n.length ≤ 1000000) (ld : d.length ≤ 1000000) (b : Bool) (hb : b = true ↔ valn n = 0 ∨ valn d = 0) :
    Ev (fun k => rational_canonical.j0 k neg n d b) (rep (rv neg n d)) := by
  refine Ev_succ ?_
  simp only [rational_canonical.j0]
  cases b with
  | true =>
    have h : rv neg n d = 0 := by
      rcases hb.mp rfl with h | h
      · exact rv_zero_num neg h
      · exact rv_zero_den neg h
    rw [h, rep_zero]
    exact Ev_pos rfl (Ev.bind (Ev.now _) (Ev.now _))
  | false =>
    have hn : valn n ≠ 0 := fun h => absurd (hb.mpr (.inl h)) (by decide)
    have hd : valn d ≠ 0 := fun h => absurd (hb.mpr (.inr h)) (by decide)
    obtain ⟨hg, hg0⟩ := gcd_lb un ln hn
    have h1 := Gcd_f un ud ln ld
    have h2 := DivMod_f un (U_lb (Nat.gcd (valn n) (valn d))) ln hg (by rw [valn_lb]; exact hg0)
    have h3 := DivMod_f ud (U_lb (Nat.gcd (valn n) (valn d))) ld hg (by rw [valn_lb]; exact hg0)
    rw [valn_lb] at h2 h3
    rw [rep_rv hn hd]
    exact Ev_neg (by decide) (Ev.bind h1 (Ev.bind h2 (Ev.bind h3 (Ev.now _))))
theorem canonical_f {neg : Bool} {n d : List Int} (un : U n) (ud : U d) (ln : n.length ≤ 1000000) (ld : d.length ≤ 1000000) :
    Ev (fun k => rational_canonical.f k neg n d) (rep (rv neg n d)) := by
  have b1 := Bits_f un (by omega)
  have b2 := Bits_f ud (by omega)
  refine Ev.bind b1 ?_
  by_cases h1 : valn n = 0
  · exact Ev_pos (by rw [h1]; rfl) (canonical_j un ud ln ld true ⟨fun _ => .inl h1, fun _ => rfl⟩)
  · have hz : ((sz (valn n) : Nat) : Int) ≠ 0 := fun h => h1 (sz_eq_zero.mp (Int.ofNat_eq_zero.mp h))
    refine Ev_neg hz (Ev.bind b2 (canonical_j un ud ln ld _ ?_))
    constructor
    · intro h
      exact .inr (sz_eq_zero.mp (Int.ofNat_eq_zero.mp (beq_iff_eq.mp h)))
    · intro h
      rcases h with h | h
      · exact absurd h h1
      · rw [h]; rfl
theorem Make_j {neg : Bool} {n d : List Int} (un : U n) (ud : U d) (ln : n.length ≤ 1000000) (ld : d.length ≤ 1000000) (b : Bool) (hb : b = true ↔ valn n = 0 ∨ valn d = 0) :
    Ev (fun k => codewrightref02_Make.j0 k neg n d b) (rep (rv neg n d)) := by
  refine Ev_succ ?_
  simp only [codewrightref02_Make.j0]
  cases b with
  | true =>
    have h : rv neg n d = 0 := by
      rcases hb.mp rfl with h | h
      · exact rv_zero_num neg h
      · exact rv_zero_den neg h
    rw [h, rep_zero]
    exact Ev_pos rfl (Ev.now _)
  | false =>
    have hn : valn n ≠ 0 := fun h => absurd (hb.mpr (.inl h)) (by decide)
    have hd : valn d ≠ 0 := fun h => absurd (hb.mpr (.inr h)) (by decide)
    obtain ⟨hg, hg0⟩ := gcd_lb un ln hn
    have h1 := rGcd_f' un ud ln ld
    have h2 := rDivMod_f un (U_lb (Nat.gcd (valn n) (valn d))) ln hg (by rw [valn_lb]; exact hg0)
    have h3 := rDivMod_f ud (U_lb (Nat.gcd (valn n) (valn d))) ld hg (by rw [valn_lb]; exact hg0)
    rw [valn_lb] at h2 h3
    rw [rep_rv hn hd]
    exact Ev_neg (by decide) (Ev.bind h1 (Ev.bind h2 (Ev.bind h3 (Ev.now _))))
theorem Make_f {neg : Bool} {n d : List Int} (un : U n) (ud : U d) (ln : n.length ≤ 1000000) (ld : d.length ≤ 1000000) :
    Ev (fun k => codewrightref02_Make.f k neg n d) (rep (rv neg n d)) := by
  have b1 := rZero_f un (by omega)
  have b2 := rZero_f ud (by omega)
  refine Ev.bind b1 ?_
  by_cases h1 : valn n = 0
  · exact Ev_pos (decide_eq_true h1) (Make_j un ud ln ld true ⟨fun _ => .inl h1, fun _ => rfl⟩)
  · refine Ev_neg (by rw [decide_eq_false h1]; decide) (Ev.bind b2 (Make_j un ud ln ld _ ?_))
    rw [decide_eq_true_iff]
    exact ⟨.inr, fun h => h.elim (fun h => absurd h h1) id⟩
end Go.Proofs.Ytecfdemglbfnoaa.Num
end
section
namespace Go.Proofs.Ytecfdemglbfnoaa.PT
open Go.RowKit Go.Proofs.YtecfdemglbfnoaaW.PrintWords Go.Proofs.YtecfdemglbfnoaaW.PrintLast Go.Proofs.YtecfdemglbfnoaaW.PrintMore
attribute [local go_sem] max2_int min2_int max_two min_two max_three min_three max_four min_four   -- for this text's walks alone
set_option linter.unusedVariables false
set_option linter.unusedSimpArgs false
end Go.Proofs.Ytecfdemglbfnoaa.PT
end
section
namespace Go.Proofs.Ytecfdemglbfnoaa.PT
open Go.RowKit Go.Proofs.YtecfdemglbfnoaaW.PrintWords Go.Proofs.YtecfdemglbfnoaaW.PrintLast Go.Proofs.YtecfdemglbfnoaaW.PrintMore
attribute [local go_sem] max2_int min2_int max_two min_two max_three min_three max_four min_four   -- for this text's walks alone
set_option linter.unusedVariables false
set_option linter.unusedSimpArgs false
end Go.Proofs.Ytecfdemglbfnoaa.PT
end
section
namespace Go.Proofs.Ytecfdemglbfnoaa.PT
open Go.RowKit Go.Proofs.YtecfdemglbfnoaaW.PrintWords Go.Proofs.YtecfdemglbfnoaaW.PrintLast Go.Proofs.YtecfdemglbfnoaaW.PrintMore
attribute [local go_sem] max2_int min2_int max_two min_two max_three min_three max_four min_four   -- for this text's walks alone
set_option linter.unusedVariables false
set_option linter.unusedSimpArgs false
end Go.Proofs.Ytecfdemglbfnoaa.PT
end
section
namespace Go.Proofs.Ytecfdemglbfnoaa.PT
open Go.RowKit Go.Proofs.YtecfdemglbfnoaaW.PrintWords Go.Proofs.YtecfdemglbfnoaaW.PrintLast Go.Proofs.YtecfdemglbfnoaaW.PrintMore
attribute [local go_sem] max2_int min2_int max_two min_two max_three min_three max_four min_four   -- for this text's walks alone
set_option linter.unusedVariables false
set_option linter.unusedSimpArgs false
end Go.Proofs.Ytecfdemglbfnoaa.PT
end
section
namespace Go.Proofs.Ytecfdemglbfnoaa.PT
open Go.RowKit Go.Proofs.YtecfdemglbfnoaaW.PrintWords Go.Proofs.YtecfdemglbfnoaaW.PrintLast Go.Proofs.YtecfdemglbfnoaaW.PrintMore
attribute [local go_sem] max2_int min2_int max_two min_two max_three min_three max_four min_four   -- for this text's walks alone
set_option linter.unusedVariables false
set_option linter.unusedSimpArgs false
end Go.Proofs.Ytecfdemglbfnoaa.PT
end
section
namespace Go.Proofs.Ytecfdemglbfnoaa.Num
open Go.RowKit Go.Proofs.Ytecfdemglbfnoaa.PT Go.Proofs.YtecfdemglbfnoaaW.PrintWords Go.Proofs.YtecfdemglbfnoaaW.PrintLast Go.Proofs.YtecfdemglbfnoaaW.PrintMore
/-- The sign of a fraction as a number. -/
def sgq (q : Rat) : Int := if q.num = 0 then 0 else if q.num < 0 then -1 else 1
theorem Ratio_f {n d : List Int} (un : U n) (ud : U d) (ln : n.length ≤ 1000000) (ld : d.length ≤ 1000000) (h0 : valn d ≠ 0) :
    Ev (fun k => rational_Ratio.f k n d) ((rep (rv false n d)).1, (rep (rv false n d)).2.1, (rep (rv false n d)).2.2, 0) := by
  have hz : ((sz (valn d) : Nat) : Int) ≠ 0 := fun h => h0 (sz_eq_zero.mp (Int.ofNat_eq_zero.mp h))
  exact Ev.bind (Bits_f ud (by omega)) (Ev_neg hz (Ev.bind (canonical_f un ud ln ld) (Ev.now _)))
theorem Ratio_zero {n d : List Int} (ud : U d) (ld : d.length ≤ 1000000) (h0 : valn d = 0) : Ev (fun k => rational_Ratio.f k n d) (false, [], [], 7) :=
  Ev.bind (Bits_f ud (by omega)) (Ev_pos (by rw [h0]; rfl) (Ev.now _))
theorem rTrim02_f {neg : Bool} {n d : List Int} (un : U n) (ud : U d) (ln : n.length ≤ 1000000) (ld : d.length ≤ 1000000) :
    Ev (fun k => codewrightref02_Trim.f k neg n d) (rep (rv neg n d)) := Ev.bind (Make_f un ud ln ld) (Ev.now _)
theorem rSign_f {neg : Bool} {n d : List Int} (un : U n) (ud : U d) (ln : n.length ≤ 1000000) (ld : d.length ≤ 1000000) :
    Ev (fun k => codewrightref02_Sign.f k neg n d) (sgq (rv neg n d)) := by
  refine Ev.bind (rTrim02_f un ud ln ld) ?_
  generalize rv neg n d = q
  simp only [rep, sgq]
  by_cases h : q.num = 0
  · rw [if_pos h]
    have : (lb q.num.natAbs).length = 0 := lb_len_zero.mpr (by rw [h]; rfl)
    exact Ev_pos (by omega) (Ev.now _)
  · rw [if_neg h]
    have : (lb q.num.natAbs).length ≠ 0 := fun e => h (Int.natAbs_eq_zero.mp (lb_len_zero.mp e))
    refine Ev_neg (by omega) ?_
    by_cases h1 : q.num < 0
    · rw [if_pos h1]; exact Ev_pos (decide_eq_true h1) (Ev.now _)
    · rw [if_neg h1]; exact Ev_neg (by rw [decide_eq_false h1]; decide) (Ev.now _)
theorem sgq_zero {q : Rat} : sgq q = 0 ↔ q = 0 := by
  unfold sgq
  rw [← Rat.num_eq_zero]
  by_cases h : q.num = 0
  · simp [h]
  · rw [if_neg h]; constructor
    · intro h1; split at h1 <;> omega
    · intro h1; exact absurd h1 h
theorem same02_f {x y : Bool} {a b c d : List Int} (la : a.length ≤ 100000000) (lc : b.length ≤ 100000000) : Ev (fun k => codewrightlaw02_same.f k x a b y c d) (decide ((x, a, b) = (y, c, d))) := by
  have h1 := Same_f (a := a) (b := c) (by omega)
  have h2 := Same_f (a := b) (b := d) (by omega)
  refine Ev.bind (a := decide ((x, a, b) = (y, c, d))) ?_ (Ev.now _)
  by_cases c1 : x = y
  · by_cases c2 : a = c
    · refine Ev_pos (by rw [c1]; simp) (Ev.bind h1 (Ev_pos (decide_eq_true c2) (Ev.bind h2 (Ev_as (Ev.now _) ?_))))
      rw [c1, c2]; simp
    · refine Ev_pos (by rw [c1]; simp) (Ev.bind h1 (Ev_neg (by rw [decide_eq_false c2]; decide) (Ev_as (Ev.now _) ?_)))
      rw [decide_eq_false]; intro h; injection h with _ h; injection h with h _; exact c2 h
  · refine Ev_neg (by simp [c1]) (Ev_as (Ev.now _) ?_)
    rw [decide_eq_false]; intro h; injection h with h _; exact c1 h
theorem rep_len {q : Rat} {m : Nat} (h : Sz m q) : (rep q).2.1.length ≤ m ∧ (rep q).2.2.length ≤ m := ⟨lb_len_le h.1, lb_len_le h.2⟩
/-- Two fractions' data are the same. -/
theorem same_rep {p q : Rat} {m : Nat} (h : Sz m p) (hm : m ≤ 100000000) : Ev (fun k => codewrightlaw02_same.f k (rep p).1 (rep p).2.1 (rep p).2.2 (rep q).1 (rep q).2.1 (rep q).2.2) (decide (p = q)) := by
  have hl := rep_len h
  refine Ev_as (same02_f (by omega) (by omega)) ?_
  have : ((rep p).1, (rep p).2.1, (rep p).2.2) = ((rep q).1, (rep q).2.1, (rep q).2.2) ↔ p = q := ⟨fun h => rep_inj h, fun h => by rw [h]⟩
  exact decide_eq_decide.mpr this
theorem same_self {q : Rat} {m : Nat} (h : Sz m q) (hm : m ≤ 100000000) : Ev (fun k => codewrightlaw02_same.f k (rep q).1 (rep q).2.1 (rep q).2.2 (rep q).1 (rep q).2.1 (rep q).2.2) true :=
  Ev_as (same_rep h hm) (decide_eq_true rfl)
end Go.Proofs.Ytecfdemglbfnoaa.Num
end
section
namespace Go.Proofs.Ytecfdemglbfnoaa.Num
open Go.RowKit Go.Proofs.Ytecfdemglbfnoaa.PT Go.Proofs.YtecfdemglbfnoaaW.PrintWords Go.Proofs.YtecfdemglbfnoaaW.PrintLast Go.Proofs.YtecfdemglbfnoaaW.PrintMore
theorem rv_zero_iff {neg : Bool} {n d : List Int} (hd : valn d ≠ 0) : rv neg n d = 0 ↔ valn n = 0 := by
  unfold rv
  rw [Rat.mkRat_eq_zero hd]
  constructor
  · intro h; have := sg_abs neg (valn n); rw [h] at this; exact this.symm
  · intro h; rw [h, sg_zero]
theorem ratios_f {n d : List Int} (un : U n) (ud : U d) (ln : n.length < 4611686018427387904) (ld : d.length < 4611686018427387904) : Ev (fun k => codewrightlaw02_RationalRatios.f k n d) true := by
  have w : wrap64 ((n.length : Int) + (d.length : Int)) = (n.length : Int) + (d.length : Int) := w64 (by omega) (by omega)
  unfold codewrightlaw02_RationalRatios.f
  rw [w]
  clear w
  by_cases c : (n.length : Int) + (d.length : Int) > 40
  · exact Ev_pos c (Ev.now _)
  · have l1 : n.length ≤ 40 ∧ d.length ≤ 40 := by omega
    refine Ev_neg c ?_
    have hm := Make_f (neg := false) ud (n := d) (d := [1]) (U_cons (by decide) U_nil) (by omega) (by simp)
    have hs : Sz 40 (rv false d [1]) := Sz_rv ud (U_cons (by decide) U_nil) l1.2 (by simp) (by omega)
    obtain ⟨s1, s2⟩ := rep_len hs
    have hsg := rSign_f (neg := (rep (rv false d [1])).1) (n := (rep (rv false d [1])).2.1) (d := (rep (rv false d [1])).2.2) (U_lb _) (U_lb _) (by omega) (by omega)
    rw [rv_rep] at hsg
    have h1 : rv false d [1] = 0 ↔ valn d = 0 := rv_zero_iff (by decide)
    by_cases h0 : valn d = 0
    · have hr := Ratio_zero (n := n) ud (by omega) h0
      rw [h1.mpr h0] at hm hsg
      rw [sgq_zero.mpr rfl] at hsg
      refine Ev.bind hr (Ev.bind hm (Ev.bind hsg (Ev_pos rfl (Ev_pos rfl ?_))))
      exact Ev.bind (Ev.now _) (Ev.now _)
    · have hr := Ratio_f un ud (by omega) (by omega) h0
      have hne : sgq (rv false d [1]) ≠ 0 := fun h => h0 (h1.mp (sgq_zero.mp h))
      have hm2 := Make_f (neg := false) un ud (by omega) (by omega)
      have hs2 : Sz 40 (rv false n d) := Sz_rv un ud l1.1 l1.2 (by omega)
      exact Ev.bind hr (Ev.bind hm (Ev.bind hsg (Ev_neg hne (Ev_pos rfl (Ev.bind hm2 (Ev.bind (same_self hs2 (by omega)) (Ev.now _)))))))
end Go.Proofs.Ytecfdemglbfnoaa.Num
namespace Go.Proofs.Ytecfdemglbfnoaa.Pure
open Go.RowKit Go.Proofs.Ytecfdemglbfnoaa.PT Go.Proofs.Ytecfdemglbfnoaa.Num
theorem u32_U {l : List Int} (h : ∀ x ∈ l, IntKind.u32.min ≤ x ∧ x ≤ IntKind.u32.max) : U l := by
  intro x hx
  have h1 := h x hx
  have e1 : IntKind.u32.min = 0 := rfl
  have e2 : IntKind.u32.max = 4294967295 := rfl
  omega
theorem RationalRatios (l0 : List Int) (h0 : l0.length * 4 ≤ reachBytes ∧ ∀ x ∈ l0, IntKind.u32.min ≤ x ∧ x ≤ IntKind.u32.max) (l1 : List Int) (h1 : l1.length * 4 ≤ reachBytes ∧ ∀ x ∈ l1, IntKind.u32.min ≤ x ∧ x ≤ IntKind.u32.max) : ∃ k, codewrightlaw02_RationalRatios.f k l0 l1 = some true := by
  have hR : reachBytes = 140737488351232 := rfl
  exact (ratios_f (u32_U h0.2) (u32_U h1.2) (by have := h0.1; omega) (by have := h1.1; omega)).rounds
end Go.Proofs.Ytecfdemglbfnoaa.Pure
end
section
namespace Go.Proofs.Ytecfdemglbfnoaa.Open
open Go.ChangeShapes Go.WideShapes Go.Deep Go.Proofs.YtecfdemglbfnoaaW.PrintWords
section
variable {H : Type} (enc : TypeId × Value → H) (P : Program) (W : World)
/-- What reads as data of type t, within the reach, holds a value of kind d that meets Q. -/
def Op {α : Type} (d : Kd α) (Q : α → Prop) (t : TypeId) : Prop :=
  ∀ (fuel : Nat) (cs : List Value) (x : DataW H × List MemPlace), DataW.trod enc P W 0 (fun _ => true) true fuel t cs = some x → (∀ n ∈ x.1.weights P t, n ≤ reachBytes) → ∃ y, d.K W y cs ∧ Q y
end
section
variable {H : Type} {enc : TypeId × Value → H} {P : Program} {W : World}
theorem op_int {t : TypeId} {k : IntKind} (ht : P.underlying t = some (.int k)) : Op enc P W (Kd.int k) (fun n => k.min ≤ n ∧ n ≤ k.max) t := by
  intro fuel cs x h _
  obtain ⟨n, rfl, _, hw⟩ := DataW.trod_int ht h
  exact ⟨n, rfl, by simpa [Lit.wf] using hw⟩
theorem mem_weightsAll {e : TypeId} {D : DataW H} : ∀ {l : List (DataW H)}, D ∈ l → ∀ n ∈ D.weights P e, n ∈ DataW.weightsAll P e l
  | d :: r, h, n, hn => by
    simp only [DataW.weightsAll, List.mem_append]
    rcases List.mem_cons.1 h with rfl | h
    · exact .inl hn
    · exact .inr (mem_weightsAll h n hn)
theorem op_slice {α : Type} {d : Kd α} {Q : α → Prop} {t e B : Nat} (ht : P.underlying t = some (.slice e)) (he : Op enc P W d Q e) (hc : P.cellsOf e = d.sz) (hB : P.bytesOf e = B) :
    Op enc P W (Kd.slice e d) (fun l => l.length * B ≤ reachBytes ∧ ∀ x ∈ l, Q x) t := by
  intro fuel cs x h hw
  rcases open_slice ht h with ⟨rfl, _⟩ | ⟨a, len, cap, m, n, D, Pl, rfl, _, hl, hm, hmm, rfl, hi⟩
  · exact ⟨[], ⟨none, 0, rfl, Nat.le_refl _, Kd.C_nil d W⟩, by simp, by simp⟩
  · simp only [if_true] at hmm
    subst hmm
    have hwl : ((DataW.slice ((List.range len).map D) ((List.range (m - len)).map fun j => D (len + j))).weights P t) = ((List.range len).map D).length.add ((List.range (m - len)).map fun j => D (len + j)).length * P.bytesOf e :: (DataW.weightsAll P e ((List.range len).map D) ++ DataW.weightsAll P e ((List.range (m - len)).map fun j => D (len + j))) := by
      simp only [DataW.weights, ht]; rfl
    rw [hwl] at hw
    have each : ∀ i, i < len → ∃ y : α, (∃ cs', W.cells? 0 (a.add (i * P.cellsOf e)) (P.cellsOf e) = some cs' ∧ d.K W y cs') ∧ Q y := by
      intro i hlt
      obtain ⟨cs', h1, h2⟩ := hi i (by omega)
      obtain ⟨y, hK, hq⟩ := he _ _ _ h2 (fun n hn => hw n (List.mem_cons_of_mem _ (List.mem_append.2 (.inl (mem_weightsAll (List.mem_map.2 ⟨i, List.mem_range.2 hlt, rfl⟩) n hn)))))
      exact ⟨y, ⟨cs', h1, hK⟩, hq⟩
    have hf : ∃ f : Nat → Option α, ∀ i, i < len → ∃ y, f i = some y ∧ (∃ cs', W.cells? 0 (a.add (i * P.cellsOf e)) (P.cellsOf e) = some cs' ∧ d.K W y cs') ∧ Q y := by
      refine ⟨fun i => if h : i < len then some (Classical.choose (each i h)) else none, fun i hlt => ⟨_, dif_pos hlt, Classical.choose_spec (each i hlt)⟩⟩
    obtain ⟨f, hf⟩ := hf
    have hl1 : ((List.range len).filterMap f).length = len ∧ ∀ i, i < len → ((List.range len).filterMap f)[i]? = f i := by
      clear hw hwl each hi h hl hm
      induction len with
      | zero => simp
      | succ k ih =>
        obtain ⟨h1, h2⟩ := ih (fun i hi => hf i (by omega))
        obtain ⟨y, hy, _⟩ := hf k (by omega)
        rw [List.range_succ, List.filterMap_append]
        have e : List.filterMap f [k] = [y] := by simp [List.filterMap, hy]
        rw [e]
        refine ⟨by simp [h1], fun i hi => ?_⟩
        by_cases hk : i < k
        · rw [List.getElem?_append_left (by omega), h2 i hk]
        · obtain rfl : i = k := by omega
          rw [List.getElem?_append_right (by omega), h1]; simp [hy]
    refine ⟨(List.range len).filterMap f, ⟨some a, m, by rw [hl1.1], by rw [hl1.1]; exact hl, rfl, ?_, fun hp => ⟨a, rfl, fun j p hj => ?_⟩⟩, ?_, fun y hy => ?_⟩
    · rw [hl1.1]; unfold maxLen at hm; omega
    · have hjl : j < len := by have := (List.getElem?_eq_some_iff.1 hj).1; rw [hl1.1] at this; exact this
      obtain ⟨y, hy, ⟨cs', hc1, hK⟩, _⟩ := hf j hjl
      rw [hl1.2 j hjl, hy] at hj
      obtain rfl := Option.some.inj hj
      obtain ⟨_, hcl, hat⟩ := World.cells?_some hc1
      refine ⟨cs', d.K_len hK, hK, fun i u hu => ?_⟩
      have hil : i < P.cellsOf e := by have := (List.getElem?_eq_some_iff.1 hu).1; omega
      rw [← hc, ← Go.Deep.add_add]
      rw [hat i hil, hu]
    · have := hw _ (List.mem_cons_self ..)
      rw [hl1.1]
      have h3 : ((List.range len).map D).length.add ((List.range (m - len)).map fun j => D (len + j)).length = m := by simp; omega
      rw [h3, hB] at this
      exact Nat.le_trans (Nat.mul_le_mul_right _ hl) this
    · obtain ⟨i, hi1, hi2⟩ := List.mem_filterMap.1 hy
      obtain ⟨y', hy', _, hq⟩ := hf i (List.mem_range.1 hi1)
      rw [hy'] at hi2
      obtain rfl := Option.some.inj hi2
      exact hq
end
end Go.Proofs.Ytecfdemglbfnoaa.Open
end
