/- Walks and plain facts for the law RationalDots, several texts in one: each theorem says what it shows; no condition beyond those that it names. -/
import Derived.Test.YtecfdemglbfnoaaMRationalDotsD
section
namespace Go.Proofs.Ytecfdemglbfnoaa.Num
open Go.RowKit Go.Proofs.Ytecfdemglbfnoaa.PT Go.Proofs.YtecfdemglbfnoaaW.PrintWords Go.Proofs.YtecfdemglbfnoaaW.PrintLast Go.Proofs.YtecfdemglbfnoaaW.PrintMore
theorem rd_nat {l : List Int} (h : U l) (i : Int) : ∃ x : Nat, rd l i = (x : Int) ∧ x < 4294967296 := by
  have := U_rd h i
  exact ⟨(rd l i).toNat, by omega, by omega⟩
theorem guess_l0 {u v : List Int} {K : Nat} (hv : v.length = K + 2) (hu : u.length = K + 3) {A D top v1 v2 u2 p ul vl : Nat} {R : Int × List Int}
    (hA : A = (top * 4294967296 + u2) * p + ul) (hul : ul < p) (hD : D = (v1 * 4294967296 + v2) * p + vl) (hvl : vl < p) (ev1 : rd v ((K + 1 : Nat) : Int) = (v1 : Int)) (ev2 : rd v (K : Int) = (v2 : Int)) (eu2 : rd u (K : Int) = (u2 : Int))
    (b1 : v1 < 4294967296) (b2 : v2 < 4294967296) (b3 : u2 < 4294967296) (hn : 2147483648 ≤ v1) (hlt : A < 4294967296 * D) (htop : top < v1 * 4294967296 + 4294967296) (hs : K < 35184372088832)
    (hend : ∀ q : Nat, q ≤ 4294967295 → q * D < A + D → A < (q + 1) * D → Ev (fun k => nat_step.j1 k u v ((K + 2 : Nat) : Int) (q : Int)) R) :
    ∀ (q r : Nat), q * v1 + r = top → A < (q + 1) * D → q ≤ 4294967297 → Ev (fun k => nat_step.l0 k u v ((K + 2 : Nat) : Int) (q : Int) (r : Int)) R := by
  intro q
  induction q using Nat.strongRecOn with
  | ind q ih =>
    intro r hqr hq hq1
    have e1 : wrap64 (((K + 2 : Nat) : Int) - 1) = ((K + 1 : Nat) : Int) := by rw [w64 (by omega) (by omega)]; omega
    have e2 : wrap64 (((K + 2 : Nat) : Int) - 2) = (K : Int) := by rw [w64 (by omega) (by omega)]; omega
    have hr64 : r < 18446744073709551616 := by
      have : v1 * 4294967296 ≤ 4294967295 * 4294967296 := Nat.mul_le_mul_right _ (by omega)
      omega
    have again : A < q * D → r < 4294967296 → Ev (fun k => nat_step.l0 k u v ((K + 2 : Nat) : Int) (IntKind.u64.wrap ((q : Int) - 1)) (IntKind.u64.wrap ((r : Int) + IntKind.u64.wrap (v1 : Int)))) R := by
      intro h1 h2
      have hq0 : q ≠ 0 := by rintro rfl; simp at h1
      obtain ⟨q', rfl⟩ : ∃ q', q = q' + 1 := ⟨q - 1, by omega⟩
      have w1 : IntKind.u64.wrap (((q' + 1 : Nat) : Int) - 1) = (q' : Int) := by
        have : ((q' + 1 : Nat) : Int) - 1 = (q' : Int) := by omega
        rw [this]; exact u64 (by omega) (by omega)
      have w2 : IntKind.u64.wrap ((r : Int) + IntKind.u64.wrap (v1 : Int)) = ((r + v1 : Nat) : Int) := by
        rw [u64 (x := (v1 : Int)) (by omega) (by omega)]; exact u64 (by omega) (by omega)
      rw [w1, w2]
      exact ih q' (by omega) (r + v1) (by rw [Nat.add_mul] at hqr; omega) h1 (by omega)
    by_cases c1 : r < 4294967296
    · by_cases c2 : 4294967296 ≤ q
      · have h1 : A < q * D := Nat.lt_of_lt_of_le hlt (Nat.mul_le_mul_right _ c2)
        refine Ev.step (fun k => ?_) (again h1 c1)
        simp only [nat_step.l0, e1, e2]
        clear e1 e2
        rw [if_pos (by omega), if_pos (by omega), if_pos (by omega), if_pos (by omega), ev1]
      · have m1 : q * v2 ≤ 4294967295 * 4294967295 := Nat.mul_le_mul (by omega) (by omega)
        have w3 : IntKind.u64.wrap ((q : Int) * IntKind.u64.wrap (v2 : Int)) = ((q * v2 : Nat) : Int) := by
          rw [u64 (x := (v2 : Int)) (by omega) (by omega), ← Int.natCast_mul]; exact u64 (by omega) (by omega)
        have w4 : Go.bits .or .u64 (IntKind.u64.wrap ((r : Int) * 4294967296)) (IntKind.u64.wrap (u2 : Int)) = ((r * 4294967296 + u2 : Nat) : Int) := by
          have e : (r : Int) * 4294967296 = ((r * 4294967296 : Nat) : Int) := by simp
          rw [e, u64 (x := ((r * 4294967296 : Nat) : Int)) (by omega) (by omega), u64 (x := (u2 : Int)) (by omega) (by omega)]
          exact or64 32 _ _ (by simp) (by omega) (by omega) (by omega)
        by_cases c3 : r * 4294967296 + u2 < q * v2
        · have h1 : A < q * D := guess_down hA hul hD hqr c3
          refine Ev.step (fun k => ?_) (again h1 c1)
          simp only [nat_step.l0, e1, e2]
          clear e1 e2
          rw [if_pos (by omega), if_neg (by omega), if_pos (by omega), if_pos (by omega), if_pos (by omega), ev2, eu2, w3, w4, if_pos (by omega), if_pos (by omega), if_pos (by omega), ev1]
        · have h1 : q * D < A + D := guess_up hA hD hvl hqr (by omega) (by omega) (by omega)
          refine Ev.step (fun k => ?_) (hend q (by omega) h1 hq)
          simp only [nat_step.l0, e1, e2]
          clear e1 e2
          rw [if_pos (by omega), if_neg (by omega), if_pos (by omega), if_pos (by omega), if_pos (by omega), ev2, eu2, w3, w4, if_neg (by omega)]
    · have c2 : q ≤ 4294967295 := by
        by_cases c : 4294967296 ≤ q
        · have : 4294967296 * v1 ≤ q * v1 := Nat.mul_le_mul_right _ c
          omega
        · omega
      have m1 : q * v2 ≤ 4294967295 * 4294967295 := Nat.mul_le_mul (by omega) (by omega)
      have m2 : 4294967296 * 4294967296 ≤ r * 4294967296 := Nat.mul_le_mul_right _ (by omega)
      have h1 : q * D < A + D := guess_up hA hD hvl hqr (by omega) (by omega) (by omega)
      refine Ev.step (fun k => ?_) (hend q (by omega) h1 hq)
      simp only [nat_step.l0]
      rw [if_neg (by omega)]
theorem sub_val {T T' S0 Sv p q ui u' vi b c b' c' : Nat} (h : T + q * Sv = S0 + p * (b + c)) (hT : T' = T + p * u') (e : u' + q * vi + b + c = ui + 4294967296 * (b' + c')) :
    T' + q * (Sv + p * vi) = (S0 + p * ui) + p * 4294967296 * (b' + c') := by
  have h1 : p * (u' + q * vi + b + c) = p * (ui + 4294967296 * (b' + c')) := by rw [e]
  have h2 : q * (p * vi) = p * (q * vi) := Nat.mul_left_comm ..
  have h3 : p * 4294967296 * (b' + c') = p * (4294967296 * (b' + c')) := Nat.mul_assoc ..
  have h4 : p * (u' + q * vi + b + c) = p * u' + p * (q * vi) + p * (b + c) := by rw [Nat.add_assoc (u' + q * vi), Nat.mul_add, Nat.mul_add]
  rw [h3, Nat.mul_add q, h2, hT, Nat.add_assoc S0, ← Nat.mul_add p, ← h1, h4]
  omega
theorem u64_sub {x y b : Nat} (hx : x < 4294967296) (hy : y < 4294967296) (hb : b ≤ 1) :
    (b + y ≤ x → IntKind.u64.wrap (IntKind.u64.wrap ((x : Int) - (y : Int)) - (b : Int)) = ((x - y - b : Nat) : Int)) ∧
    (x < b + y → IntKind.u64.wrap (IntKind.u64.wrap ((x : Int) - (y : Int)) - (b : Int)) = ((18446744073709551616 + x - y - b : Nat) : Int)) := by
  have e : ∀ z : Int, IntKind.u64.wrap z = z % 18446744073709551616 := fun z => by simp [IntKind.wrap, IntKind.bits, IntKind.signed]
  rw [e, e]
  constructor <;> intro h <;> omega
theorem rd_drop {x u : List Int} {i : Nat} (h : x.drop i = u.drop i) (hi : i < x.length) (hu : i < u.length) : rd x (i : Int) = rd u (i : Int) ∧ x.drop (i + 1) = u.drop (i + 1) := by
  rw [drop_rd x i hi, drop_rd u i hu] at h
  injection h with h1 h2
  exact ⟨h1, h2⟩
theorem sub_l1 {u v : List Int} (uv : U v) (hu : u.length = v.length + 1) (hs : v.length < 35184372088832) (q : Nat) (hq : q ≤ 4294967295) {R : Int × List Int}
    (hend : ∀ (x : List Int) (b c : Nat), x.length = u.length → U x → b ≤ 1 → c < 4294967296 → rd x (v.length : Int) = rd u (v.length : Int) → valn (x.take v.length) + q * valn v = valn (u.take v.length) + pw v.length * (b + c) →
      Ev (fun k => nat_step.l1 k x v (v.length : Int) (q : Int) (b : Int) (c : Int) (v.length : Int) (v.length : Int)) R) (n : Nat) :
    ∀ (i : Nat) (x : List Int) (b c : Nat), i + n = v.length → x.length = u.length → U x → b ≤ 1 → c < 4294967296 → x.drop i = u.drop i → valn (x.take i) + q * valn (v.take i) = valn (u.take i) + pw i * (b + c) →
      Ev (fun k => nat_step.l1 k x v (v.length : Int) (q : Int) (b : Int) (c : Int) (v.length : Int) (i : Int)) R := by
  induction n with
  | zero =>
    intro i x b c hi hx ux hb hc hd hv
    obtain rfl : i = v.length := by omega
    rw [List.take_of_length_le (Nat.le_refl v.length)] at hv
    exact hend x b c hx ux hb hc (rd_drop hd (by omega) (by omega)).1 hv
  | succ n ih =>
    intro i x b c hi hx ux hb hc hd hv
    obtain ⟨vi, evi, hvi⟩ := rd_nat uv (i : Int)
    obtain ⟨xi, exi, hxi⟩ := rd_nat ux (i : Int)
    obtain ⟨hrd, hdr⟩ := rd_drop hd (by omega) (by omega)
    have m1 : q * vi ≤ 4294967295 * 4294967295 := Nat.mul_le_mul hq (by omega)
    obtain ⟨P, hP⟩ : ∃ P, q * vi + c = P := ⟨_, rfl⟩
    have w1 : IntKind.u64.wrap (IntKind.u64.wrap ((q : Int) * IntKind.u64.wrap (vi : Int)) + (c : Int)) = (P : Int) := by
      rw [u64 (x := (vi : Int)) (by omega) (by omega), ← Int.natCast_mul, u64 (x := ((q * vi : Nat) : Int)) (by omega) (by omega), ← Int.natCast_add, hP]; exact u64 (by omega) (by omega)
    have w2 : (P : Int) % 4294967296 = ((P % 4294967296 : Nat) : Int) := by omega
    have w3 : (P : Int) / 4294967296 = ((P / 4294967296 : Nat) : Int) := by omega
    have hsub := u64_sub (x := xi) (y := P % 4294967296) (b := b) hxi (by omega) hb
    obtain ⟨u', b', hu', hb', ed, eb, hval⟩ : ∃ u' b' : Nat, u' < 4294967296 ∧ b' ≤ 1 ∧ (IntKind.u64.wrap (IntKind.u64.wrap ((xi : Int) - ((P % 4294967296 : Nat) : Int)) - (b : Int))) % 4294967296 = (u' : Int) ∧
        (IntKind.u64.wrap (IntKind.u64.wrap ((xi : Int) - ((P % 4294967296 : Nat) : Int)) - (b : Int))) / 9223372036854775808 = (b' : Int) ∧ u' + P % 4294967296 + b = xi + 4294967296 * b' := by
      by_cases c1 : b + P % 4294967296 ≤ xi
      · rw [hsub.1 c1]; exact ⟨xi - P % 4294967296 - b, 0, by omega, by omega, by omega, by omega, by omega⟩
      · rw [hsub.2 (by omega)]; exact ⟨4294967296 + xi - P % 4294967296 - b, 1, by omega, by omega, by omega, by omega, by omega⟩
    clear hsub
    have step := ih (i + 1) (x.set i (u' : Int)) b' (P / 4294967296) (by omega) (by rw [List.length_set]; exact hx) (U_set ux (by omega) _) hb' (by omega) (by rw [List.drop_set_of_lt (by omega)]; exact hdr) (by
      rw [valn_set_take x i _ (by omega), valn_take_succ v, valn_take_succ u, pw_succ, Int.toNat_natCast, evi, Int.toNat_natCast, ← hrd, exi, Int.toNat_natCast]
      exact sub_val hv rfl (by omega))
    refine Ev.step (fun k => ?_) step
    simp only [nat_step.l1]
    rw [if_pos (by omega), if_pos (by omega), if_pos (by omega), if_pos (by omega), evi, exi, w1, w2, w3, u64 (x := (xi : Int)) (by omega) (by omega), ed, eb, up i (by omega), Int.toNat_natCast]
theorem add_l2 {y v : List Int} (uv : U v) (hy : y.length = v.length + 1) (hs : v.length < 35184372088832) (q : Nat) (hq : q ≤ 4294967295) (hq0 : 1 ≤ q) (n : Nat) :
    ∀ (i : Nat) (x : List Int) (c : Nat), i + n = v.length → x.length = y.length → U x → c ≤ 1 → x.drop i = y.drop i → valn (x.take i) + pw i * c = valn (y.take i) + valn (v.take i) →
      Ev (fun k => nat_step.l2 k x v (v.length : Int) (q : Int) (c : Int) (v.length : Int) (i : Int)) ((((q - 1 : Nat) : Int)), padn (v.length + 1) (valn y + valn v)) := by
  induction n with
  | zero =>
    intro i x c hi hx ux hc hd hv
    obtain rfl : i = v.length := by omega
    obtain ⟨hrd, hdr⟩ := rd_drop hd (by omega) (by omega)
    obtain ⟨xk, exk, hxk⟩ := rd_nat ux (v.length : Int)
    obtain ⟨t, ht⟩ : ∃ t, xk + c = t := ⟨_, rfl⟩
    have u1 : U (x.set v.length ((t % 4294967296 : Nat) : Int)) := U_set ux (by omega) _
    have key : valn (x.set v.length ((t % 4294967296 : Nat) : Int)) + pw (v.length + 1) * (t / 4294967296) = valn y + valn v := by
      have h1 := valn_set_take x v.length ((t % 4294967296 : Nat) : Int) (by omega)
      rw [List.take_of_length_le (by rw [List.length_set]; omega), Int.toNat_natCast] at h1
      have h2 := valn_take_succ y v.length
      rw [List.take_of_length_le (by omega), ← hrd, exk, Int.toNat_natCast] at h2
      rw [List.take_of_length_le (Nat.le_refl v.length)] at hv
      have h3 : pw v.length * (xk + c) = pw v.length * (t % 4294967296 + 4294967296 * (t / 4294967296)) := by rw [Nat.mod_add_div, ht]
      rw [Nat.mul_add, Nat.mul_add, ← Nat.mul_assoc] at h3
      rw [h1, pw_succ]
      omega
    have h2 := padn_valn u1
    have h4 : padn (v.length + 1) (valn y + valn v) = x.set v.length ((t % 4294967296 : Nat) : Int) := by
      rw [List.length_set, hx, hy] at h2
      rw [← h2, ← key]
      exact padn_mod _ _ _
    rw [h4]
    refine Ev.step (f := fun _ => some ((((q - 1 : Nat) : Int)), x.set v.length ((t % 4294967296 : Nat) : Int))) (fun k => ?_) (Ev.now _)
    have w1 : IntKind.u64.wrap ((q : Int) - 1) = ((q - 1 : Nat) : Int) := by
      have : (q : Int) - 1 = ((q - 1 : Nat) : Int) := by omega
      rw [this]; exact u64 (by omega) (by omega)
    have w2 : (((q - 1 : Nat) : Int)) % 4294967296 = ((q - 1 : Nat) : Int) := by omega
    have w3 : ((xk : Int) + (c : Int) % 4294967296) % 4294967296 = ((t % 4294967296 : Nat) : Int) := by omega
    simp only [nat_step.l2]
    rw [if_neg (by omega), if_pos (by omega), if_pos (by omega), exk, w1, w2, w3, Int.toNat_natCast]
  | succ n ih =>
    intro i x c hi hx ux hc hd hv
    obtain ⟨vi, evi, hvi⟩ := rd_nat uv (i : Int)
    obtain ⟨xi, exi, hxi⟩ := rd_nat ux (i : Int)
    obtain ⟨hrd, hdr⟩ := rd_drop hd (by omega) (by omega)
    obtain ⟨t, ht⟩ : ∃ t, xi + vi + c = t := ⟨_, rfl⟩
    have w1 : IntKind.u64.wrap (IntKind.u64.wrap (IntKind.u64.wrap (xi : Int) + IntKind.u64.wrap (vi : Int)) + (c : Int)) = (t : Int) := by
      rw [u64 (x := (xi : Int)) (by omega) (by omega), u64 (x := (vi : Int)) (by omega) (by omega), u64 (x := (xi : Int) + (vi : Int)) (by omega) (by omega), u64 (by omega) (by omega)]; omega
    have w2 : (t : Int) % 4294967296 = ((t % 4294967296 : Nat) : Int) := by omega
    have w3 : (t : Int) / 4294967296 = ((t / 4294967296 : Nat) : Int) := by omega
    have step := ih (i + 1) (x.set i ((t % 4294967296 : Nat) : Int)) (t / 4294967296) (by omega) (by rw [List.length_set]; exact hx) (U_set ux (by omega) _) (by omega) (by rw [List.drop_set_of_lt (by omega)]; exact hdr) (by
      rw [valn_set_take x i _ (by omega), valn_take_succ v, valn_take_succ y, pw_succ, Int.toNat_natCast, evi, Int.toNat_natCast, ← hrd, exi, Int.toNat_natCast]
      exact step_val hv (by omega))
    refine Ev.step (fun k => ?_) step
    simp only [nat_step.l2]
    rw [if_pos (by omega), if_pos (by omega), if_pos (by omega), if_pos (by omega), evi, exi, w1, w2, w3, up i (by omega), Int.toNat_natCast]
theorem step_j1 {u v : List Int} (uu : U u) (uv : U v) (hu : u.length = v.length + 1) (hs : v.length < 35184372088832) (q : Nat) (hq : q ≤ 4294967295)
    (h1 : q * valn v < valn u + valn v) (h2 : valn u < (q + 1) * valn v) :
    Ev (fun k => nat_step.j1 k u v (v.length : Int) (q : Int)) ((((valn u / valn v : Nat) : Int)), padn (v.length + 1) (valn u % valn v)) := by
  rw [Nat.add_mul, Nat.one_mul] at h2
  refine Ev.step (f := fun k => nat_step.l1 k u v (v.length : Int) (q : Int) ((0 : Nat) : Int) ((0 : Nat) : Int) (v.length : Int) ((0 : Nat) : Int)) (fun k => rfl) ?_
  refine sub_l1 uv hu hs q hq ?_ v.length 0 u 0 0 (by omega) rfl uu (by omega) (by omega) rfl (by simp [valn_nil])
  intro x b c hx ux hb hc hr hv
  obtain ⟨uk, euk, huk⟩ := rd_nat ux (v.length : Int)
  have hU := valn_take_succ u v.length
  rw [List.take_of_length_le (by omega), ← hr, euk, Int.toNat_natCast] at hU
  have hsub := u64_sub (x := uk) (y := c) (b := b) huk hc hb
  have wuk : IntKind.u64.wrap (uk : Int) = (uk : Int) := u64 (by omega) (by omega)
  by_cases c1 : b + c ≤ uk
  · have hd := hsub.1 c1
    clear hsub
    have uy : U (x.set v.length ((uk - c - b : Nat) : Int)) := U_set ux (by omega) _
    have ky := valn_set_take x v.length ((uk - c - b : Nat) : Int) (by omega)
    rw [List.take_of_length_le (by rw [List.length_set]; omega), Int.toNat_natCast] at ky
    have e3 : pw v.length * uk = pw v.length * (uk - c - b) + pw v.length * (b + c) := by rw [← Nat.mul_add]; congr 1; omega
    obtain ⟨hq1, hq2⟩ := quo_of (u := valn u) (v := valn v) (q := q) (by omega) (by omega)
    have h5 := padn_valn uy
    rw [List.length_set, hx, hu] at h5
    have h6 : valn (x.set v.length ((uk - c - b : Nat) : Int)) = valn u % valn v := by omega
    rw [h6] at h5
    rw [hq1, h5]
    refine Ev.step (f := fun _ => some ((q : Int), x.set v.length ((uk - c - b : Nat) : Int))) (fun k => ?_) (Ev.now _)
    simp only [nat_step.l1]
    have w2 : ((uk - c - b : Nat) : Int) % 4294967296 = ((uk - c - b : Nat) : Int) := by omega
    have w3 : ((uk - c - b : Nat) : Int) / 9223372036854775808 = 0 := by omega
    have w4 : (q : Int) % 4294967296 = (q : Int) := by omega
    rw [if_neg (by omega), if_pos (by omega), if_pos (by omega), euk, wuk, hd, w2, w3, w4, Option.bind_some, if_pos rfl, Int.toNat_natCast]
  · have hd := hsub.2 (by omega)
    clear hsub
    obtain ⟨dd, hdd⟩ : ∃ dd : Nat, 4294967296 + uk - c - b = dd := ⟨_, rfl⟩
    have hdl : dd < 4294967296 := by omega
    have uy : U (x.set v.length (dd : Int)) := U_set ux (by omega) _
    have ky := valn_set_take x v.length (dd : Int) (by omega)
    rw [List.take_of_length_le (by rw [List.length_set]; omega), Int.toNat_natCast] at ky
    have e3 : pw v.length * uk + pw v.length * 4294967296 = pw v.length * dd + pw v.length * (b + c) := by rw [← Nat.mul_add, ← Nat.mul_add]; congr 1; omega
    have hyl : (x.set v.length (dd : Int)).length = v.length + 1 := by rw [List.length_set]; omega
    have ylt := valn_lt uy
    rw [hyl, pw_succ] at ylt
    have hq0 : 1 ≤ q := by
      cases q with
      | zero => rw [Nat.zero_mul] at *; omega
      | succ q => omega
    have eqv : (q - 1) * valn v + valn v = q * valn v := by
      obtain ⟨q', rfl⟩ : ∃ q', q = q' + 1 := ⟨q - 1, by omega⟩
      rw [Nat.add_sub_cancel, Nat.add_mul, Nat.one_mul]
    obtain ⟨hq1, hq2⟩ := quo_of (u := valn u) (v := valn v) (q := q - 1) (by omega) (by omega)
    have h7 := add_l2 uv hyl hs q hq hq0 v.length 0 (x.set v.length (dd : Int)) 0 (by omega) rfl uy (by omega) rfl (by simp [valn_nil])
    have e8 : valn (x.set v.length (dd : Int)) + valn v = valn u % valn v + pw (v.length + 1) * 1 := by rw [pw_succ, Nat.mul_one]; omega
    rw [e8, padn_mod] at h7
    rw [hq1]
    refine Ev.step (fun k => ?_) h7
    simp only [nat_step.l1]
    have w2 : ((18446744073709551616 + uk - c - b : Nat) : Int) % 4294967296 = (dd : Int) := by omega
    have w3 : ((18446744073709551616 + uk - c - b : Nat) : Int) / 9223372036854775808 = 1 := by omega
    rw [if_neg (by omega), if_pos (by omega), if_pos (by omega), euk, wuk, hd, w2, w3, Option.bind_some, if_neg (by omega), Int.toNat_natCast]; rfl
theorem take_lt' {l : List Int} (h : U l) (n : Nat) : valn (l.take n) < pw n :=
  Nat.lt_of_lt_of_le (valn_lt (U_take h n)) (pw_mono (by rw [List.length_take]; omega))
theorem valn_splitD (l : List Int) (n : Nat) : valn l = valn (l.take n) + pw n * valn (l.drop n) := by
  by_cases h : n ≤ l.length
  · exact valn_take_drop l n h
  · rw [List.take_of_length_le (by omega), List.drop_eq_nil_of_le (by omega), valn_nil]; simp
theorem tdiv_cast (a b : Nat) : Int.tdiv (a : Int) (b : Int) = ((a / b : Nat) : Int) := rfl
theorem tmod_cast (a b : Nat) : Int.tmod (a : Int) (b : Int) = ((a % b : Nat) : Int) := rfl
theorem step_f {u v : List Int} (uu : U u) (uv : U v) (hu : u.length = v.length + 1) (h2 : 2 ≤ v.length) (hs : v.length < 35184372088832) (hn : 2147483648 ≤ rd v ((v.length - 1 : Nat) : Int)) (hlt : valn u < 4294967296 * valn v) :
    Ev (fun k => nat_step.f k u v) ((((valn u / valn v : Nat) : Int)), padn (v.length + 1) (valn u % valn v)) := by
  obtain ⟨K, hK⟩ : ∃ K, v.length = K + 2 := ⟨v.length - 2, by omega⟩
  obtain ⟨v1, ev1, b1⟩ := rd_nat uv ((K + 1 : Nat) : Int)
  obtain ⟨v2, ev2, b2⟩ := rd_nat uv ((K : Nat) : Int)
  obtain ⟨u0, eu0, b0⟩ := rd_nat uu ((K + 2 : Nat) : Int)
  obtain ⟨u1, eu1, b3⟩ := rd_nat uu ((K + 1 : Nat) : Int)
  obtain ⟨u2, eu2, b4⟩ := rd_nat uu ((K : Nat) : Int)
  have hn1 : 2147483648 ≤ v1 := by
    have e : v.length - 1 = K + 1 := by omega
    rw [e, ev1] at hn; omega
  have sv : valn v = (v1 * 4294967296 + v2) * pw K + valn (v.take K) := by
    have a1 := valn_splitD v K
    have a2 := valn_drop_rd v K
    have a3 := valn_drop_rd v (K + 1)
    have z3 : v.drop (K + 1 + 1) = [] := List.drop_eq_nil_of_le (by omega)
    rw [z3, valn_nil, ev1, Int.toNat_natCast] at a3
    rw [ev2, Int.toNat_natCast] at a2
    have a4 : valn (v.drop K) = v1 * 4294967296 + v2 := by omega
    rw [a1, a4, Nat.mul_comm (pw K)]; omega
  have su : valn u = ((u0 * 4294967296 + u1) * 4294967296 + u2) * pw K + valn (u.take K) := by
    have a1 := valn_splitD u K
    have a2 := valn_drop_rd u K
    have a3 := valn_drop_rd u (K + 1)
    have a5 := valn_drop_rd u (K + 2)
    have z5 : u.drop (K + 2 + 1) = [] := List.drop_eq_nil_of_le (by omega)
    rw [z5, valn_nil, eu0, Int.toNat_natCast] at a5
    have e51 : K + 1 + 1 = K + 2 := rfl
    rw [e51] at a3
    rw [eu1, Int.toNat_natCast] at a3
    rw [eu2, Int.toNat_natCast] at a2
    have a4 : valn (u.drop K) = (u0 * 4294967296 + u1) * 4294967296 + u2 := by omega
    rw [a1, a4, Nat.mul_comm (pw K)]; omega
  have tl := take_lt' uv K
  have tu := take_lt' uu K
  have hu0 : u0 ≤ v1 := by
    by_cases c : u0 ≤ v1
    · exact c
    · exfalso
      have m1 : (v1 + 1) * 18446744073709551616 * pw K ≤ u0 * 18446744073709551616 * pw K := Nat.mul_le_mul_right _ (Nat.mul_le_mul_right _ (by omega))
      have m2 : (v1 * 4294967296 + v2 + 1) * pw K ≤ (v1 + 1) * 4294967296 * pw K := Nat.mul_le_mul_right _ (by omega)
      have m3 : u0 * 18446744073709551616 * pw K ≤ ((u0 * 4294967296 + u1) * 4294967296 + u2) * pw K := Nat.mul_le_mul_right _ (by omega)
      have m4 : (v1 + 1) * 18446744073709551616 * pw K = 4294967296 * ((v1 + 1) * 4294967296 * pw K) := by
        have e64 : (18446744073709551616 : Nat) = 4294967296 * 4294967296 := rfl
        rw [e64]; ac_rfl
      rw [Nat.add_mul _ 1, Nat.one_mul] at m2
      omega
  obtain ⟨top, htop⟩ : ∃ top, u0 * 4294967296 + u1 = top := ⟨_, rfl⟩
  rw [htop] at su
  have hv1 : v1 ≠ 0 := by omega
  have wt : Go.bits .or .u64 (IntKind.u64.wrap (IntKind.u64.wrap (u0 : Int) * 4294967296)) (IntKind.u64.wrap (u1 : Int)) = (top : Int) := by
    have e : (u0 : Int) * 4294967296 = ((u0 * 4294967296 : Nat) : Int) := by simp
    rw [u64 (x := (u0 : Int)) (by omega) (by omega), e, u64 (x := ((u0 * 4294967296 : Nat) : Int)) (by omega) (by omega), u64 (x := (u1 : Int)) (by omega) (by omega), or64 32 _ _ (by simp) (by omega) (by omega) (by omega), htop]
  have htb : top < v1 * 4294967296 + 4294967296 := by
    have : u0 * 4294967296 ≤ v1 * 4294967296 := Nat.mul_le_mul_right _ hu0
    omega
  have hq0 : top / v1 ≤ 4294967297 := by
    rw [Nat.div_le_iff_le_mul_add_pred (by omega)]; omega
  have hql : valn u < (top / v1 + 1) * valn v := by
    have d1 := Nat.div_add_mod top v1
    have d2 := Nat.mod_lt top (by omega : 0 < v1)
    have d3 : top + 1 ≤ (top / v1 + 1) * v1 := by rw [Nat.add_mul, Nat.one_mul, Nat.mul_comm (top / v1)]; omega
    have d4 : (top + 1) * (4294967296 * pw K) ≤ (top / v1 + 1) * v1 * (4294967296 * pw K) := Nat.mul_le_mul_right _ d3
    have d5 : (top / v1 + 1) * v1 * (4294967296 * pw K) ≤ (top / v1 + 1) * valn v := by
      rw [Nat.mul_assoc]
      refine Nat.mul_le_mul_left _ ?_
      rw [sv, ← Nat.mul_assoc, Nat.add_mul]; omega
    have d6 : (top * 4294967296 + u2 + 1) * pw K ≤ (top + 1) * 4294967296 * pw K := Nat.mul_le_mul_right _ (by omega)
    rw [Nat.add_mul _ 1, Nat.one_mul] at d6
    rw [← Nat.mul_assoc] at d4
    omega
  have hj : ∀ q : Nat, q ≤ 4294967295 → q * valn v < valn u + valn v → valn u < (q + 1) * valn v → Ev (fun k => nat_step.j1 k u v ((K + 2 : Nat) : Int) (q : Int)) ((((valn u / valn v : Nat) : Int)), padn (v.length + 1) (valn u % valn v)) := by
    intro q a1 a2 a3
    have := step_j1 uu uv hu hs q a1 a2 a3
    rwa [hK] at this ⊢
  have go := guess_l0 hK (by omega) su tu sv tl ev1 ev2 eu2 b1 b2 b4 hn1 hlt htb (by omega) hj (top / v1) (top % v1) (by rw [Nat.mul_comm]; exact Nat.div_add_mod ..) hql hq0
  refine Ev.congr (fun k => ?_) go
  have e1 : wrap64 (((v.length : Nat) : Int) - 1) = ((K + 1 : Nat) : Int) := by rw [w64 (by omega) (by omega)]; omega
  have eK : ((v.length : Nat) : Int) = ((K + 2 : Nat) : Int) := by omega
  unfold nat_step.f
  rw [e1, eK]
  clear e1
  have wv : IntKind.u64.wrap (v1 : Int) = (v1 : Int) := u64 (by omega) (by omega)
  rw [if_pos (by omega), if_pos (by omega), if_pos (by omega), if_pos (by omega), if_pos (by omega), ev1, wv, if_neg (by omega), eu0, eu1, wt, tdiv_cast, tmod_cast]
  have wq : IntKind.u64.wrap ((top / v1 : Nat) : Int) = ((top / v1 : Nat) : Int) := by
    clear wv wt go hj hql
    generalize top / v1 = qq at hq0 ⊢
    exact u64 (by omega) (by omega)
  rw [wq]
theorem long_inv {T p X V Q S : Nat} (h : T + p * X + V * (p * 4294967296) * Q = S) : T + p * (X % V) + V * p * (X / V + 4294967296 * Q) = S := by
  have e : p * X = p * (X % V) + V * p * (X / V) := by
    have := Nat.div_add_mod X V
    conv => lhs; rw [← this, Nat.mul_add]
    rw [Nat.add_comm]; congr 1; ac_rfl
  have e2 : V * p * (X / V + 4294967296 * Q) = V * p * (X / V) + V * (p * 4294967296) * Q := by
    rw [Nat.mul_add]; congr 1; ac_rfl
  rw [← h, e, e2]; omega
theorem drop_take_at (u : List Int) (j n : Nat) : u.drop j = (u.drop j).take n ++ u.drop (j + n) := by
  rw [← List.drop_drop, List.take_append_drop]
theorem win_val {u v : List Int} (uu : U u) (uv : U v) (j : Nat) (hj : j + v.length + 1 ≤ u.length) (hlt : valn (u.drop (j + 1)) < valn v) :
    valn ((u.drop j).take (v.length + 1)) = valn (u.drop j) ∧ valn (u.drop j) < 4294967296 * valn v := by
  have h1 := valn_drop_rd u j
  have h2 := U_rd uu (j : Int)
  have h3 : valn (u.drop j) < 4294967296 * valn v := by omega
  have h4 := valn_lt uv
  have h5 : valn (u.drop j) = valn ((u.drop j).take (v.length + 1)) + pw (v.length + 1) * valn ((u.drop j).drop (v.length + 1)) := valn_splitD _ _
  refine ⟨?_, h3⟩
  rcases Nat.eq_zero_or_pos (valn ((u.drop j).drop (v.length + 1))) with h | h
  · rw [h] at h5; omega
  · exfalso
    have h6 : pw (v.length + 1) * 1 ≤ pw (v.length + 1) * valn ((u.drop j).drop (v.length + 1)) := Nat.mul_le_mul_left _ h
    rw [pw_succ] at h6 h5
    omega
theorem sp_take (u xs : List Int) (j : Nat) (h : j + xs.length ≤ u.length) : (sp u j xs).take j = u.take j := by
  have ht : (u.take j).length = j := by rw [List.length_take]; omega
  rw [sp, List.append_assoc, List.take_append_of_le_length (by omega), List.take_of_length_le (by omega)]
theorem sp_drop (u xs : List Int) (j : Nat) (h : j + xs.length ≤ u.length) : (sp u j xs).drop j = xs ++ u.drop (j + xs.length) := by
  have ht : (u.take j).length = j := by rw [List.length_take]; omega
  rw [sp, List.append_assoc, List.drop_append_of_le_length (by omega), List.drop_eq_nil_of_le (by omega), List.nil_append]
theorem U_sp {u xs : List Int} (hu : U u) (hx : U xs) (j : Nat) : U (sp u j xs) := U_append (U_append (U_take hu j) hx) (U_drop hu _)
theorem win_after {u v : List Int} (uu : U u) (uv : U v) (j : Nat) (hj : j + v.length + 1 ≤ u.length) (hlt : valn (u.drop (j + 1)) < valn v) :
    valn ((sp u j (padn (v.length + 1) (valn (u.drop j) % valn v))).drop j) = valn (u.drop j) % valn v ∧
    valn (sp u j (padn (v.length + 1) (valn (u.drop j) % valn v))) = valn (u.take j) + pw j * (valn (u.drop j) % valn v) ∧
    U (sp u j (padn (v.length + 1) (valn (u.drop j) % valn v))) ∧ (sp u j (padn (v.length + 1) (valn (u.drop j) % valn v))).length = u.length := by
  obtain ⟨h1, h2⟩ := win_val uu uv j hj hlt
  have hl : (padn (v.length + 1) (valn (u.drop j) % valn v)).length = v.length + 1 := padn_len ..
  have hv : 0 < valn v := by omega
  have hm : valn (u.drop j) % valn v < valn v := Nat.mod_lt _ hv
  have hvl := valn_lt uv
  have hz : valn (u.drop (j + (v.length + 1))) = 0 := by
    have h5 := drop_take_at u j (v.length + 1)
    have h6 := congrArg valn h5
    rw [valn_append, h1] at h6
    have hlen : ((u.drop j).take (v.length + 1)).length = v.length + 1 := by rw [List.length_take, List.length_drop]; omega
    rw [hlen] at h6
    rcases Nat.eq_zero_or_pos (valn (u.drop (j + (v.length + 1)))) with h | h
    · exact h
    · exfalso
      have := Nat.mul_le_mul_left (pw (v.length + 1)) h
      have := pw_pos (v.length + 1)
      omega
  have hd : valn ((sp u j (padn (v.length + 1) (valn (u.drop j) % valn v))).drop j) = valn (u.drop j) % valn v := by
    rw [sp_drop _ _ _ (by omega), valn_append, hl, hz, valn_padn_lt (by rw [pw_succ]; omega)]; omega
  refine ⟨hd, ?_, U_sp uu (U_padn _ _) j, sp_len (by omega)⟩
  rw [valn_splitD _ j, hd, sp_take _ _ _ (by omega)]
theorem limb_shr {u : List Int} (uu : U u) (n : Nat) (hn : n ≤ 31) (i : Nat) :
    valn u / 2 ^ n / pw i % 4294967296 = ((rd u (i : Int)).toNat + 4294967296 * (rd u ((i + 1 : Nat) : Int)).toNat) / 2 ^ n % 4294967296 := by
  have h1 := valn_splitD u i
  have h2 := take_lt' uu i
  have h3 := valn_drop_rd u i
  have h4 := valn_drop_rd u (i + 1)
  have hp : 0 < pw i := pw_pos i
  have h5 : valn u / pw i = valn (u.drop i) := by
    rw [h1, Nat.add_mul_div_left _ _ hp, Nat.div_eq_of_lt h2]; omega
  rw [Nat.div_div_eq_div_mul, Nat.mul_comm, ← Nat.div_div_eq_div_mul, h5, h3, h4]
  generalize (rd u (i : Int)).toNat = x
  generalize (rd u ((i + 1 : Nat) : Int)).toNat = y
  generalize valn (u.drop (i + 1 + 1)) = r
  have hd : (2 : Nat) ^ 32 = 2 ^ n * 2 ^ (32 - n) := by rw [← Nat.pow_add]; congr 1; omega
  have e : x + 4294967296 * (y + 4294967296 * r) = x + 4294967296 * y + 2 ^ n * (2 ^ (32 - n) * r * 4294967296) := by
    have : (4294967296 : Nat) * (4294967296 * r) = 2 ^ n * (2 ^ (32 - n) * r * 4294967296) := by
      have h32 : (4294967296 : Nat) = 2 ^ 32 := rfl
      calc (4294967296 : Nat) * (4294967296 * r) = 2 ^ 32 * r * 4294967296 := by rw [← h32]; ac_rfl
        _ = _ := by rw [hd]; ac_rfl
    omega
  rw [e, Nat.add_mul_div_left _ _ (Nat.two_pow_pos n), Nat.add_mul_mod_self_right]
theorem mod_pw_succ (m i : Nat) : m % pw (i + 1) = m % pw i + pw i * (m / pw i % 4294967296) := by rw [pw_succ, Nat.mod_mul]
end Go.Proofs.Ytecfdemglbfnoaa.Num
end
section
namespace Go.Proofs.Ytecfdemglbfnoaa.Pure
open Go.RowKit Go.Proofs.Ytecfdemglbfnoaa.PT Go.Proofs.YtecfdemglbfnoaaW.PrintWords Go.Proofs.YtecfdemglbfnoaaW.PrintLast Go.Proofs.YtecfdemglbfnoaaW.PrintMore
def cst (a : Int) : Int := if a < 0 then 0 else if 4611686018427387904 < a then 4611686018427387904 else a
def csum (a b : Int) : Int := if 4611686018427387904 < cst a + cst b then 4611686018427387904 else cst a + cst b
theorem cst_bd (a : Int) : 0 ≤ cst a ∧ cst a ≤ 4611686018427387904 := by unfold cst; omega
theorem cost_f (a : Int) : semiring_cost.f a = some (cst a) := by
  unfold semiring_cost.f mn mx cst; congr 1; omega
theorem capped_f {a b : Int} (ha : 0 ≤ a) (ha' : a ≤ 4611686018427387904) (hb : 0 ≤ b) (hb' : b ≤ 4611686018427387904) :
    semiring_capped.f a b = some (if 4611686018427387904 < a + b then 4611686018427387904 else a + b) := by
  unfold semiring_capped.f wrap64
  by_cases h : 4611686018427387904 < a + b
  · rw [if_pos (by omega), if_pos h]
  · rw [if_neg (by omega), if_neg h]; congr 1; omega
theorem Add_f (a b : Int) : semiring_MinPlus_Add.f a b = some (mn (cst a) (cst b)) := by
  simp [semiring_MinPlus_Add.f, cost_f]
theorem Mul_f (a b : Int) : semiring_MinPlus_Mul.f a b = some (csum a b) := by
  have := cst_bd a; have := cst_bd b
  simp only [semiring_MinPlus_Mul.f, cost_f, Option.bind_some]
  rw [capped_f (by omega) (by omega) (by omega) (by omega)]; rfl
theorem Same_f (a b : Int) : semiring_MinPlus_Same.f a b = some (cst a == cst b) := by
  simp [semiring_MinPlus_Same.f, cost_f]
def gn (a : Int) : Int := if a < -1 then -1 else if 4611686018427387904 < a then 4611686018427387904 else a
end Go.Proofs.Ytecfdemglbfnoaa.Pure
end
section
namespace Go.Proofs.Ytecfdemglbfnoaa.Num
open Go.RowKit Go.Proofs.Ytecfdemglbfnoaa.PT Go.Proofs.YtecfdemglbfnoaaW.PrintWords Go.Proofs.YtecfdemglbfnoaaW.PrintLast Go.Proofs.YtecfdemglbfnoaaW.PrintMore
theorem Ev_succ {α : Type} {g : Nat → Option α} {r : α} (h : Ev (fun k => g (k + 1)) r) : Ev g r := Ev.step (fun _ => rfl) h
theorem bits_or_comm (x y : Int) : Go.bits .or .u64 x y = Go.bits .or .u64 y x := by
  unfold Go.bits
  simp [BitVec.or_comm]
theorem padn_of_mod {z : List Int} (uz : U z) {K m : Nat} (hz : z.length = K) (h : valn z = m % pw K) : z = padn K m := by
  have h1 := padn_valn uz
  rw [hz, h] at h1
  rw [← h1]
  have e := Nat.mod_add_div m (pw K)
  conv => rhs; rw [← e]
  rw [padn_mod]
theorem stepat_f {u v : List Int} (uu : U u) (uv : U v) (h2 : 2 ≤ v.length) (hn : 2147483648 ≤ rd v ((v.length - 1 : Nat) : Int)) (hL : u.length ≤ 1000002) (j : Nat) (hj : j + v.length + 1 ≤ u.length) (hlt : valn (u.drop (j + 1)) < valn v) :
    Ev (fun k => stepat k u (j : Int) v (v.length : Int)) (((valn (u.drop j) / valn v : Nat) : Int), sp u j (padn (v.length + 1) (valn (u.drop j) % valn v))) := by
  obtain ⟨h3, h4⟩ := win_val uu uv j hj hlt
  have h5 := step_f (u := (u.drop j).take (v.length + 1)) (v := v) (U_take (U_drop uu j) _) uv (win_len u j (v.length + 1) (by omega)) h2 (by omega) hn (by rw [h3]; exact h4)
  rw [h3] at h5
  refine Ev.congr (f := fun k => (nat_step.f k ((u.drop j).take (v.length + 1)) v).bind fun r => some (r.1, sp u j r.2)) (fun k => ?_) (Ev.bind h5 (Ev.now _))
  unfold stepat
  rw [if_pos ⟨by omega, rfl, by rw [Int.toNat_natCast]; omega, by omega⟩, Int.toNat_natCast]
theorem long_l1 {u q : List Int} (uu : U u) (n K : Nat) (hn : n ≤ 31) (hk : K + 1 ≤ u.length) (hu : u.length ≤ 1000002) (d : Nat) : ∀ (i : Nat) (z : List Int), i + d = K → z.length = K → U z → valn (z.take i) = (valn u / 2 ^ n) % pw i →
    Ev (fun k => nat_longw.l1 k q z (n : Int) u (K : Int) (i : Int)) (q, padn K (valn u / 2 ^ n)) := by
  induction d with
  | zero =>
    intro i z hi hz uz hv
    obtain rfl : i = K := by omega
    rw [List.take_of_length_le (by omega)] at hv
    rw [← padn_of_mod uz hz hv]
    refine Ev.step (f := fun _ => some (q, z)) (fun k => ?_) (Ev.now _)
    simp only [nat_longw.l1]
    rw [if_neg (by omega)]
  | succ d ih =>
    intro i z hi hz uz hv
    obtain ⟨x, ex, hx⟩ := rd_nat uu (i : Int)
    obtain ⟨y, ey, hy⟩ := rd_nat uu ((i + 1 : Nat) : Int)
    have hl := limb_shr uu n hn i
    rw [ex, ey, Int.toNat_natCast, Int.toNat_natCast] at hl
    have et : shr .u64 (Go.bits .or .u64 (IntKind.u64.wrap (rd u (i : Int))) (IntKind.u64.wrap (IntKind.u64.wrap (rd u ((i + 1 : Nat) : Int)) * 4294967296))) (n : Int) % 4294967296 = (((valn u / 2 ^ n / pw i % 4294967296 : Nat)) : Int) := by
      have e : (y : Int) * 4294967296 = ((y * 4294967296 : Nat) : Int) := by simp
      rw [ex, ey, u64 (x := (x : Int)) (by omega) (by omega), u64 (x := (y : Int)) (by omega) (by omega), e, u64 (x := ((y * 4294967296 : Nat) : Int)) (by omega) (by omega), bits_or_comm, or64 32 _ _ (by simp) (by omega) (by omega) (by omega)]
      unfold shr
      have hm : min ((n : Int)).toNat IntKind.u64.bits = n := by
        rw [Int.toNat_natCast]; exact Nat.min_eq_left (by show n ≤ 64; omega)
      rw [hm, hl, Nat.add_comm (y * 4294967296), Nat.mul_comm y, Int.natCast_emod, Int.natCast_ediv, Int.natCast_pow]; rfl
    have hb : valn u / 2 ^ n / pw i % 4294967296 < 4294967296 := Nat.mod_lt _ (by decide)
    generalize hd : valn u / 2 ^ n / pw i % 4294967296 = D at et hb
    have step := ih (i + 1) (z.set i (D : Int)) (by omega) (by rw [List.length_set]; exact hz) (U_set uz (by omega) _) (by
      rw [valn_set_take z i _ (by omega), Int.toNat_natCast, hv, mod_pw_succ, hd])
    refine Ev.step (fun k => ?_) step
    simp only [nat_longw.l1]
    rw [up i (by omega), if_pos (by omega), if_pos (by omega), if_pos (by omega), if_pos (by omega), if_pos (by omega), if_pos (by omega), if_pos (by omega), et, Int.toNat_natCast]
theorem long_l0 {v : List Int} (uv : U v) (h2 : 2 ≤ v.length) (hn : 2147483648 ≤ rd v ((v.length - 1 : Nat) : Int)) (n : Nat) (hn31 : n ≤ 31) (S L : Nat) (hL : v.length + 1 ≤ L) (hL' : L ≤ 1000002) : ∀ (j : Nat) (q u : List Int), u.length = L → U u → q.length = L - v.length → U q → j ≤ L - v.length →
    valn (u.drop j) < valn v → valn (u.take j) + pw j * valn (u.drop j) + valn v * pw j * valn (q.drop j) = S →
    Ev (fun k => nat_longw.l0 k q (n : Int) v u (v.length : Int) ((j : Int) - 1)) (padn (L - v.length) (S / valn v), padn v.length (S % valn v / 2 ^ n)) := by
  intro j
  induction j with
  | zero =>
    intro q u hu uu hq uq _ hlt hS
    rw [List.take_zero, List.drop_zero, List.drop_zero, pw_zero, valn_nil, Nat.mul_one, Nat.one_mul, Nat.zero_add] at hS
    rw [List.drop_zero] at hlt
    have hv0 : 0 < valn v := by omega
    have h3 := quo_of (u := S) (v := valn v) (q := valn q) (by rw [← hS, Nat.mul_comm]; omega) (by rw [← hS, Nat.mul_comm]; omega)
    have h4 : S % valn v = valn u := by rw [h3.2, ← hS, Nat.mul_comm (valn v)]; omega
    have hqp : padn (L - v.length) (S / valn v) = q := by rw [h3.1, ← hq]; exact padn_valn uq
    rw [hqp, h4]
    have h5 := long_l1 (q := q) uu n v.length hn31 (by omega) (by omega) v.length 0 (List.replicate v.length 0) (by omega) (by simp) (U_replicate _) (by rw [List.take_zero, valn_nil, pw_zero, Nat.mod_one])
    refine Ev.step (fun k => ?_) h5
    simp only [nat_longw.l0]
    rw [if_neg (by omega), if_pos (by omega), Int.toNat_natCast, if_pos (by omega), Option.bind_some, List.length_replicate]; rfl
  | succ j ih =>
    intro q u hu uu hq uq hj hlt hS
    have hj1 : j + v.length + 1 ≤ u.length := by omega
    obtain ⟨h3, h4⟩ := win_val uu uv j hj1 hlt
    obtain ⟨a1, a2, a3, a4⟩ := win_after uu uv j hj1 hlt
    have hst := stepat_f uu uv h2 hn (by omega) j hj1 hlt
    have hv0 : 0 < valn v := by omega
    have hqb : valn (u.drop j) / valn v < 4294967296 := (Nat.div_lt_iff_lt_mul hv0).mpr h4
    have e0 : valn u = valn (u.take j) + pw j * valn (u.drop j) := valn_splitD u j
    have e1 : valn u = valn (u.take (j + 1)) + pw (j + 1) * valn (u.drop (j + 1)) := valn_splitD u (j + 1)
    rw [← e1, e0, pw_succ] at hS
    have hinv := long_inv hS
    have uq' : U (q.set j ((valn (u.drop j) / valn v : Nat) : Int)) := U_set uq ⟨Int.natCast_nonneg _, by omega⟩ _
    have hqd : valn ((q.set j ((valn (u.drop j) / valn v : Nat) : Int)).drop j) = valn (u.drop j) / valn v + 4294967296 * valn (q.drop (j + 1)) := by
      rw [valn_drop_rd, rd_set_eq _ _ _ (by omega), Int.toNat_natCast, List.drop_set_of_lt (by omega)]
    have htk : (sp u j (padn (v.length + 1) (valn (u.drop j) % valn v))).take j = u.take j := sp_take _ _ _ (by rw [padn_len]; omega)
    have step := ih (q.set j ((valn (u.drop j) / valn v : Nat) : Int)) (sp u j (padn (v.length + 1) (valn (u.drop j) % valn v))) (by rw [a4]; exact hu) a3 (by rw [List.length_set]; exact hq) uq' (by omega) (by rw [a1]; exact Nat.mod_lt _ hv0) (by
      rw [htk, a1, hqd]; exact hinv)
    refine Ev_succ ?_
    have ej : ((j + 1 : Nat) : Int) - 1 = (j : Int) := by omega
    simp only [nat_longw.l0, ej]
    refine Ev.congr (fun k => ?_) (Ev.bind (f := fun k r => nat_longw.l0 k (q.set j r.1) (n : Int) v r.2 (v.length : Int) ((j : Int) - 1)) hst step)
    rw [if_pos (by omega)]
    congr 1
    funext r
    rw [if_pos (by omega), if_pos (by omega), w64 (by omega) (by omega), Int.toNat_natCast]
theorem lz_top {n : Nat} (h0 : n ≠ 0) (h : n < 4294967296) : (n + 1) * 2 ^ (32 - sz n) ≤ 4294967296 := by
  have hb : sz n ≤ 32 := sz_le (b := 32) h
  have h3 := (sz_spec h0).2
  have e2 : (4294967296 : Nat) = 2 ^ sz n * 2 ^ (32 - sz n) := by rw [← Nat.pow_add, show sz n + (32 - sz n) = 32 from by omega]
  conv => rhs; rw [e2]
  exact Nat.mul_le_mul_right _ h3
theorem top_val {b : List Int} {M t : Nat} (hM : b.length = M + 1) (et : rd b (M : Int) = (t : Int)) : valn b = valn (b.take M) + pw M * t := by
  have a1 := valn_splitD b M
  have a2 := valn_drop_rd b M
  have z0 : b.drop (M + 1) = [] := List.drop_eq_nil_of_le (by omega)
  rw [z0, valn_nil, et, Int.toNat_natCast, Nat.mul_zero, Nat.add_zero] at a2
  rw [a1, a2]
theorem norm_up {x p t c B : Nat} (h1 : x < p) (h : (t + 1) * c ≤ B) (hc : 0 < c) : (x + p * t) * c < p * B := by
  have h2 : (x + p * t + 1) * c ≤ p * (t + 1) * c := Nat.mul_le_mul_right _ (by rw [Nat.mul_add, Nat.mul_one]; omega)
  have h3 : p * (t + 1) * c ≤ p * B := by rw [Nat.mul_assoc]; exact Nat.mul_le_mul_left _ h
  rw [Nat.add_mul _ 1, Nat.one_mul] at h2
  exact Nat.lt_of_lt_of_le (Nat.lt_add_of_pos_right hc) (Nat.le_trans h2 h3)
theorem norm_low {x p t c H : Nat} (h : H ≤ t * c) : p * H ≤ (x + p * t) * c := by
  rw [Nat.add_mul, Nat.mul_assoc]
  exact Nat.le_trans (Nat.mul_le_mul_left _ h) (Nat.le_add_left _ _)
theorem lb_len_eq {V M : Nat} (h1 : V < pw (M + 1)) (h2 : pw M ≤ V) : (lb V).length = M + 1 := by
  have h3 := lb_len_le h1
  have h4 := lt_pow_len V
  by_cases c : (lb V).length = M + 1
  · exact c
  · exact absurd (Nat.lt_of_lt_of_le h4 (Nat.le_trans (pw_mono (show (lb V).length ≤ M from by omega)) h2)) (Nat.lt_irrefl _)
theorem lb_top {V M H : Nat} (h2 : pw M * H ≤ V) (hl : (lb V).length = M + 1) : (H : Int) ≤ rd (lb V) (M : Int) := by
  obtain ⟨x, ex, hx⟩ := rd_nat (U_lb V) (M : Int)
  have a1 := top_val hl ex
  rw [valn_lb] at a1
  have a3 := take_lt' (U_lb V) M
  rw [ex]
  by_cases c : H ≤ x
  · omega
  · exfalso
    have h3 : pw M * (x + 1) ≤ pw M * H := Nat.mul_le_mul_left _ (by omega)
    rw [Nat.mul_add, Nat.mul_one] at h3
    generalize pw M * x = y at *
    generalize pw M * H = z at *
    omega
theorem norm_div {b : List Int} (ub : U b) {M t : Nat} (hM : b.length = M + 1) (et : rd b (M : Int) = (t : Int)) (ht : t < 4294967296) (ht0 : t ≠ 0) :
    valn b * 2 ^ (32 - sz t) < pw (M + 1) ∧ (lb (valn b * 2 ^ (32 - sz t))).length = M + 1 ∧ 2147483648 ≤ rd (lb (valn b * 2 ^ (32 - sz t))) (M : Int) := by
  obtain ⟨z1, _, _⟩ := lz_shift ht0 ht
  have z4 := lz_top ht0 ht
  have tb := take_lt' ub M
  have sb := top_val hM et
  have v1 : valn b * 2 ^ (32 - sz t) < pw (M + 1) := by rw [sb, pw_succ]; exact norm_up tb z4 (Nat.two_pow_pos _)
  have v2 : pw M * 2147483648 ≤ valn b * 2 ^ (32 - sz t) := by rw [sb]; exact norm_low z1
  have v3 : pw M ≤ valn b * 2 ^ (32 - sz t) := Nat.le_trans (Nat.le_mul_of_pos_right _ (by decide)) v2
  have vl := lb_len_eq v1 v3
  exact ⟨v1, vl, lb_top v2 vl⟩
theorem den_low {b : List Int} {M t : Nat} (hM : b.length = M + 1) (et : rd b (M : Int) = (t : Int)) (ht0 : t ≠ 0) : pw M ≤ valn b := by
  rw [top_val hM et]
  exact Nat.le_trans (Nat.le_mul_of_pos_right _ (Nat.pos_of_ne_zero ht0)) (Nat.le_add_left _ _)
theorem num_high {a : List Int} (ua : U a) {B M J c : Nat} (hJ : a.length = M + J) (hB : pw M ≤ B) (hc : 0 < c) : valn a * c < B * c * pw J := by
  have va := valn_lt ua
  rw [hJ, pw_add] at va
  have h1 : valn a < B * pw J := Nat.lt_of_lt_of_le va (Nat.mul_le_mul_right _ hB)
  have h2 := Nat.mul_lt_mul_of_pos_right h1 hc
  rwa [Nat.mul_assoc, Nat.mul_comm (pw J), ← Nat.mul_assoc] at h2
theorem drop_lt {u : List Int} {J V : Nat} (h : valn u < V * pw J) : valn (u.drop J) < V := by
  have h1 := valn_splitD u J
  by_cases c : valn (u.drop J) < V
  · exact c
  · exfalso
    have h2 : V * pw J ≤ valn (u.drop J) * pw J := Nat.mul_le_mul_right _ (by omega)
    rw [Nat.mul_comm (valn _)] at h2
    generalize V * pw J = x at *
    generalize pw J * valn (u.drop J) = y at *
    omega
theorem longw_f {a b : List Int} (ua : U a) (ub : U b) (h2 : 2 ≤ b.length) (hba : b.length ≤ a.length) (htop : rd b ((b.length - 1 : Nat) : Int) ≠ 0) (ha : a.length ≤ 1000000) :
    Ev (fun k => nat_longw.f k a b) (padn (a.length + 1 - b.length) (valn a / valn b), padn b.length (valn a % valn b)) := by
  obtain ⟨M, hM⟩ : ∃ M, b.length = M + 1 := ⟨b.length - 1, by omega⟩
  rw [hM, Nat.add_sub_cancel] at htop
  obtain ⟨t, et, ht⟩ := rd_nat ub (M : Int)
  have ht0 : t ≠ 0 := by intro h; apply htop; rw [et, h]; rfl
  have z3 := (lz_shift ht0 ht).2.2
  obtain ⟨v1, vl, vt⟩ := norm_div ub hM et ht ht0
  have hb0 := den_low hM et ht0
  obtain ⟨J, hJ⟩ : ∃ J, a.length = M + J := ⟨a.length - M, by omega⟩
  have hlz := LeadingZeros32_f t ht
  obtain ⟨n, hn⟩ : ∃ n, 32 - sz t = n := ⟨_, rfl⟩
  rw [hn] at z3 v1 vl vt hlz
  have hc := Nat.two_pow_pos n
  have hcB : 2 ^ n < 4294967296 := Nat.lt_of_le_of_lt (Nat.pow_le_pow_right (by decide) z3) (by decide : 2 ^ 31 < 4294967296)
  have s2 := num_high ua hJ hb0 hc
  have s1 : valn a * 2 ^ n < pw (a.length + 1) := by rw [pw_succ]; exact Nat.mul_lt_mul'' (valn_lt ua) hcB
  have e1 : valn a * 2 ^ n / (valn b * 2 ^ n) = valn a / valn b := Nat.mul_div_mul_right _ _ hc
  have e2 : valn a * 2 ^ n % (valn b * 2 ^ n) / 2 ^ n = valn a % valn b := by rw [Nat.mul_mod_mul_right]; exact Nat.mul_div_cancel _ hc
  have hsh1 := shift_f ub n z3 (by omega)
  have hsh2 := shift_f ua n z3 (by omega)
  obtain ⟨V, hV⟩ : ∃ V, valn b * 2 ^ n = V := ⟨_, rfl⟩
  obtain ⟨S, hS⟩ : ∃ S, valn a * 2 ^ n = S := ⟨_, rfl⟩
  rw [hV] at v1 vl vt s2 e1 e2 hsh1
  rw [hS] at s1 s2 e1 e2 hsh2
  have hso := short_f (l := padn (b.length + 1) V) (U_padn _ _) (by rw [padn_len]; omega)
  rw [valn_padn_lt (Nat.lt_of_lt_of_le v1 (pw_mono (by omega)))] at hso
  have u0 : valn ((padn (a.length + 1) S).drop J) < V := drop_lt (by rw [valn_padn_lt s1]; exact s2)
  have main := long_l0 (v := lb V) (U_lb V) (by rw [vl, ← hM]; exact h2) (by rw [vl, Nat.add_sub_cancel]; exact vt) n z3 S (a.length + 1) (by omega) (by omega) J (List.replicate J 0) (padn (a.length + 1) S) (padn_len _ _) (U_padn _ _) (by rw [List.length_replicate]; omega) (U_replicate _) (by omega) (by rw [valn_lb]; exact u0) (by
    rw [show (List.replicate J (0 : Int)).drop J = [] from List.drop_eq_nil_of_le (by rw [List.length_replicate]; exact Nat.le_refl _), valn_nil, Nat.mul_zero, Nat.add_zero, ← valn_splitD, valn_padn_lt s1])
  rw [valn_lb, e1, e2, vl] at main
  rw [hM] at hsh1 hso ⊢
  have eJ : ((a.length + 1 : Nat) : Int) - ((M + 1 : Nat) : Int) = (J : Int) := by omega
  have c1 : (0 : Int) ≤ (M : Int) ∧ (M : Int) < ((M + 1 : Nat) : Int) ∧ (0 : Int) ≤ (J : Int) ∧ J ≤ 70368744177664 ∧ M < 9223372036854775807 := by omega
  have ws : wrap64 (((M + 1 : Nat) : Int) - 1) = (M : Int) ∧ wrap64 (J : Int) = (J : Int) ∧ wrap64 ((J : Int) - 1) = (J : Int) - 1 := ⟨dn M c1.2.2.2.2, w64 (by omega) (by omega), w64 (by omega) (by omega)⟩
  refine Ev.congr (f := fun k => (nat_shift.f k b (n : Int)).bind fun t139 => (nat_short.f k t139).bind fun t142 => (nat_shift.f k a (n : Int)).bind fun t145 =>
    (if 0 ≤ (wrap64 ((t145.length : Int) - (t142.length : Int))) then (if (wrap64 ((t145.length : Int) - (t142.length : Int)) : Int).toNat ≤ 70368744177664 then (nat_longw.l0 k (List.replicate (wrap64 ((t145.length : Int) - (t142.length : Int)) : Int).toNat 0) (n : Int) t142 t145 (t142.length : Int) (wrap64 ((wrap64 ((t145.length : Int) - (t142.length : Int))) - 1))) else (none)) else (none)))
    (fun k => ?_) (Ev.bind hsh1 (Ev.bind hso (Ev.bind hsh2 (Ev.congr (fun k => ?_) main))))
  · unfold nat_longw.f
    rw [hM, ws.1, if_pos c1.1, if_pos c1.2.1, et, hlz, Option.bind_some]
  · rw [padn_len, vl, eJ, ws.2.1, ws.2.2, if_pos c1.2.2.1, Int.toNat_natCast, if_pos c1.2.2.2.1]
end Go.Proofs.Ytecfdemglbfnoaa.Num
end
section
namespace Go.Proofs.Ytecfdemglbfnoaa.PT
open Go.RowKit Go.Proofs.Ytecfdemglbfnoaa.Num Go.Proofs.YtecfdemglbfnoaaW.PrintWords
def nat_long.f (l0 l1 : List Int) : Option (List Int × List Int) :=
  if 2 ≤ l1.length ∧ l1.length ≤ l0.length ∧ l1.getLastD 0 ≠ 0 ∧ (∀ x ∈ l0, 0 ≤ x ∧ x < 4294967296) ∧ (∀ x ∈ l1, 0 ≤ x ∧ x < 4294967296) ∧ l0.length ≤ 1000000 then
    some (padn (l0.length + 1 - l1.length) (valn l0 / valn l1), padn l1.length (valn l0 % valn l1)) else none
theorem rd_getLastD (l : List Int) : rd l ((l.length - 1 : Nat) : Int) = l.getLastD 0 := by
  unfold rd
  rw [Int.toNat_natCast, List.getLastD_eq_getLast?, List.getLast?_eq_getElem?, List.getD_eq_getElem?_getD]
theorem nat_long.calls (A0 : Option Addr) (c0 : Nat) (l0 : List Int) (A1 : Option Addr) (c1 : Nat) (l1 : List Int) (r1 : List Int) (r2 : List Int) (w : World) (hr0 : Kd.C (Kd.int .u32) w A0 l0.length l0) (hc0 : l0.length ≤ c0) (hr1 : Kd.C (Kd.int .u32) w A1 l1.length l1) (hc1 : l1.length ≤ c1) (h : nat_long.f l0 l1 = some (r1, r2)) :
    Calls Try.prog 187 #[.slice A0 l0.length c0, .slice A1 l1.length c1] w fun e w' => ∃ v0_ v1_ : Value, e = .returned (.tuple #[v0_, v1_]) ∧ Kd.R (Kd.int .u32) 48 w' w.heap.size (fun k_ => some k_ ≠ (v1_ : Value).ownBlock) v0_ r1 ∧ Kd.R (Kd.int .u32) 48 w' w.heap.size (fun k_ => some k_ ≠ (v0_ : Value).ownBlock) v1_ r2 ∧ Below w.heap.size w w' := by
  unfold nat_long.f at h
  split at h
  case isTrue c =>
    obtain ⟨h2, hba, hd, ua, ub, ha⟩ := c
    obtain ⟨k, hk⟩ := (longw_f (a := l0) (b := l1) ua ub h2 hba (by rw [rd_getLastD l1]; exact hd) ha).rounds
    exact nat_longw.calls k A0 c0 l0 A1 c1 l1 r1 r2 w hr0 hc0 hr1 hc1 (hk.trans h)
  case isFalse => exact absurd h (by simp)
end Go.Proofs.Ytecfdemglbfnoaa.PT
end
section
namespace Go.Proofs.Ytecfdemglbfnoaa.PT
open Go.RowKit Go.Proofs.YtecfdemglbfnoaaW.PrintWords Go.Proofs.YtecfdemglbfnoaaW.PrintLast Go.Proofs.YtecfdemglbfnoaaW.PrintMore
attribute [local go_sem] max2_int min2_int max_two min_two max_three min_three max_four min_four
set_option linter.unusedVariables false
set_option linter.unusedSimpArgs false
set_option maxHeartbeats 8000000
set_option maxRecDepth 100000
def nat_DivMod.f (k : Nat) (l0 : List Int) (l1 : List Int) : Option (List Int × List Int × Int) := (nat_short.f k l0).bind fun t966 => ((nat_short.f k l1).bind fun t969 => (if (t969.length : Int) = 0 then (some (([] : List Int), ([] : List Int), 7)) else ((nat_Cmp.f k t966 t969).bind fun t972 => (if t972 < 0 then ((nat_Trim.f k t966).bind fun t973 => (some (([] : List Int), t973, 0))) else (if (t969.length : Int) = 1 then (if 0 < (t969.length : Int) then ((nat_digit.f k t966 (rd t969 0)).bind fun bt977 => ((nat_Of.f k (IntKind.u64.wrap (bt977.2))).bind fun t981 => (some (bt977.1, t981, 0)))) else (none)) else ((nat_long.f t966 t969).bind fun bt984 => ((nat_Trim.f k bt984.1).bind fun t990 => ((nat_Trim.f k bt984.2).bind fun t993 => (some (t990, t993, 0))))))))))
theorem nat_DivMod.calls (k : Nat) (P0_ : Nat → Prop) (A0 : Option Addr) (c0 : Nat) (l0 : List Int) (P1_ : Nat → Prop) (A1 : Option Addr) (c1 : Nat) (l1 : List Int) (r1 : List Int) (r2 : List Int) (r3 : Int) (w : World) (hs0 : Kd.V (Kd.int .u32) 48 w w.heap.size (fun k_ => P0_ k_) (.slice A0 l0.length c0) l0) (hs1 : Kd.V (Kd.int .u32) 48 w w.heap.size (fun k_ => P1_ k_) (.slice A1 l1.length c1) l1) (h : nat_DivMod.f k l0 l1 = some (r1, r2, r3)) :
 Calls Try.prog 167 #[.slice A0 l0.length c0, .slice A1 l1.length c1] w fun e w' => ∃ v0_ v1_ : Value, e = .returned (.tuple #[v0_, v1_, .int .i64 r3]) ∧ Kd.V (Kd.int .u32) 48 w' w.heap.size (fun k_ => ((P0_ k_ ∨ P1_ k_) ∨ w.heap.size ≤ k_)) v0_ r1 ∧ Kd.V (Kd.int .u32) 48 w' w.heap.size (fun k_ => ((P0_ k_ ∨ P1_ k_) ∨ w.heap.size ≤ k_)) v1_ r2 ∧ Below w.heap.size w w' := by
 have af := am (show Kd.V (Kd.int .u32) 48 w w.heap.size (fun k_ => ((P0_ k_ ∨ P1_ k_) ∨ w.heap.size ≤ k_)) (.slice A0 l0.length c0) l0 from Kd.V_mono hs0 (fun k_ hk => .inl (.inl hk)))
 have ag := am (show Kd.V (Kd.int .u32) 48 w w.heap.size (fun k_ => ((P0_ k_ ∨ P1_ k_) ∨ w.heap.size ≤ k_)) (.slice A1 l1.length c1) l1 from Kd.V_mono hs1 (fun k_ hk => .inl (.inr hk)))
 have HB := am (Below.refl w.heap.size w)
 have H : ((nat_short.f k l0).bind fun ae => ((nat_short.f k l1).bind fun ac => (if (ac.length : Int) = 0 then (some (([] : List Int), ([] : List Int), 7)) else ((nat_Cmp.f k ae ac).bind fun aj => (if aj < 0 then ((nat_Trim.f k ae).bind fun aq => (some (([] : List Int), aq, 0))) else (if (ac.length : Int) = 1 then (if 0 < (ac.length : Int) then ((nat_digit.f k ae (rd ac 0)).bind fun ao => ((nat_Of.f k (IntKind.u64.wrap (ao.2))).bind fun au => (some (ao.1, au, 0)))) else (none)) else ((nat_long.f ae ac).bind fun ap => ((nat_Trim.f k ap.1).bind fun av => ((nat_Trim.f k ap.2).bind fun aw => (some (av, aw, 0))))))))))) = some (r1, r2, r3) := h
 clear h
 obtain ⟨ae, A3, H⟩ := bs H
 (try dsimp -simprocs only at H)
 obtain ⟨ac, A4, H⟩ := bs H
 (try dsimp -simprocs only at H)
 by_cases c5 : (ac.length : Int) = 0
 ·
  rw [if_pos c5] at H
  have aU : ((ac.length : Int) == 0) = true := beq_iff_eq.mpr c5
  have aV : ((ac.length : Int) != 0) = false := bne_eq_false_iff_eq.mpr c5
  clear c5
  simp only [Option.some.injEq, Prod.mk.injEq] at H
  obtain ⟨rfl, rfl, rfl⟩ := H
  go_enter Try.func167, Try.ntmps167
  go_wp2_with (first | ((with_reducible refine gate_callee (f := 179) rfl ?_); refine goesL_ (some 12) rfl rfl Try.func179 (by kernel_rfl) rfl #[.slice A0 l0.length c0] rfl lu ?_; (with_reducible refine (nat_short.calls k (fun k_ => ((P0_ k_ ∨ P1_ k_) ∨ w.heap.size ≤ k_)) _ _ l0 ae _ ?side1 A3.out).mono ?_); (case side1 => exact vz af.out); rintro e w6 ⟨ax, rfl, ad, hb⟩; refine ⟨_, rfl, ?_⟩; replace af := kv af hb; replace ag := kv ag hb; have aa := ar w.heap.size (ok' := fun k_ => ((P0_ k_ ∨ P1_ k_) ∨ w.heap.size ≤ k_)) ad (fz HB); replace HB := be HB hb; (try clear hb); (try clear ad)) | ((with_reducible refine gate_callee (f := 179) rfl ?_); refine goesL_ (some 14) rfl rfl Try.func179 (by kernel_rfl) rfl #[.slice A1 l1.length c1] rfl lu ?_; (with_reducible refine (nat_short.calls k (fun k_ => ((P0_ k_ ∨ P1_ k_) ∨ w.heap.size ≤ k_)) _ _ l1 ac _ ?side1 A4.out).mono ?_); (case side1 => exact vz ag.out); rintro e w7 ⟨ay, rfl, ad, hb⟩; refine ⟨_, rfl, ?_⟩; replace af := kv af hb; replace ag := kv ag hb; replace aa := kv aa hb; have ab := ar w.heap.size (ok' := fun k_ => ((P0_ k_ ∨ P1_ k_) ∨ w.heap.size ≤ k_)) ad (fz HB); replace HB := be HB hb; (try clear hb); (try clear ad); obtain ⟨bA, bB, bh⟩ := Kd.V_slice ab.out; subst bh))
  go_ret3
  exact ⟨_, _, by first | rfl | (simp [errW_none, errW_some] <;> rfl) | (simp [*, errW_none, errW_some] <;> rfl), Kd.V_nil _ _ _ _ _, Kd.V_nil _ _ _ _ _, by repeat (first | (with_reducible first | exact HB.out | apply below_alloc | apply pw_below_drewN | apply below_drew1) | exact HB.out)⟩
 ·
  rw [if_neg c5] at H
  have aU : ((ac.length : Int) == 0) = false := beq_eq_false_iff_ne.mpr c5
  have aV : ((ac.length : Int) != 0) = true := bne_iff_ne.mpr c5
  have bi : ¬ (ac = []) := fun h_ => c5 (by rw [h_]; rfl)
  obtain ⟨aj, A9, H⟩ := bs H
  (try dsimp -simprocs only at H)
  by_cases aD : aj < 0
  ·
   rw [if_pos aD] at H
   have aE : decide (aj < 0) = true := decide_eq_true aD
   clear aD
   obtain ⟨aq, bj, H⟩ := bs H
   (try dsimp -simprocs only at H)
   simp only [Option.some.injEq, Prod.mk.injEq] at H
   obtain ⟨rfl, rfl, rfl⟩ := H
   go_enter Try.func167, Try.ntmps167
   go_wp2_with (first | ((with_reducible refine gate_callee (f := 179) rfl ?_); refine goesL_ (some 12) rfl rfl Try.func179 (by kernel_rfl) rfl #[.slice A0 l0.length c0] rfl lu ?_; (with_reducible refine (nat_short.calls k (fun k_ => ((P0_ k_ ∨ P1_ k_) ∨ w.heap.size ≤ k_)) _ _ l0 ae _ ?side1 A3.out).mono ?_); (case side1 => exact vz af.out); rintro e bC ⟨ax, rfl, ad, hb⟩; refine ⟨_, rfl, ?_⟩; replace af := kv af hb; replace ag := kv ag hb; have aa := ar w.heap.size (ok' := fun k_ => ((P0_ k_ ∨ P1_ k_) ∨ w.heap.size ≤ k_)) ad (fz HB); replace HB := be HB hb; (try clear hb); (try clear ad)) | ((with_reducible refine gate_callee (f := 179) rfl ?_); refine goesL_ (some 14) rfl rfl Try.func179 (by kernel_rfl) rfl #[.slice A1 l1.length c1] rfl lu ?_; (with_reducible refine (nat_short.calls k (fun k_ => ((P0_ k_ ∨ P1_ k_) ∨ w.heap.size ≤ k_)) _ _ l1 ac _ ?side1 A4.out).mono ?_); (case side1 => exact vz ag.out); rintro e bD ⟨ay, rfl, ad, hb⟩; refine ⟨_, rfl, ?_⟩; replace af := kv af hb; replace ag := kv ag hb; replace aa := kv aa hb; have ab := ar w.heap.size (ok' := fun k_ => ((P0_ k_ ∨ P1_ k_) ∨ w.heap.size ≤ k_)) ad (fz HB); replace HB := be HB hb; (try clear hb); (try clear ad); obtain ⟨aW, aX, aY⟩ := Kd.V_slice ab.out; subst aY; obtain ⟨aF, aG, aZ⟩ := Kd.V_slice aa.out; subst aZ) | ((with_reducible refine gate_callee (f := 146) rfl ?_); refine goesL_ (some 22) rfl rfl Try.func146 (by kernel_rfl) rfl #[.slice aF ae.length aG, .slice aW ac.length aX] rfl lu ?_; (with_reducible refine (nat_Cmp.calls k _ _ ae _ _ ac aj _ ?side1 ?side2 ?side3 ?side4 A9.out).mono ?_); (case side1 => exact cu (Kd.V_reads' aa.out).2.2); (case side2 => exact (Kd.V_reads' aa.out).2.1); (case side3 => exact cu (Kd.V_reads' ab.out).2.2); (case side4 => exact (Kd.V_reads' ab.out).2.1); rintro e bE ⟨rfl, hb⟩; refine ⟨_, rfl, ?_⟩; replace af := kv af hb; replace ag := kv ag hb; replace aa := kv aa hb; replace ab := kv ab hb; replace HB := be HB hb; (try clear hb)) | ((with_reducible refine gate_callee (f := 177) rfl ?_); refine goesL_ (some 25) rfl rfl Try.func177 (by kernel_rfl) rfl #[.slice aF ae.length aG] rfl lu ?_; (with_reducible refine (nat_Trim.calls k _ _ ae aq _ ?side1 ?side2 bj.out).mono ?_); (case side1 => exact cu (Kd.V_reads' aa.out).2.2); (case side2 => exact (Kd.V_reads' aa.out).2.1); rintro e bF ⟨bk, rfl, ad, hb⟩; refine ⟨_, rfl, ?_⟩; replace ad := R_V_base rfl ad; replace af := kv af hb; replace ag := kv ag hb; replace aa := kv aa hb; replace ab := kv ab hb; have aH := ar0 w.heap.size (ok' := fun k_ => ((P0_ k_ ∨ P1_ k_) ∨ w.heap.size ≤ k_)) ad (fz HB); replace HB := be HB hb; (try clear hb); (try clear ad)))
   go_ret3
   exact ⟨_, _, by first | rfl | (simp [errW_none, errW_some] <;> rfl) | (simp [*, errW_none, errW_some] <;> rfl), Kd.V_nil _ _ _ _ _, by (with_reducible repeat (first | apply Kd.V_alloc | apply Kd.V_drewN | apply Kd.V_drew)); exact aH.out, by repeat (first | (with_reducible first | exact HB.out | apply below_alloc | apply pw_below_drewN | apply below_drew1) | exact HB.out)⟩
  ·
   rw [if_neg aD] at H
   have aE : decide (aj < 0) = false := decide_eq_false aD
   clear aD
   by_cases az : (ac.length : Int) = 1
   ·
    rw [if_pos az] at H
    have aI : ((ac.length : Int) == 1) = true := beq_iff_eq.mpr az
    have aJ : ((ac.length : Int) != 1) = false := bne_eq_false_iff_eq.mpr az
    clear az
    by_cases aS : 0 < (ac.length : Int)
    ·
     rw [if_pos aS] at H
     have bf : decide (0 < (ac.length : Int)) = true := decide_eq_true aS
     have bg : decide (0 < ac.length) = true := decide_eq_true (by omega)
     clear aS
     obtain ⟨⟨a0, aA⟩, bl, H⟩ := bs H
     (try dsimp -simprocs only at H)
     obtain ⟨au, bm, H⟩ := bs H
     (try dsimp -simprocs only at H)
     simp only [Option.some.injEq, Prod.mk.injEq] at H
     obtain ⟨rfl, rfl, rfl⟩ := H
     go_enter Try.func167, Try.ntmps167
     go_wp2_with (first | ((with_reducible refine gate_callee (f := 179) rfl ?_); refine goesL_ (some 12) rfl rfl Try.func179 (by kernel_rfl) rfl #[.slice A0 l0.length c0] rfl lu ?_; (with_reducible refine (nat_short.calls k (fun k_ => ((P0_ k_ ∨ P1_ k_) ∨ w.heap.size ≤ k_)) _ _ l0 ae _ ?side1 A3.out).mono ?_); (case side1 => exact vz af.out); rintro e bG ⟨ax, rfl, ad, hb⟩; refine ⟨_, rfl, ?_⟩; replace af := kv af hb; replace ag := kv ag hb; have aa := ar w.heap.size (ok' := fun k_ => ((P0_ k_ ∨ P1_ k_) ∨ w.heap.size ≤ k_)) ad (fz HB); replace HB := be HB hb; (try clear hb); (try clear ad)) | ((with_reducible refine gate_callee (f := 179) rfl ?_); refine goesL_ (some 14) rfl rfl Try.func179 (by kernel_rfl) rfl #[.slice A1 l1.length c1] rfl lu ?_; (with_reducible refine (nat_short.calls k (fun k_ => ((P0_ k_ ∨ P1_ k_) ∨ w.heap.size ≤ k_)) _ _ l1 ac _ ?side1 A4.out).mono ?_); (case side1 => exact vz ag.out); rintro e bH ⟨ay, rfl, ad, hb⟩; refine ⟨_, rfl, ?_⟩; replace af := kv af hb; replace ag := kv ag hb; replace aa := kv aa hb; have ab := ar w.heap.size (ok' := fun k_ => ((P0_ k_ ∨ P1_ k_) ∨ w.heap.size ≤ k_)) ad (fz HB); replace HB := be HB hb; (try clear hb); (try clear ad); obtain ⟨a1, a2, a3⟩ := Kd.V_slice ab.out; subst a3; obtain ⟨aK, aL, a4⟩ := Kd.V_slice aa.out; subst a4) | ((with_reducible refine gate_callee (f := 146) rfl ?_); refine goesL_ (some 22) rfl rfl Try.func146 (by kernel_rfl) rfl #[.slice aK ae.length aL, .slice a1 ac.length a2] rfl lu ?_; (with_reducible refine (nat_Cmp.calls k _ _ ae _ _ ac aj _ ?side1 ?side2 ?side3 ?side4 A9.out).mono ?_); (case side1 => exact cu (Kd.V_reads' aa.out).2.2); (case side2 => exact (Kd.V_reads' aa.out).2.1); (case side3 => exact cu (Kd.V_reads' ab.out).2.2); (case side4 => exact (Kd.V_reads' ab.out).2.1); rintro e bI ⟨rfl, hb⟩; refine ⟨_, rfl, ?_⟩; replace af := kv af hb; replace ag := kv ag hb; replace aa := kv aa hb; replace ab := kv ab hb; replace HB := be HB hb; (try clear hb); have p976 : 0 ≤ (0 : Int) := (by omega); have q976 : 0 < (ac.length : Int) := of_decide_eq_true (by first | (with_reducible assumption) | assumption); obtain ⟨ad976, e976, ak⟩ := Kd.at_int (Kd.V_reads' ab.out).2.2 0 p976 q976; cases e976; have qi976 : (0 < ac.length) = True := eq_true (by omega); (try rw [show ((0 : Int)).toNat = 0 from rfl] at ak); (try rw [Addr.add_zero'] at ak); replace p976 := eq_true p976; replace q976 := eq_true q976) | ((with_reducible refine gate_callee (f := 186) rfl ?_); refine goesL_ (some 35) rfl rfl Try.func186 (by kernel_rfl) rfl #[.slice aK ae.length aL, .int .u32 (rd ac 0)] rfl lu ?_; (with_reducible refine (nat_digit.calls k _ _ ae (rd ac 0) a0 aA _ ?side1 ?side2 bl.out).mono ?_); (case side1 => exact cu (Kd.V_reads' aa.out).2.2); (case side2 => exact (Kd.V_reads' aa.out).2.1); rintro e bJ ⟨bn, rfl, ad, hb⟩; refine ⟨_, rfl, ?_⟩; replace af := kv af hb; replace ag := kv ag hb; replace aa := kv aa hb; replace ab := kv ab hb; have al := ar0 w.heap.size (ok' := fun k_ => ((P0_ k_ ∨ P1_ k_) ∨ w.heap.size ≤ k_)) ad (fz HB); replace HB := be HB hb; (try clear hb); (try clear ad)) | ((with_reducible refine gate_callee (f := 141) rfl ?_); refine goesL_ (some 41) rfl rfl Try.func141 (by kernel_rfl) rfl #[.int .u64 (IntKind.u64.wrap (aA))] rfl lu ?_; (with_reducible refine (nat_Of.calls k (IntKind.u64.wrap (aA)) au _ bm.out).mono ?_); rintro e bK ⟨bo, rfl, ad, hb⟩; refine ⟨_, rfl, ?_⟩; replace ad := R_V_base rfl ad; replace af := kv af hb; replace ag := kv ag hb; replace aa := kv aa hb; replace ab := kv ab hb; replace al := kv al hb; have aM := ar0 w.heap.size (ok' := fun k_ => ((P0_ k_ ∨ P1_ k_) ∨ w.heap.size ≤ k_)) ad (fz HB); replace HB := be HB hb; (try clear hb); (try clear ad)))
     go_ret3
     exact ⟨_, _, by first | rfl | (simp [errW_none, errW_some] <;> rfl) | (simp [*, errW_none, errW_some] <;> rfl), by (with_reducible repeat (first | apply Kd.V_alloc | apply Kd.V_drewN | apply Kd.V_drew)); exact al.out, by (with_reducible repeat (first | apply Kd.V_alloc | apply Kd.V_drewN | apply Kd.V_drew)); exact aM.out, by repeat (first | (with_reducible first | exact HB.out | apply below_alloc | apply pw_below_drewN | apply below_drew1) | exact HB.out)⟩
    ·
     rw [if_neg aS] at H
     exact absurd H (by simp)
   ·
    rw [if_neg az] at H
    have aI : ((ac.length : Int) == 1) = false := beq_eq_false_iff_ne.mpr az
    have aJ : ((ac.length : Int) != 1) = true := bne_iff_ne.mpr az
    obtain ⟨⟨aB, aC⟩, bp, H⟩ := bs H
    (try dsimp -simprocs only at H)
    obtain ⟨av, bq, H⟩ := bs H
    (try dsimp -simprocs only at H)
    obtain ⟨aw, br, H⟩ := bs H
    (try dsimp -simprocs only at H)
    simp only [Option.some.injEq, Prod.mk.injEq] at H
    obtain ⟨rfl, rfl, rfl⟩ := H
    go_enter Try.func167, Try.ntmps167
    go_wp2_with (first | ((with_reducible refine gate_callee (f := 179) rfl ?_); refine goesL_ (some 12) rfl rfl Try.func179 (by kernel_rfl) rfl #[.slice A0 l0.length c0] rfl lu ?_; (with_reducible refine (nat_short.calls k (fun k_ => ((P0_ k_ ∨ P1_ k_) ∨ w.heap.size ≤ k_)) _ _ l0 ae _ ?side1 A3.out).mono ?_); (case side1 => exact vz af.out); rintro e bL ⟨ax, rfl, ad, hb⟩; refine ⟨_, rfl, ?_⟩; replace af := kv af hb; replace ag := kv ag hb; have aa := ar w.heap.size (ok' := fun k_ => ((P0_ k_ ∨ P1_ k_) ∨ w.heap.size ≤ k_)) ad (fz HB); replace HB := be HB hb; (try clear hb); (try clear ad)) | ((with_reducible refine gate_callee (f := 179) rfl ?_); refine goesL_ (some 14) rfl rfl Try.func179 (by kernel_rfl) rfl #[.slice A1 l1.length c1] rfl lu ?_; (with_reducible refine (nat_short.calls k (fun k_ => ((P0_ k_ ∨ P1_ k_) ∨ w.heap.size ≤ k_)) _ _ l1 ac _ ?side1 A4.out).mono ?_); (case side1 => exact vz ag.out); rintro e bM ⟨ay, rfl, ad, hb⟩; refine ⟨_, rfl, ?_⟩; replace af := kv af hb; replace ag := kv ag hb; replace aa := kv aa hb; have ab := ar w.heap.size (ok' := fun k_ => ((P0_ k_ ∨ P1_ k_) ∨ w.heap.size ≤ k_)) ad (fz HB); replace HB := be HB hb; (try clear hb); (try clear ad); obtain ⟨aN, aO, a5⟩ := Kd.V_slice ab.out; subst a5; obtain ⟨aP, aQ, a6⟩ := Kd.V_slice aa.out; subst a6) | ((with_reducible refine gate_callee (f := 146) rfl ?_); refine goesL_ (some 22) rfl rfl Try.func146 (by kernel_rfl) rfl #[.slice aP ae.length aQ, .slice aN ac.length aO] rfl lu ?_; (with_reducible refine (nat_Cmp.calls k _ _ ae _ _ ac aj _ ?side1 ?side2 ?side3 ?side4 A9.out).mono ?_); (case side1 => exact cu (Kd.V_reads' aa.out).2.2); (case side2 => exact (Kd.V_reads' aa.out).2.1); (case side3 => exact cu (Kd.V_reads' ab.out).2.2); (case side4 => exact (Kd.V_reads' ab.out).2.1); rintro e bN ⟨rfl, hb⟩; refine ⟨_, rfl, ?_⟩; replace af := kv af hb; replace ag := kv ag hb; replace aa := kv aa hb; replace ab := kv ab hb; replace HB := be HB hb; (try clear hb)) | ((with_reducible refine gate_callee (f := 187) rfl ?_); refine goesL_ (some 45) rfl rfl Try.func187 (by kernel_rfl) rfl #[.slice aP ae.length aQ, .slice aN ac.length aO] rfl lu ?_; (with_reducible refine (nat_long.calls _ _ ae _ _ ac aB aC _ ?side1 ?side2 ?side3 ?side4 bp.out).mono ?_); (case side1 => exact cu (Kd.V_reads' aa.out).2.2); (case side2 => exact (Kd.V_reads' aa.out).2.1); (case side3 => exact cu (Kd.V_reads' ab.out).2.2); (case side4 => exact (Kd.V_reads' ab.out).2.1); rintro e bO ⟨bv, bw, rfl, ad, aT, hb⟩; refine ⟨_, rfl, ?_⟩; replace ad := R_V_base rfl ad; replace aT := R_V_base rfl aT; replace af := kv af hb; replace ag := kv ag hb; replace aa := kv aa hb; replace ab := kv ab hb; have ah := ar0 w.heap.size (ok' := fun k_ => ((P0_ k_ ∨ P1_ k_) ∨ w.heap.size ≤ k_)) ad (fz HB); have ai := ar0 w.heap.size (ok' := fun k_ => ((P0_ k_ ∨ P1_ k_) ∨ w.heap.size ≤ k_)) aT (fz HB); replace HB := be HB hb; (try clear hb); (try clear ad); (try clear aT); obtain ⟨a7, a8, a9⟩ := Kd.V_slice ah.out; subst a9) | ((with_reducible refine gate_callee (f := 177) rfl ?_); refine goesL_ (some 49) rfl rfl Try.func177 (by kernel_rfl) rfl #[.slice a7 aB.length a8] rfl lu ?_; (with_reducible refine (nat_Trim.calls k _ _ aB av _ ?side1 ?side2 bq.out).mono ?_); (case side1 => exact cu (Kd.V_reads' ah.out).2.2); (case side2 => exact (Kd.V_reads' ah.out).2.1); rintro e bP ⟨bx, rfl, ad, hb⟩; refine ⟨_, rfl, ?_⟩; replace ad := R_V_base rfl ad; replace af := kv af hb; replace ag := kv ag hb; replace aa := kv aa hb; replace ab := kv ab hb; replace ah := kv ah hb; replace ai := kv ai hb; have an := ar0 w.heap.size (ok' := fun k_ => ((P0_ k_ ∨ P1_ k_) ∨ w.heap.size ≤ k_)) ad (fz HB); replace HB := be HB hb; (try clear hb); (try clear ad); obtain ⟨ba, bb, bd⟩ := Kd.V_slice ai.out; subst bd) | ((with_reducible refine gate_callee (f := 177) rfl ?_); refine goesL_ (some 51) rfl rfl Try.func177 (by kernel_rfl) rfl #[.slice ba aC.length bb] rfl lu ?_; (with_reducible refine (nat_Trim.calls k _ _ aC aw _ ?side1 ?side2 br.out).mono ?_); (case side1 => exact cu (Kd.V_reads' ai.out).2.2); (case side2 => exact (Kd.V_reads' ai.out).2.1); rintro e bQ ⟨bz, rfl, ad, hb⟩; refine ⟨_, rfl, ?_⟩; replace ad := R_V_base rfl ad; replace af := kv af hb; replace ag := kv ag hb; replace aa := kv aa hb; replace ab := kv ab hb; replace ah := kv ah hb; replace ai := kv ai hb; replace an := kv an hb; have aR := ar0 w.heap.size (ok' := fun k_ => ((P0_ k_ ∨ P1_ k_) ∨ w.heap.size ≤ k_)) ad (fz HB); replace HB := be HB hb; (try clear hb); (try clear ad)))
    go_ret3
    exact ⟨_, _, by first | rfl | (simp [errW_none, errW_some] <;> rfl) | (simp [*, errW_none, errW_some] <;> rfl), by (with_reducible repeat (first | apply Kd.V_alloc | apply Kd.V_drewN | apply Kd.V_drew)); exact an.out, by (with_reducible repeat (first | apply Kd.V_alloc | apply Kd.V_drewN | apply Kd.V_drew)); exact aR.out, by repeat (first | (with_reducible first | exact HB.out | apply below_alloc | apply pw_below_drewN | apply below_drew1) | exact HB.out)⟩
def nat_Gcd.l0 : Nat → List Int → List Int → Option (List Int)
 | 0, _, _ => none
 | k + 1, x0, x1 => if (x1.length : Int) > 0 then ((nat_DivMod.f k x0 x1).bind fun bt1002 => (nat_Gcd.l0 k x1 bt1002.2.1)) else ((nat_Trim.f k x0).bind fun t1009 => (some t1009))
def nat_Gcd.f (k : Nat) (l0 : List Int) (l1 : List Int) : Option (List Int) := (nat_short.f k l0).bind fun t996 => ((nat_short.f k l1).bind fun t999 => (nat_Gcd.l0 k t996 t999))
theorem nat_Gcd.calls (k : Nat) (A0 : Option Addr) (c0 : Nat) (l0 : List Int) (A1 : Option Addr) (c1 : Nat) (l1 : List Int) (r : List Int) (w : World) (hr0 : Kd.C (Kd.int .u32) w A0 l0.length l0) (hc0 : l0.length ≤ c0) (hr1 : Kd.C (Kd.int .u32) w A1 l1.length l1) (hc1 : l1.length ≤ c1) (h : nat_Gcd.f k l0 l1 = some r) :
 Calls Try.prog 182 #[.slice A0 l0.length c0, .slice A1 l1.length c1] w fun e w' => ∃ v0_ : Value, e = .returned (v0_) ∧ Kd.R (Kd.int .u32) 48 w' w.heap.size (fun _ => True) v0_ r ∧ Below w.heap.size w w' := by
 have aI := am hr0
 have aJ := am hc0
 clear hr0 hc0
 have aK := am hr1
 have aL := am hc1
 clear hr1 hc1
 have HB := am (Below.refl w.heap.size w)
 have H : ((nat_short.f k l0).bind fun af => ((nat_short.f k l1).bind fun ag => (nat_Gcd.l0 k af ag))) = some r := h
 clear h
 obtain ⟨af, A3, H⟩ := bs H
 (try dsimp -simprocs only at H)
 obtain ⟨ag, A4, H⟩ := bs H
 replace H : (nat_Gcd.l0 k af ag) = some r := H
 have H' := am H
 clear H
 go_enter Try.func182, Try.ntmps182
 go_wp2_with (first | ((with_reducible refine gate_callee (f := 179) rfl ?_); refine goesL_ (some 9) rfl rfl Try.func179 (by kernel_rfl) rfl #[.slice A0 l0.length c0] rfl lu ?_; (with_reducible refine (nat_short.calls k (fun k_ => k_ < w.heap.size) _ _ l0 af _ ?side1 A3.out).mono ?_); (case side1 => exact Kd.V_mk aJ.out (Kd.F_below (Kd.C_F (Kd.heap_int .u32) aI.out) (bu HB.out))); rintro e w5 ⟨aM, rfl, ae, hb⟩; refine ⟨_, rfl, ?_⟩; have ah := am (Kd.V_lower (Kd.V_mono (ok' := fun k_ => True) ae (fun k_ hk_ => trivial)) (below_size (bu HB.out))); replace HB := be HB hb; (try clear hb); (try clear ae)) | ((with_reducible refine gate_callee (f := 179) rfl ?_); refine goesL_ (some 11) rfl rfl Try.func179 (by kernel_rfl) rfl #[.slice A1 l1.length c1] rfl lu ?_; (with_reducible refine (nat_short.calls k (fun k_ => k_ < w.heap.size) _ _ l1 ag _ ?side1 A4.out).mono ?_); (case side1 => exact Kd.V_mk aL.out (Kd.F_below (Kd.C_F (Kd.heap_int .u32) aK.out) (bu HB.out))); rintro e w6 ⟨aD, rfl, ae, hb⟩; refine ⟨_, rfl, ?_⟩; replace ah := kv ah hb; have ak := am (Kd.V_lower (Kd.V_mono (ok' := fun k_ => True) ae (fun k_ hk_ => trivial)) (below_size (bu HB.out))); replace HB := be HB hb; (try clear hb); (try clear ae)))
 go_loopg [0, 1] k (fun kq v0 v1 w' => ∃ (ad : List Int) (aa : List Int), Aside0 (nat_Gcd.l0 kq ad aa = some r) ∧ Aside0 (kq ≤ k) ∧ Aside0 (Kd.V (Kd.int .u32) 48 w' w.heap.size (fun _ => True) v0 ad) ∧ Aside0 (Kd.V (Kd.int .u32) 48 w' w.heap.size (fun _ => True) v1 aa) ∧ Aside0 (Below w.heap.size w w'))
 case atStart => exact ⟨(af), (ag), H', ⟨Nat.le_refl _⟩, ⟨by (with_reducible repeat (first | apply Kd.V_alloc | apply Kd.V_drewN | apply Kd.V_drew)); exact ah.out⟩, ⟨by (with_reducible repeat (first | apply Kd.V_alloc | apply Kd.V_drewN | apply Kd.V_drew)); exact ak.out⟩, ⟨by repeat (first | (with_reducible first | exact HB.out | apply below_alloc | apply pw_below_drewN | apply below_drew1) | exact HB.out)⟩⟩
 case round =>
  clear H'
  try clear c1
  try clear p2
  obtain ⟨ad, aa, HA, HK1, ab, ac, HB⟩ := hrel
  cases gk with
  | zero => exact absurd HA.out (by simp [nat_Gcd.l0])
  | succ k1 =>
   have H := HA.out
   clear HA
   simp only [nat_Gcd.l0] at H
   by_cases c7 : (aa.length : Int) > 0
   ·
    rw [if_pos c7] at H
    have aq : decide (0 < (aa.length : Int)) = true := decide_eq_true c7
    have au : decide (0 < aa.length) = true := decide_eq_true (by omega)
    clear c7
    obtain ⟨⟨ao, ai, ap⟩, A8, H⟩ := bs H
    replace H : (nat_Gcd.l0 k1 aa ai) = some r := H
    have H' := am H
    clear H
    obtain ⟨aN, aO, aP⟩ := Kd.V_slice ac.out
    subst aP
    obtain ⟨av, aw, ax⟩ := Kd.V_slice ab.out
    subst ax
    go_wp2_with (first | ((with_reducible refine gate_callee (f := 167) rfl ?_); refine goesL_ (some 18) rfl rfl Try.func167 (by kernel_rfl) rfl #[.slice av ad.length aw, .slice aN aa.length aO] rfl lu ?_; (with_reducible refine (nat_DivMod.calls k1 (fun k_ => True) _ _ ad (fun k_ => True) _ _ aa ao ai ap _ ?side1 ?side2 A8.out).mono ?_); (case side1 => exact vz ab.out); (case side2 => exact vz ac.out); rintro e aT ⟨aE, aF, rfl, ae, aG, hb⟩; refine ⟨_, rfl, ?_⟩; replace ab := kv ab hb; replace ac := kv ac hb; have ay := am (Kd.V_lower (Kd.V_mono (ok' := fun k_ => True) ae (fun k_ hk_ => trivial)) (below_size (bu HB.out))); have al := am (Kd.V_lower (Kd.V_mono (ok' := fun k_ => True) aG (fun k_ hk_ => trivial)) (below_size (bu HB.out))); replace HB := be HB hb; (try clear hb); (try clear ae); (try clear aG)))
    go_roundg k1
    case measure => have := HK1.out; omega
    case rel => exact ⟨(aa), (ai), H', ⟨by have := HK1.out; omega⟩, ⟨by (with_reducible repeat (first | apply Kd.V_alloc | apply Kd.V_drewN | apply Kd.V_drew)); exact ac.out⟩, ⟨by (with_reducible repeat (first | apply Kd.V_alloc | apply Kd.V_drewN | apply Kd.V_drew)); exact al.out⟩, ⟨by repeat (first | (with_reducible first | exact HB.out | apply below_alloc | apply pw_below_drewN | apply below_drew1) | exact HB.out)⟩⟩
   ·
    rw [if_neg c7] at H
    have aq : decide (0 < (aa.length : Int)) = false := decide_eq_false c7
    have au : decide (0 < aa.length) = false := decide_eq_false (by omega)
    clear c7
    obtain ⟨aj, aQ, H⟩ := bs H
    replace H : (some aj) = some r := H
    obtain rfl := Option.some.inj H
    obtain ⟨aR, aS, az⟩ := Kd.V_slice ac.out
    subst az
    obtain ⟨aA, aB, aC⟩ := Kd.V_slice ab.out
    subst aC
    go_wp2_with (first | ((with_reducible refine gate_callee (f := 177) rfl ?_); refine goesL_ (some 25) rfl rfl Try.func177 (by kernel_rfl) rfl #[.slice aA ad.length aB] rfl lu ?_; (with_reducible refine (nat_Trim.calls k1 _ _ ad aj _ ?side1 ?side2 aQ.out).mono ?_); (case side1 => exact cu (Kd.V_reads' ab.out).2.2); (case side2 => exact (Kd.V_reads' ab.out).2.1); rintro e aU ⟨aH, rfl, ae, hb⟩; refine ⟨_, rfl, ?_⟩; replace ab := am (Kd.V_elder' (vu ab.out) (Kd.R_base ae) hb); replace ac := am (Kd.V_elder' (vu ac.out) (Kd.R_base ae) hb); have an := am (Kd.R_lower ae (below_size (bu HB.out))); replace HB := be HB hb; (try clear hb); (try clear ae)))
    go_ret
    exact ⟨_, by first | rfl | (simp [errW_none, errW_some] <;> rfl) | (simp [*, errW_none, errW_some] <;> rfl), by (with_reducible repeat (first | apply Kd.R_alloc | apply Kd.R_drewN | apply Kd.R_drew)); exact an.out, by repeat (first | (with_reducible first | exact HB.out | apply below_alloc | apply pw_below_drewN | apply below_drew1) | exact HB.out)⟩
def rational_canonical.j0 : Nat → Bool → List Int → List Int → Bool → Option (Bool × List Int × List Int)
 | 0, _, _, _, _ => none
 | k + 1, x0, x1, x2, x15 => if x15 = true then ((rational_one.f).bind fun t1015 => (some (false, ([] : List Int), t1015))) else ((nat_Gcd.f k x1 x2).bind fun t1018 => ((nat_DivMod.f k x1 t1018).bind fun bt1021 => ((nat_DivMod.f k x2 t1018).bind fun bt1028 => (some (x0, bt1021.1, bt1028.1)))))
def rational_canonical.f (k : Nat) (a0 : Bool) (l1 : List Int) (l2 : List Int) : Option (Bool × List Int × List Int) := (nat_Bits.f k l1).bind fun t1013 => (if t1013 = 0 then (rational_canonical.j0 k a0 l1 l2 true) else ((nat_Bits.f k l2).bind fun t1014 => (rational_canonical.j0 k a0 l1 l2 (t1014 == 0))))
theorem rational_canonical.calls (k : Nat) (a0 : Bool) (P1_ : Nat → Prop) (A1 : Option Addr) (c1 : Nat) (l1 : List Int) (P2_ : Nat → Prop) (A2 : Option Addr) (c2 : Nat) (l2 : List Int) (r1 : Bool) (r2 : List Int) (r3 : List Int) (w : World) (hs1 : Kd.V (Kd.int .u32) 48 w w.heap.size (fun k_ => P1_ k_) (.slice A1 l1.length c1) l1) (hs2 : Kd.V (Kd.int .u32) 48 w w.heap.size (fun k_ => P2_ k_) (.slice A2 l2.length c2) l2) (h : rational_canonical.f k a0 l1 l2 = some (r1, r2, r3)) :
 Calls Try.prog 155 #[.bool a0, .slice A1 l1.length c1, .slice A2 l2.length c2] w fun e w' => ∃ v1_ v2_ : Value, e = .returned (.agg #[.bool r1, v1_, v2_]) ∧ Kd.V (Kd.int .u32) 48 w' w.heap.size (fun k_ => ((P1_ k_ ∨ P2_ k_) ∨ w.heap.size ≤ k_)) v1_ r2 ∧ Kd.V (Kd.int .u32) 48 w' w.heap.size (fun k_ => ((P1_ k_ ∨ P2_ k_) ∨ w.heap.size ≤ k_)) v2_ r3 ∧ Below w.heap.size w w' := by
 have bi := Try.underlying67
 have al := am (show Kd.V (Kd.int .u32) 48 w w.heap.size (fun k_ => ((P1_ k_ ∨ P2_ k_) ∨ w.heap.size ≤ k_)) (.slice A1 l1.length c1) l1 from Kd.V_mono hs1 (fun k_ hk => .inl (.inl hk)))
 have aq := am (show Kd.V (Kd.int .u32) 48 w w.heap.size (fun k_ => ((P1_ k_ ∨ P2_ k_) ∨ w.heap.size ≤ k_)) (.slice A2 l2.length c2) l2 from Kd.V_mono hs2 (fun k_ hk => .inl (.inr hk)))
 have HB := am (Below.refl w.heap.size w)
 have H : ((nat_Bits.f k l1).bind fun ae => (if ae = 0 then (rational_canonical.j0 k a0 l1 l2 true) else ((nat_Bits.f k l2).bind fun aj => (rational_canonical.j0 k a0 l1 l2 (aj == 0))))) = some (r1, r2, r3) := h
 clear h
 have aW := am H
 clear H
 go_enter Try.func155, Try.ntmps155
 go_upto_region 1 with (first | ((with_reducible refine gate_dst (N := 6) rfl ?_); refine box_event ?hg (N := 6) ?hd (cs := #[.bool false, .slice none 0 0, .slice none 0 0]) (t := 67) ?hr ?_; (case hd => rfl); (case hg => rfl); (case hr => first | (go_simp; done) | (go_simp; rfl)); intro ac hg w5 hbox hb; replace al := ke al hg hb; replace aq := ke aq hg hb; have aa := am (hbox); have aX := ng hg (bu HB.out); have ab := ng hg (bu HB.out); replace HB := be HB hb; clear hb hbox hg))
 (try simp only [Act.put, List.setIfInBounds_toArray, List.set_cons_zero, List.set_cons_succ])
 go_cut [15] (fun bj wc => ∃ (kq : Nat) (an : Bool), bj = .bool an ∧ Aside0 (rational_canonical.j0 kq a0 l1 l2 an = some (r1, r2, r3)) ∧ Aside0 (kq ≤ k) ∧ Aside0 (Kd.V (Kd.int .u32) 48 wc w.heap.size (fun k_ => ((P1_ k_ ∨ P2_ k_) ∨ w.heap.size ≤ k_) ∧ k_ ≠ ac) (.slice A1 l1.length c1) l1) ∧ Aside0 (Kd.V (Kd.int .u32) 48 wc w.heap.size (fun k_ => ((P1_ k_ ∨ P2_ k_) ∨ w.heap.size ≤ k_) ∧ k_ ≠ ac) (.slice A2 l2.length c2) l2) ∧ Aside0 (wc.heap[ac]? = some (.cells #[.bool false, (.slice none 0 0), (.slice none 0 0)] 67 (0, 0))) ∧ Aside0 (Below w.heap.size w wc))
 case first =>
  have H := aW.out
  clear aW
  obtain ⟨ae, A6, H⟩ := bs H
  (try dsimp -simprocs only at H)
  by_cases c7 : ae = 0
  ·
   rw [if_pos c7] at H
   have ap : (ae == 0) = true := beq_iff_eq.mpr c7
   have ax : (ae != 0) = false := bne_eq_false_iff_eq.mpr c7
   clear c7
   (first | rw [ap] | rw [ax] | (simp only [i64_w, i32_w]; rw [ap]) | skip)
   have H' := am H
   clear H
   go_wp2_with (first | ((with_reducible refine gate_callee (f := 154) rfl ?_); refine goesL_ (some 9) rfl rfl Try.func154 (by kernel_rfl) rfl #[.slice A1 l1.length c1] rfl lu ?_; (with_reducible refine (nat_Bits.calls k _ _ l1 ae _ ?side1 ?side2 A6.out).mono ?_); (case side1 => exact cu (Kd.V_reads' al.out).2.2); (case side2 => exact (Kd.V_reads' al.out).2.1); rintro e w8 ⟨rfl, hb⟩; refine ⟨_, rfl, ?_⟩; replace al := kv al hb; replace aq := kv aq hb; replace aa := kb aa hb; replace HB := be1 HB ab hb; (try clear hb)))
   go_meet
   case rel => exact ⟨_, (true), (by first | rfl | (simp; done) | (simp [*]; done)), H', ⟨by first | omega | exact Nat.le_refl _⟩, ⟨by (with_reducible repeat (first | apply Kd.V_alloc | apply Kd.V_drewN | apply Kd.V_drew)); exact al.out⟩, ⟨by (with_reducible repeat (first | apply Kd.V_alloc | apply Kd.V_drewN | apply Kd.V_drew)); exact aq.out⟩, ⟨by (with_reducible repeat (first | refine blk_drewN ?_ _ | refine blk_drew ?_ | refine blk_alloc ?_ _)); exact aa.out⟩, ⟨by repeat (first | (with_reducible first | exact HB.out | apply below_alloc | apply pw_below_drewN | apply below_drew1 | refine below_set ?_ ab.out) | exact HB.out)⟩⟩
  ·
   rw [if_neg c7] at H
   have ap : (ae == 0) = false := beq_eq_false_iff_ne.mpr c7
   have ax : (ae != 0) = true := bne_iff_ne.mpr c7
   (first | rw [ap] | rw [ax] | (simp only [i64_w, i32_w]; rw [ap]) | skip)
   obtain ⟨aj, A9, H⟩ := bs H
   (try dsimp -simprocs only at H)
   have H' := am H
   clear H
   go_wp2_with (first | ((with_reducible refine gate_callee (f := 154) rfl ?_); refine goesL_ (some 9) rfl rfl Try.func154 (by kernel_rfl) rfl #[.slice A1 l1.length c1] rfl lu ?_; (with_reducible refine (nat_Bits.calls k _ _ l1 ae _ ?side1 ?side2 A6.out).mono ?_); (case side1 => exact cu (Kd.V_reads' al.out).2.2); (case side2 => exact (Kd.V_reads' al.out).2.1); rintro e bo ⟨rfl, hb⟩; refine ⟨_, rfl, ?_⟩; replace al := kv al hb; replace aq := kv aq hb; replace aa := kb aa hb; replace HB := be1 HB ab hb; (try clear hb)) | (go_at_call 154; (with_reducible refine (nat_Bits.calls k _ _ l2 aj _ ?side1 ?side2 A9.out).mono ?_); (case side1 => exact cu (Kd.V_reads' aq.out).2.2); (case side2 => exact (Kd.V_reads' aq.out).2.1); rintro e bp ⟨rfl, hb⟩; replace al := kv al hb; replace aq := kv aq hb; replace aa := kb aa hb; replace HB := be1 HB ab hb; (try clear hb)))
   go_meet
   case rel => exact ⟨_, ((aj == 0)), (by first | rfl | (simp; done) | (simp [*]; done) | (cases aj <;> first | rfl | (simp; done))), H', ⟨by first | omega | exact Nat.le_refl _⟩, ⟨by (with_reducible repeat (first | apply Kd.V_alloc | apply Kd.V_drewN | apply Kd.V_drew)); exact al.out⟩, ⟨by (with_reducible repeat (first | apply Kd.V_alloc | apply Kd.V_drewN | apply Kd.V_drew)); exact aq.out⟩, ⟨by (with_reducible repeat (first | refine blk_drewN ?_ _ | refine blk_drew ?_ | refine blk_alloc ?_ _)); exact aa.out⟩, ⟨by repeat (first | (with_reducible first | exact HB.out | apply below_alloc | apply pw_below_drewN | apply below_drew1 | refine below_set ?_ ab.out) | exact HB.out)⟩⟩
 case rest =>
  clear aW
  try clear c1
  try clear c2
  try clear p2
  try clear c7
  try clear ap
  try clear ax
  obtain ⟨kq, an, rfl, HA, HJ3, ag, ah, aa, HB⟩ := hcut
  cases kq with
  | zero => exact absurd HA.out (by simp [rational_canonical.j0])
  | succ kj3 =>
   have H := HA.out
   clear HA
   simp only [rational_canonical.j0] at H
   by_cases aJ : an = true
   ·
    subst aJ
    have H1 : ((rational_one.f).bind fun ao => (some (false, ([] : List Int), ao))) = some (r1, r2, r3) := by rw [if_pos rfl] at H; exact H
    clear H
    have H := H1
    clear H1
    obtain ⟨ao, bk, H⟩ := bs H
    (try dsimp -simprocs only at H)
    simp only [Option.some.injEq, Prod.mk.injEq] at H
    obtain ⟨rfl, rfl, rfl⟩ := H
    go_wp2_with (first | ((with_reducible refine gate_callee (f := 161) rfl ?_); refine goesL_ (some 16) rfl rfl Try.func161 (by kernel_rfl) rfl #[] rfl lu ?_; (with_reducible refine (rational_one.calls  ao _ bk.out).mono ?_); rintro e bq ⟨ba, rfl, ak, hb⟩; refine ⟨_, rfl, ?_⟩; replace ak := R_V_base rfl ak; replace ag := kv ag hb; replace ah := kv ah hb; have au := ar0 w.heap.size (ok' := fun k_ => ((P1_ k_ ∨ P2_ k_) ∨ w.heap.size ≤ k_) ∧ k_ ≠ ac) ak (fa (fz1 HB ab) (fb aa)); replace aa := kb aa hb; replace HB := be1 HB ab hb; (try clear hb); (try clear ak); obtain ⟨aY, aZ, a1⟩ := Kd.V_slice au.out; subst a1; obtain ⟨aK, aL, aM, aN, aO, aP⟩ := bz aa))
    refine bodyPost_ret (results_cell_row rfl _ _ ac 67 #[.bool false, .slice none 0 0, .slice aY ao.length aZ] (0, 0) _ rfl (kp aa.out) Try.underlying67 rfl (by kernel_rfl)) rfl ?_
    exact ⟨_, _, by first | rfl | (simp [errW_none, errW_some] <;> rfl) | (simp [*, errW_none, errW_some] <;> rfl), Kd.V_nil _ _ _ _ _, by exact vf au.out, by repeat (first | (with_reducible first | exact HB.out | apply below_alloc | apply pw_below_drewN | apply below_drew1 | refine below_set ?_ ab.out) | exact HB.out)⟩
   ·
    replace aJ := Bool.eq_false_iff.mpr aJ
    subst aJ
    have H1 : ((nat_Gcd.f kj3 l1 l2).bind fun af => ((nat_DivMod.f kj3 l1 af).bind fun aA => ((nat_DivMod.f kj3 l2 af).bind fun aB => (some (a0, aA.1, aB.1))))) = some (r1, r2, r3) := by rw [if_neg (show ¬ (false = true) by decide)] at H; exact H
    clear H
    have H := H1
    clear H1
    obtain ⟨af, bl, H⟩ := bs H
    (try dsimp -simprocs only at H)
    obtain ⟨⟨ay, aC, aD⟩, bm, H⟩ := bs H
    (try dsimp -simprocs only at H)
    obtain ⟨⟨az, aE, aF⟩, bn, H⟩ := bs H
    (try dsimp -simprocs only at H)
    simp only [Option.some.injEq, Prod.mk.injEq] at H
    obtain ⟨rfl, rfl, rfl⟩ := H
    go_wp2_with (first | ((with_reducible refine gate_callee (f := 182) rfl ?_); refine goesL_ (some 20) rfl rfl Try.func182 (by kernel_rfl) rfl #[.slice A1 l1.length c1, .slice A2 l2.length c2] rfl lu ?_; (with_reducible refine (nat_Gcd.calls kj3 _ _ l1 _ _ l2 af _ ?side1 ?side2 ?side3 ?side4 bl.out).mono ?_); (case side1 => exact cu (Kd.V_reads' ag.out).2.2); (case side2 => exact (Kd.V_reads' ag.out).2.1); (case side3 => exact cu (Kd.V_reads' ah.out).2.2); (case side4 => exact (Kd.V_reads' ah.out).2.1); rintro e br ⟨bb, rfl, ak, hb⟩; refine ⟨_, rfl, ?_⟩; replace ak := R_V_base rfl ak; replace ag := kv ag hb; replace ah := kv ah hb; have ad := ar0 w.heap.size (ok' := fun k_ => ((P1_ k_ ∨ P2_ k_) ∨ w.heap.size ≤ k_) ∧ k_ ≠ ac) ak (fa (fz1 HB ab) (fb aa)); replace aa := kb aa hb; replace HB := be1 HB ab hb; (try clear hb); (try clear ak); obtain ⟨aG, aH, a2⟩ := Kd.V_slice ad.out; subst a2) | ((with_reducible refine gate_callee (f := 167) rfl ?_); refine goesL_ (some 24) rfl rfl Try.func167 (by kernel_rfl) rfl #[.slice A1 l1.length c1, .slice aG af.length aH] rfl lu ?_; (with_reducible refine (nat_DivMod.calls kj3 (fun k_ => (((P1_ k_ ∨ P2_ k_) ∨ w.heap.size ≤ k_) ∧ k_ ≠ ac)) _ _ l1 (fun k_ => (((P1_ k_ ∨ P2_ k_) ∨ w.heap.size ≤ k_) ∧ k_ ≠ ac)) _ _ af ay aC aD _ ?side1 ?side2 bm.out).mono ?_); (case side1 => exact vz ag.out); (case side2 => exact vz ad.out); rintro e bv ⟨bd, bf, rfl, ak, aI, hb⟩; refine ⟨_, rfl, ?_⟩; replace ag := kv ag hb; replace ah := kv ah hb; replace ad := kv ad hb; have ai := ar w.heap.size (ok' := fun k_ => ((P1_ k_ ∨ P2_ k_) ∨ w.heap.size ≤ k_) ∧ k_ ≠ ac) ak (fa (fz1 HB ab) (fb aa)); have av := ar w.heap.size (ok' := fun k_ => ((P1_ k_ ∨ P2_ k_) ∨ w.heap.size ≤ k_) ∧ k_ ≠ ac) aI (fa (fz1 HB ab) (fb aa)); replace aa := kb aa hb; replace HB := be1 HB ab hb; (try clear hb); (try clear ak); (try clear aI)) | ((with_reducible refine gate_callee (f := 167) rfl ?_); refine goesL_ (some 31) rfl rfl Try.func167 (by kernel_rfl) rfl #[.slice A2 l2.length c2, .slice aG af.length aH] rfl lu ?_; (with_reducible refine (nat_DivMod.calls kj3 (fun k_ => (((P1_ k_ ∨ P2_ k_) ∨ w.heap.size ≤ k_) ∧ k_ ≠ ac)) _ _ l2 (fun k_ => (((P1_ k_ ∨ P2_ k_) ∨ w.heap.size ≤ k_) ∧ k_ ≠ ac)) _ _ af az aE aF _ ?side1 ?side2 bn.out).mono ?_); (case side1 => exact vz ah.out); (case side2 => exact vz ad.out); rintro e bw ⟨bg, bh, rfl, ak, aI, hb⟩; refine ⟨_, rfl, ?_⟩; replace ag := kv ag hb; replace ah := kv ah hb; replace ad := kv ad hb; replace ai := kv ai hb; replace av := kv av hb; have aw := ar w.heap.size (ok' := fun k_ => ((P1_ k_ ∨ P2_ k_) ∨ w.heap.size ≤ k_) ∧ k_ ≠ ac) ak (fa (fz1 HB ab) (fb aa)); have a3 := ar w.heap.size (ok' := fun k_ => ((P1_ k_ ∨ P2_ k_) ∨ w.heap.size ≤ k_) ∧ k_ ≠ ac) aI (fa (fz1 HB ab) (fb aa)); replace aa := kb aa hb; replace HB := be1 HB ab hb; (try clear hb); (try clear ak); (try clear aI); obtain ⟨a4, a5, a6⟩ := Kd.V_slice aw.out; subst a6; obtain ⟨a7, a8, a9⟩ := Kd.V_slice ai.out; subst a9; obtain ⟨aQ, aR, aS, aT, aU, aV⟩ := bz aa))
    refine bodyPost_ret (results_cell_row rfl _ _ ac 67 #[.bool a0, .slice a7 ay.length a8, .slice a4 az.length a5] (0, 0) _ rfl (kp aa.out) Try.underlying67 rfl (by kernel_rfl)) rfl ?_
    exact ⟨_, _, by first | rfl | (simp [errW_none, errW_some] <;> rfl) | (simp [*, errW_none, errW_some] <;> rfl), by exact vf ai.out, by exact vf aw.out, by repeat (first | (with_reducible first | exact HB.out | apply below_alloc | apply pw_below_drewN | apply below_drew1 | refine below_set ?_ ab.out) | exact HB.out)⟩
def rational_Trim.f (k : Nat) (a0_0 : Bool) (l0_1 : List Int) (l0_2 : List Int) : Option (Bool × List Int × List Int) := (rational_canonical.f k a0_0 l0_1 l0_2).bind fun bt1256 => (some (bt1256.1, bt1256.2.1, bt1256.2.2))
theorem rational_Trim.calls (k : Nat) (a0_0 : Bool) (P0_1_ : Nat → Prop) (A0_1 : Option Addr) (c0_1 : Nat) (l0_1 : List Int) (P0_2_ : Nat → Prop) (A0_2 : Option Addr) (c0_2 : Nat) (l0_2 : List Int) (r1 : Bool) (r2 : List Int) (r3 : List Int) (w : World) (hs0_1 : Kd.V (Kd.int .u32) 48 w w.heap.size (fun k_ => P0_1_ k_) (.slice A0_1 l0_1.length c0_1) l0_1) (hs0_2 : Kd.V (Kd.int .u32) 48 w w.heap.size (fun k_ => P0_2_ k_) (.slice A0_2 l0_2.length c0_2) l0_2) (h : rational_Trim.f k a0_0 l0_1 l0_2 = some (r1, r2, r3)) :
 Calls Try.prog 87 #[.agg #[.bool a0_0, .slice A0_1 l0_1.length c0_1, .slice A0_2 l0_2.length c0_2]] w fun e w' => ∃ v1_ v2_ : Value, e = .returned (.agg #[.bool r1, v1_, v2_]) ∧ Kd.V (Kd.int .u32) 48 w' w.heap.size (fun k_ => ((P0_1_ k_ ∨ P0_2_ k_) ∨ w.heap.size ≤ k_)) v1_ r2 ∧ Kd.V (Kd.int .u32) 48 w' w.heap.size (fun k_ => ((P0_1_ k_ ∨ P0_2_ k_) ∨ w.heap.size ≤ k_)) v2_ r3 ∧ Below w.heap.size w w' := by
 have aP := Try.underlying67
 have ad := am (show Kd.V (Kd.int .u32) 48 w w.heap.size (fun k_ => ((P0_1_ k_ ∨ P0_2_ k_) ∨ w.heap.size ≤ k_)) (.slice A0_1 l0_1.length c0_1) l0_1 from Kd.V_mono hs0_1 (fun k_ hk => .inl (.inl hk)))
 have ae := am (show Kd.V (Kd.int .u32) 48 w w.heap.size (fun k_ => ((P0_1_ k_ ∨ P0_2_ k_) ∨ w.heap.size ≤ k_)) (.slice A0_2 l0_2.length c0_2) l0_2 from Kd.V_mono hs0_2 (fun k_ hk => .inl (.inr hk)))
 have HB := am (Below.refl w.heap.size w)
 have H : ((rational_canonical.f k a0_0 l0_1 l0_2).bind fun ak => (some (ak.1, ak.2.1, ak.2.2))) = some (r1, r2, r3) := h
 clear h
 obtain ⟨⟨ao, ap, aq⟩, A2, H⟩ := bs H
 (try dsimp -simprocs only at H)
 simp only [Option.some.injEq, Prod.mk.injEq] at H
 obtain ⟨rfl, rfl, rfl⟩ := H
 go_enter Try.func87, Try.ntmps87
 go_wp2_with (first | ((with_reducible refine gate_dst (N := 1) rfl ?_); refine box_event ?hg (N := 1) ?hd (cs := #[.bool a0_0, .slice A0_1 l0_1.length c0_1, .slice A0_2 l0_2.length c0_2]) (t := 67) ?hr ?_; (case hd => rfl); (case hg => rfl); (case hr => first | (go_simp; done) | (go_simp; rfl)); intro ag hg w3 hbox hb; replace ad := ke ad hg hb; replace ae := ke ae hg hb; have aa := am (hbox); have au := ng hg (bu HB.out); have ab := ng hg (bu HB.out); replace HB := be HB hb; clear hb hbox hg) | ((with_reducible refine gate_dst (N := 2) rfl ?_); refine box_event ?hg (N := 2) ?hd (cs := #[.bool false, .slice none 0 0, .slice none 0 0]) (t := 67) ?hr ?_; (case hd => rfl); (case hg => rfl); (case hr => first | (go_simp; done) | (go_simp; rfl)); intro af hg w4 hbox hb; replace ad := ke ad hg hb; replace ae := ke ae hg hb; have ac := am (hbox); have av := ng hg (bu1 HB.out ab.out); have ah := ng hg (bu1 HB.out ab.out); replace HB := be1 HB ab hb; have ai := nl hg aa; have aj := nr hg aa; replace aa := kb aa hb; clear hb hbox hg; have aQ := ai.out; have aR := aj.out; obtain ⟨aw, ax, ay, az, aA, aB⟩ := bz aa) | ((with_reducible refine gate_callee (f := 155) rfl ?_); refine goesL_ (some 9) rfl rfl Try.func155 (by kernel_rfl) rfl #[.bool a0_0, .slice A0_1 l0_1.length c0_1, .slice A0_2 l0_2.length c0_2] rfl lu ?_; (with_reducible refine (rational_canonical.calls k a0_0 (fun k_ => ((((P0_1_ k_ ∨ P0_2_ k_) ∨ w.heap.size ≤ k_) ∧ k_ ≠ ag) ∧ k_ ≠ af)) _ _ l0_1 (fun k_ => ((((P0_1_ k_ ∨ P0_2_ k_) ∨ w.heap.size ≤ k_) ∧ k_ ≠ ag) ∧ k_ ≠ af)) _ _ l0_2 ao ap aq _ ?side1 ?side2 A2.out).mono ?_); (case side1 => exact vz ad.out); (case side2 => exact vz ae.out); rintro e w7 ⟨aL, aM, rfl, aN, aO, hb⟩; refine ⟨_, rfl, ?_⟩; replace ad := kv ad hb; replace ae := kv ae hb; have al := ar w.heap.size (ok' := fun k_ => ((P0_1_ k_ ∨ P0_2_ k_) ∨ w.heap.size ≤ k_) ∧ k_ ≠ ag ∧ k_ ≠ af) aN (fa (fz2 HB ab ah) (fa (fb aa) (fb ac))); have an := ar w.heap.size (ok' := fun k_ => ((P0_1_ k_ ∨ P0_2_ k_) ∨ w.heap.size ≤ k_) ∧ k_ ≠ ag ∧ k_ ≠ af) aO (fa (fz2 HB ab ah) (fa (fb aa) (fb ac))); replace aa := kb aa hb; replace ac := kb ac hb; replace HB := be2 HB ab ah hb; (try clear hb); (try clear aN); (try clear aO); obtain ⟨aC, aD, aE, aF, aG, aH⟩ := bz ac; obtain ⟨aS, aT, aU⟩ := Kd.V_slice al.out; subst aU; obtain ⟨aI, aJ, aK⟩ := Kd.V_slice an.out; subst aK))
 refine bodyPost_ret (results_cell_row rfl _ _ af 67 #[.bool ao, .slice aS ap.length aT, .slice aI aq.length aJ] (0, 0) _ rfl (kp ac.out) Try.underlying67 rfl (by kernel_rfl)) rfl ?_
 exact ⟨_, _, by first | rfl | (simp [errW_none, errW_some] <;> rfl) | (simp [*, errW_none, errW_some] <;> rfl), by exact vf al.out, by exact vf an.out, by repeat (first | (with_reducible first | exact HB.out | apply below_alloc | apply pw_below_drewN | apply below_drew1 | refine below_set ?_ ab.out | refine below_set ?_ ah.out) | exact HB.out)⟩
end Go.Proofs.Ytecfdemglbfnoaa.PT
end
